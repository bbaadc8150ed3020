/- Two tokens' bytes held against each other; the place of a sign. -/
import Derived.Test.YtbamohcaamgalacWalkG
namespace Go.Proofs.Ytbamohcaamgalac
set_option linter.unusedVariables false
set_option linter.unusedSimpArgs false
open Go.RowKit
theorem cell_eq (x y : Int) (w : World) (d : Nat) : (Op.equalIn (d+1) 5 (.int .u8 x) (.int .u8 y)).run Try.prog w = .ok (x == y) w := by
  simp [Op.equalIn, run_underlying Try.underlying5]
theorem part_at (l : List UInt8) (j : Nat) (hj : j < l.length) (w : World) : (part 5 (bytesV l).toArray j).run Try.prog w = .ok (.int .u8 ((l.getD j 0).toNat : Int)) w := by
  have h : (bytesV l).toArray[j]? = some (.int .u8 ((l.getD j 0).toNat : Int)) := by rw [List.getElem?_toArray, bytesV_get l j hj]
  unfold part
  simp [Try.isAgg5, h]
theorem drop_getD (l : List UInt8) (m : Nat) (h : m < l.length) : l.drop m = l.getD m 0 :: l.drop (m + 1) := by
  rw [List.drop_eq_getElem_cons h, List.getD_eq_getElem?_getD, List.getElem?_eq_getElem h]; rfl
theorem loop_eq (a b : List UInt8) (ha : a.length = 16) (hb : b.length = 16) (d : Nat) (w : World) : ∀ n m, m + n = 16 →
    (forIn (List.range' m n) ((none : Option Bool), ()) fun i __s => (do
            let __do_lift ← part 5 (bytesV a).toArray i
            let __do_lift_1 ← part 5 (bytesV b).toArray i
            let __do_lift ← Op.equalIn (d + 1) 5 __do_lift __do_lift_1
            if __do_lift = false then pure (ForInStep.done (some false, ())) else pure (ForInStep.yield (none, ())) : Sem (ForInStep (Option Bool × Unit)))).run Try.prog w = .ok (if a.drop m = b.drop m then (none, ()) else (some false, ())) w := by
  intro n
  induction n with
  | zero =>
    intro m hm
    obtain rfl : m = 16 := by omega
    rw [List.drop_of_length_le (by omega), List.drop_of_length_le (by omega)]
    simp
  | succ n ih =>
    intro m hm
    rw [List.range'_succ, List.forIn_cons, drop_getD a m (by omega), drop_getD b m (by omega)]
    simp only [Sem.run_bind, part_at a m (by omega) w, part_at b m (by omega) w, Result.andThen_ok, cell_eq]
    by_cases hx : a.getD m 0 = b.getD m 0
    · have h1 : (((a.getD m 0).toNat : Int) == ((b.getD m 0).toNat : Int)) = true := by rw [hx]; simp
      rw [h1]
      simp only [Bool.true_eq_false, if_false, Sem.run_pure, Result.andThen_ok]
      rw [ih (m + 1) (by omega), hx]
      simp
    · have h1 : (((a.getD m 0).toNat : Int) == ((b.getD m 0).toNat : Int)) = false := by
        rw [beq_eq_false_iff_ne]; intro h; exact hx (UInt8.toNat_inj.1 (by omega))
      rw [h1]
      simp only [if_true, Sem.run_pure, Result.andThen_ok]
      rw [if_neg (by intro h; exact hx (List.cons.inj h).1)]
theorem eq_raw (a b : List UInt8) (ha : a.length = 16) (hb : b.length = 16) (w : World) : (binOp .neq 40 (.agg (bytesV a).toArray) (.agg (bytesV b).toArray)).run Try.prog w = .ok (.bool (!(decide (a = b)))) w := by
  have h : ∀ d, (Op.equalIn (d + 1 + 1) 40 (.agg (bytesV a).toArray) (.agg (bytesV b).toArray)).run Try.prog w = .ok (decide (a = b)) w := by
    intro d
    have hl := loop_eq a b ha hb d w 16 0 rfl
    rw [Op.equalIn]
    simp only [List.drop_zero] at hl
    simp [run_underlying Try.underlying40, Try.sizeOf5]
    rw [hl]
    by_cases hab : a = b
    · simp [hab]
    · simp [hab]
  simp only [binOp]
  simp [Op.equal, Op.maxDepth, h 9998]
theorem index_sign : ∀ c : UInt8, Lib.indexByte signs c = if isSign c = true then (val c : Int) else -1 := by
  have h : ∀ n : Fin 256, Lib.indexByte signs (UInt8.ofNat n.val) = if isSign (UInt8.ofNat n.val) = true then (val (UInt8.ofNat n.val) : Int) else -1 := by decide +kernel
  intro c
  have := h ⟨c.toNat, c.toNat_lt⟩
  simp only [UInt8.ofNat_toNat] at this
  exact this
theorem sign_yes (c : UInt8) (w : World) (h : isSign c = true) :
    Calls Try.prog 19 #[.string { data := #[97, 98, 99, 100, 101, 102, 103, 104, 105, 106, 107, 108, 109, 110, 111, 112, 113, 114, 115, 116, 117, 118, 119, 120, 121, 122, 50, 51, 52, 53, 54, 55] }, .int .u8 (c.toNat : Int)] w fun e w' => e = .returned (.int .i64 (val c : Int)) ∧ w' = w := by
  refine (indexByte_any _ _ _).mono fun e w' hh => ⟨?_, hh.2⟩
  have e2 : ((c.toNat : Int)).toNat.toUInt8 = c := by rw [Int.toNat_natCast]; exact UInt8.ofNat_toNat
  have := index_sign c
  rw [if_pos h] at this
  rw [hh.1, e2]
  exact congrArg (fun z => Ending.returned (.int .i64 z)) this
theorem sign_no (c : UInt8) (w : World) (h : isSign c = false) :
    Calls Try.prog 19 #[.string { data := #[97, 98, 99, 100, 101, 102, 103, 104, 105, 106, 107, 108, 109, 110, 111, 112, 113, 114, 115, 116, 117, 118, 119, 120, 121, 122, 50, 51, 52, 53, 54, 55] }, .int .u8 (c.toNat : Int)] w fun e w' => e = .returned (.int .i64 (-1)) ∧ w' = w := by
  refine (indexByte_any _ _ _).mono fun e w' hh => ⟨?_, hh.2⟩
  have e2 : ((c.toNat : Int)).toNat.toUInt8 = c := by rw [Int.toNat_natCast]; exact UInt8.ofNat_toNat
  have := index_sign c
  rw [if_neg (by rw [h]; decide)] at this
  rw [hh.1, e2]
  exact congrArg (fun z => Ending.returned (.int .i64 z)) this
theorem run_str (w : World) (s : ByteArray) (i : Nat) (h : i < s.size) : (Instr.index 9 (.string s) (.int .i64 (i : Int))).run Try.prog w = .ok (.int .u8 ((s.data.toList.getD i 0).toNat : Int)) w := by
  rw [run_index_string _ _ _ _ _ Try.underlying9, dif_pos ⟨by omega, by omega⟩]
  have e : s.data.toList.getD i 0 = s[i] := by
    rw [List.getD_eq_getElem?_getD, Array.getElem?_toList, Array.getElem?_eq_getElem h]; rfl
  simp only [Int.toNat_natCast, e]
end Go.Proofs.Ytbamohcaamgalac
