/- A token's text, walked. -/
import Derived.Test.YtbamohcaamgalacWalkF
namespace Go.Proofs.Ytbamohcaamgalac
set_option linter.unusedVariables false
set_option linter.unusedSimpArgs false
open Go.RowKit

theorem run_at (w : World) (C : Array Value) (j : Nat) (v : Value) (hj : j < 16) (h : C[j]? = some v) : (Instr.index 40 (.agg C) (.int .i64 (j : Int))).run Try.prog w = .ok v w := by
  have hj2 : (j : Int) < 16 := by omega
  simp [Instr.index, run_underlying Try.underlying40, asIntOf, part, hj2, hj, h, go_sem, Try.isAgg5]
theorem signs_at : ∀ V, V < 32 → (ByteArray.mk #[97, 98, 99, 100, 101, 102, 103, 104, 105, 106, 107, 108, 109, 110, 111, 112, 113, 114, 115, 116, 117, 118, 119, 120, 121, 122, 50, 51, 52, 53, 54, 55])[V]? = some (sign V) := by decide +kernel
theorem run_signs (w : World) (V : Nat) (h : V < 32) : (Instr.index 9 (.string { data := #[97, 98, 99, 100, 101, 102, 103, 104, 105, 106, 107, 108, 109, 110, 111, 112, 113, 114, 115, 116, 117, 118, 119, 120, 121, 122, 50, 51, 52, 53, 54, 55] }) (.int .u64 (V : Int))).run Try.prog w = .ok (.int .u8 ((sign V).toNat : Int)) w := by
  have hs : (ByteArray.mk #[97, 98, 99, 100, 101, 102, 103, 104, 105, 106, 107, 108, 109, 110, 111, 112, 113, 114, 115, 116, 117, 118, 119, 120, 121, 122, 50, 51, 52, 53, 54, 55]).size = 32 := rfl
  have ha := signs_at V h
  rw [run_index_string _ _ _ _ _ Try.underlying9]
  generalize (ByteArray.mk #[97, 98, 99, 100, 101, 102, 103, 104, 105, 106, 107, 108, 109, 110, 111, 112, 113, 114, 115, 116, 117, 118, 119, 120, 121, 122, 50, 51, 52, 53, 54, 55]) = B at *
  rw [dif_pos ⟨by omega, by omega⟩]
  obtain ⟨_, hb⟩ := getElem?_eq_some_iff.1 ha
  simp only [Int.toNat_natCast, hb]
theorem or_small (a n c : Nat) (hc : c < 256) (ha : a < 4096) : bits BinOp.or IntKind.u64 ((a : Int) * 256) (c : Int) = ((a * 256 + c : Nat) : Int) := by
  have h := u64_or_nat (a * 256) c (by omega) (by omega)
  have e : a * 256 ||| c = a * 256 + c := by
    have := Nat.two_pow_add_eq_or_of_lt (i := 8) (b := c) (by omega) a
    rw [Nat.mul_comm a 256]; exact this.symm
  rw [e] at h
  rw [← h]; simp
theorem and31 (a : Nat) (ha : a < 18446744073709551616) : bits BinOp.and IntKind.u64 (a : Int) 31 = ((a % 32 : Nat) : Int) := by
  have h := u64_and_nat a 31 ha (by decide)
  rw [show (31 : Nat) = 2 ^ 5 - 1 from rfl, Nat.and_two_pow_sub_one_eq_mod] at h
  exact h
theorem and31_int (R m V : Nat) (hR : R < 4096) (h : R / 2 ^ m % 32 = V) : bits BinOp.and IntKind.u64 ((R : Int) / 2 ^ m) 31 = (V : Int) := by
  have e : (R : Int) / 2 ^ m = ((R / 2 ^ m : Nat) : Int) := by simp
  have := Nat.div_le_self R (2 ^ m)
  rw [e, and31 _ (by omega), h]
theorem less_int (R m V : Nat) (hR : R < 8192) (hm : m ≤ 12) (h : R % 2 ^ m = V) : bits BinOp.and IntKind.u64 (R : Int) ((2 : Int) ^ m - 1) = (V : Int) := by
  have hp : 2 ^ m ≤ 2 ^ 12 := Nat.pow_le_pow_right (by decide) hm
  have hq := Nat.two_pow_pos m
  have e : ((2 : Int) ^ m - 1) = ((2 ^ m - 1 : Nat) : Int) := by rw [Int.natCast_sub (by omega)]; simp
  rw [e, u64_and_nat R (2 ^ m - 1) (by omega) (by omega), Nat.and_two_pow_sub_one_eq_mod, h]
theorem and31_4 (R V : Nat) (hR : R < 16) (h : R * 4 % 32 = V) : bits BinOp.and IntKind.u64 ((R : Int) * 4) 31 = (V : Int) := by
  have := and31 (R * 4) (by omega)
  rw [h] at this
  exact this
theorem pow_int8 (m : Nat) (h : m ≤ 7) : (0 : Int) < 2 ^ m ∧ (2 : Int) ^ m ≤ 128 := by
  have h1 := Nat.two_pow_pos m
  have h2 : 2 ^ m ≤ 2 ^ 7 := Nat.pow_le_pow_right (by decide) h
  have e : ((2 : Int) ^ m) = ((2 ^ m : Nat) : Int) := by simp
  rw [e]; omega
theorem pow_wrap (m : Nat) (h : m ≤ 7) : IntKind.u64.wrap ((2 : Int) ^ m) = 2 ^ m ∧ IntKind.u64.wrap ((2 : Int) ^ m - 1) = 2 ^ m - 1 := by
  obtain ⟨h1, h2⟩ := pow_int8 m h
  exact ⟨IntWalk.u64_in _ ⟨by omega, by omega⟩, IntWalk.u64_in _ ⟨by omega, by omega⟩⟩
theorem pow_le12 (m n : Nat) (h : m ≤ n) : 2 ^ m ≤ 2 ^ n := Nat.pow_le_pow_right (by decide) h
set_option maxRecDepth 100000 in
set_option maxHeartbeats 2000000 in
theorem make_any (id rev : Nat) (w : World) (hid : id < 4294967296) (hrev : rev < 18446744073709551616) :
    Calls Try.prog 8 #[.int .u32 id, .int .u64 rev] w fun e w' => e = .returned (.string ⟨(text (made id rev)).toArray⟩) ∧ Below w.heap.size w w' := by
  obtain ⟨i0, z0, hi, hz, hzs, his⟩ := info40_parts
  go_enter Try.func8, Try.ntmps8
  go_wp2_with fail
  refine (made_any id rev _ hid hrev).mono ?_
  rintro e w1 ⟨rfl, hb1⟩
  generalize hl : made id rev = l
  have hlen : l.length = 16 := by rw [← hl]; exact length_made _ _
  obtain ⟨C, hC⟩ : ∃ C, C = (bytesV l).toArray := ⟨_, rfl⟩
  have hCs : C.size = 16 := by rw [hC]; simp [length_bytesV, hlen]
  have hCj : ∀ j, j < 16 → C[j]? = some (.int .u8 ((l.getD j 0).toNat : Int)) := by
    intro j hj
    rw [hC, List.getElem?_toArray, bytesV_get l j (by omega)]
  have hone : C.all (·.oneCell') = true := by
    rw [hC, Array.all_eq_true']
    intro x hx
    exact bytesV_one _ x (by simpa using hx)
  have hsz' : (Try.prog.info? 40).map (·.size) = some C.size := by rw [hCs, hi, Option.map_some, his]
  rw [← hC]
  have HCj := Lib.hid hCj
  have HO := Lib.hid hone
  have HS' := Lib.hid hsz'
  have HZ : Hid (z0.cells.size = C.size) := by rw [hCs]; exact hzs
  have HL := Lib.hid hlen
  have HLl := Lib.hid hl
  clear hl hlen hC hCs hCj hone hsz'
  go_wp2_with (first
    | (refine wpList_alloc_row w1 rfl 40 rfl i0 z0 hi hz ?_; intro w2 hh2 hg2 hs2)
    | (refine wpList_store_arr w2 rfl rfl 40 _ _ rfl w1.heap.size 40 z0.cells C rfl rfl hh2 HS'.out HZ.out HO.out ?_; intro w3 hh3 hg3 hs3; have hlt3 : w1.heap.size < w3.heap.size := (by rw [hs3, hs2]; exact Nat.lt_succ_self _); have hh4 : (w3.alloc (.cells #[.pointer none, .slice none 0 0] 44)).heap[w1.heap.size]? = some (.cells C 40 (0, 0)) := (Lib.alloc_old w3 _ _ hlt3).trans hh3)
    | (refine wpList_load_row rfl 40 _ rfl w1.heap.size rfl 40 C (0, 0) _ hh4 Try.underlying40 (by kernel_rfl) HS'.out ?_))
  have hs31 : w3.heap.size = w1.heap.size + 1 := by omega
  have hB3 : Below w.heap.size w w3 := (Below.none hb1 hb1.size hg2).grown hg3 (by have := hb1.size; omega) (fun k hk => by cases hk; exact hb1.size)
  obtain ⟨b, hb⟩ : ∃ b, b = w1.heap.size + 1 := ⟨_, rfl⟩
  have hbb : b = w3.heap.size := by omega
  have hfresh := Lib.fresh_isBuilder 44 5 w3
  have hB4 : Below w.heap.size w (w3.alloc (.cells #[.pointer none, .slice none 0 0] 44)) := hB3.alloc (by have := hb1.size; omega) _
  rw [← hbb] at hfresh
  have hbw : w.heap.size ≤ b := by have := hb1.size; omega
  have hb4 : b ≤ (w3.alloc (.cells #[.pointer none, .slice none 0 0] 44)).heap.size := by simp; omega
  rw [← hb]
  generalize (w3.alloc (.cells #[.pointer none, .slice none 0 0] 44)) = w4 at *
  have hbs : b ≤ w4.heap.size := hb4
  clear hh2 hg2 hs2 hh3 hg3 hs3 hlt3 hh4 hs31 hB3 hb hbb hb1 hb4
  go_loopw [7, 8, 15] (fun bits n i wr => ∃ j t m : Nat, j ≤ 16 ∧ 8 * j = 5 * t + m ∧ m < 5 ∧ i = .int .i64 j ∧ bits = .int .u64 (rest (numB l) j m : Nat) ∧ n = .int .i64 m ∧ Lib.IsBuilder 44 5 b b (bytesV ((text l).take t)) wr ∧ Below w.heap.size w wr ∧ b ≤ wr.heap.size) (fun _ _ i _ => 16 - (intOf i).toNat)
  case atStart => exact ⟨0, 0, 0, by omega, by omega, by omega, rfl, by simp [rest, Nat.mod_one], rfl, hfresh, hB4, hbs⟩
  case round =>
    clear hfresh hB4 hbs
    obtain ⟨j, t, m, hj, hjt, hm, rfl, rfl, rfl, hbld, hB, hbs⟩ := hrel
    have hr := rest_lt (numB l) j m
    have hr16 : rest (numB l) j m < 16 := Nat.lt_of_lt_of_le hr (pow_le12 m 4 (by omega))
    clear hr
    by_cases hlt : j < 16
    · have hix := fun W => run_at W C j _ hlt (HCj.out j hlt)
      have HM := Lib.hid (rest_more l HL.out j m hlt)
      have HOR := Lib.hid (or_small (rest (numB l) j m) m (l.getD j 0).toNat (l.getD j 0).toNat_lt (by omega))
      generalize hR : rest (numB l) j m = R at *
      generalize l.getD j 0 = c at *
      have hc := c.toNat_lt
      have hdj : decide ((j : Int) < 16) = true := by simp; omega
      clear hR
      go_wp2_with fail
      obtain ⟨wo, hwo⟩ : ∃ wo : World, wo = wr := ⟨_, rfl⟩
      subst hwo
      go_loopw [7, 8] (fun bits n wr => ∃ t m : Nat, 8 * (j + 1) = 5 * t + m ∧ m < 13 ∧ bits = .int .u64 (rest (numB l) (j + 1) m : Nat) ∧ n = .int .i64 m ∧ Lib.IsBuilder 44 5 b b (bytesV ((text l).take t)) wr ∧ Below w.heap.size w wr ∧ b ≤ wr.heap.size) (fun _ n _ => (intOf n).toNat)
      case atStart => exact ⟨t, m + 8, by omega, by omega, by rw [HOR.out, HM.out], by go_num, hbld, hB, hbs⟩
      case round =>
        clear hbld hB hbs hix HM HOR
        obtain ⟨t, m, hjt, hm, rfl, rfl, hbld, hB, hbs⟩ := hrel
        by_cases h5 : 5 ≤ m
        · obtain ⟨m', rfl⟩ : ∃ m', m = m' + 5 := ⟨m - 5, by omega⟩
          have hr := rest_lt (numB l) (j + 1) (m' + 5)
          have hr16 : rest (numB l) (j + 1) (m' + 5) < 4096 := Nat.lt_of_lt_of_le hr (pow_le12 _ 12 (by omega))
          clear hr
          obtain ⟨hw1, hw2⟩ := pow_wrap m' (by omega)
          have h31 := and31_int _ m' _ hr16 (rest_sign (numB l) (j + 1) m' t (by omega) (by omega))
          have hls := less_int _ m' _ (by omega) (by omega) (rest_less (numB l) (j + 1) m')
          have hV : numB l * 4 / 2 ^ (5 * (25 - t)) % 32 < 32 := Nat.mod_lt _ (by decide)
          have HT := Lib.hid (text_take (numB l) t (by omega))
          generalize numB l * 4 / 2 ^ (5 * (25 - t)) % 32 = V at *
          generalize rest (numB l) (j + 1) (m' + 5) = R at *
          generalize hR' : rest (numB l) (j + 1) m' = R' at *
          have HR' := Lib.hid hR'
          clear hR'
          have hsg := fun W => run_signs W V hV
          have hlt2 : (bytesV ((text l).take t)).length + 1 ≤ 140737488355328 := by rw [length_bytesV, List.length_take]; omega
          go_wp2_with fail
          refine (writeByte_any b b _ _ _ hbld hlt2 hbs).mono ?_
          rintro e w5 ⟨rfl, hbld5, hb5⟩
          have hB5 := hB.trans (hb5.mono hbw)
          have hbs5 := Nat.le_trans hbs hb5.size
          go_wp2_with fail
          go_roundw
          case rel =>
            refine ⟨t + 1, m', by omega, by omega, by rw [HR'.out], rfl, Or.inr ?_, hB5, hbs5⟩
            have e : bytesV ((text l).take (t + 1)) = bytesV ((text l).take t) ++ [.int .u8 ((sign V).toNat : Int)] := by rw [text, HT.out, bytesV_append]; rfl
            rw [e]; exact hbld5
          case measure => simp [intOf]; omega
        · go_wp2_with fail
          go_roundw
          case rel => exact ⟨j + 1, t, m, by omega, by omega, by omega, by go_num, rfl, rfl, hbld, hB, hbs⟩
          case measure => simp [intOf]; omega
    · obtain rfl : j = 16 := by omega
      obtain rfl : m = 3 := by omega
      obtain rfl : t = 25 := by omega
      have hV : numB l * 4 / 2 ^ (5 * (25 - 25)) % 32 < 32 := Nat.mod_lt _ (by decide)
      have HT := Lib.hid (text_take (numB l) 25 (by omega))
      have hla := rest_last (numB l)
      have h31 := and31_4 (rest (numB l) 16 3) _ hr16 hla
      generalize numB l * 4 / 2 ^ (5 * (25 - 25)) % 32 = V at *
      generalize rest (numB l) 16 3 = R at *
      have hsg := fun W => run_signs W V hV
      have hlt2 : (bytesV ((text l).take 25)).length + 1 ≤ 140737488355328 := by rw [length_bytesV, List.length_take]; omega
      clear hla
      go_wp2_with fail
      refine (writeByte_any b b _ _ _ hbld hlt2 hbs).mono ?_
      rintro e w5 ⟨rfl, hbld5, hb5⟩
      have hB5 := hB.trans (hb5.mono hbw)
      have e : bytesV (text l) = bytesV ((text l).take 25) ++ [.int .u8 ((sign V).toNat : Int)] := by
        rw [← List.take_of_length_le (l := text l) (i := 25 + 1) (by rw [text, length_textN]; omega), text, HT.out, bytesV_append]
        rw [List.take_append_of_le_length (by rw [List.length_take, length_textN]; omega), List.take_take]
        rfl
      rw [← e] at hbld5
      clear e hsg h31
      go_wp2_with fail
      refine (string_any b b (text l) _ hbld5 (fun h => by have := length_textN (numB l); rw [← text, h] at this; cases this)).mono ?_
      rintro e w6 ⟨rfl, hb6⟩
      go_wp2_with fail
      go_ret
      exact ⟨by rw [HLl.out]; rfl, hB5.trans (hb6.mono hbw)⟩
end Go.Proofs.Ytbamohcaamgalac
