/- A number read, walked, both ways. -/
import Derived.Test.YtacjbgmnoiimbabGreatRows
import Derived.Test.YtacjbgmnoiimbabGreatKit
import Derived.Test.YtacjbgmnoiimbabGreatCod
import Derived.ArgAppend
import Derived.Lib.AppendStr
namespace Go.Proofs.YtacjbgmnoiimbabGreat
set_option linter.unusedVariables false
set_option linter.unusedSimpArgs false
open Go.RowKit

theorem and127 (c : UInt8) : bits BinOp.and IntKind.u8 (c.toNat : Int) 127 = ((c.toNat % 128 : Nat) : Int) := by
  have hc := c.toNat_lt
  have h := u8_and_nat c.toNat 127 hc (by decide)
  rw [show (127 : Nat) = 2 ^ 7 - 1 from rfl, Nat.and_two_pow_sub_one_eq_mod] at h
  exact h
theorem or_shift (V m k : Nat) (hV : V < 2 ^ (7 * k)) (h : V + m * 2 ^ (7 * k) < 18446744073709551616) :
    bits BinOp.or IntKind.u64 (V : Int) (IntKind.u64.wrap ((m : Int) * 2 ^ (7 * k))) = ((V + m * 2 ^ (7 * k) : Nat) : Int) := by
  have e : (m : Int) * 2 ^ (7 * k) = ((m * 2 ^ (7 * k) : Nat) : Int) := by simp
  rw [e, IntWalk.u64_in _ ⟨by omega, by omega⟩, u64_or_nat V (m * 2 ^ (7 * k)) (by omega) (by omega)]
  congr 1
  have := Nat.two_pow_add_eq_or_of_lt (i := 7 * k) hV m
  rw [Nat.or_comm, Nat.mul_comm m, ← this, Nat.add_comm]
theorem getE_nine (l : List UInt8) (h : 9 < l.length) (hp : ∀ j, j < 9 → 128 ≤ (l.getD j 0).toNat) (h1 : 1 < (l.getD 9 0).toNat) : getE l = 9 := by
  by_cases hc : (l.getD 9 0).toNat < 128
  · have hm := more_eq l 9 h hp hc
    rw [getE, hm, if_neg (by omega), if_neg (by omega), if_pos (Or.inr ⟨rfl, h1⟩)]
  · have hm : 10 ≤ more l := by
      rcases Nat.lt_or_ge (more l) 10 with hx | hx
      · have hlt : more l < l.length := by omega
        have := more_at l hlt
        by_cases h9 : more l = 9
        · rw [h9] at this; exact absurd this hc
        · have := hp (more l) (by omega); omega
      · exact hx
    rw [getE, if_pos hm]
theorem getE_zero (l : List UInt8) (k : Nat) (h : k < l.length) (hk : k ≤ 9) (hp : ∀ j, j < k → 128 ≤ (l.getD j 0).toNat) (h0 : (l.getD k 0).toNat = 0) (hk0 : 0 < k) : getE l = 9 := by
  have hm := more_eq l k h hp (by omega)
  rw [getE, hm, if_neg (by omega), if_neg (by omega), if_pos (Or.inl ⟨h0, hk0⟩)]
theorem getE_short (l : List UInt8) (hk : l.length ≤ 9) (hp : ∀ j, j < l.length → 128 ≤ (l.getD j 0).toNat) : getE l = 7 := by
  have hm := more_all l hp
  rw [getE, hm, if_neg (by omega), if_pos (Nat.le_refl _)]
theorem getE_good (l : List UInt8) (k : Nat) (h : k < l.length) (hk : k ≤ 9) (hp : ∀ j, j < k → 128 ≤ (l.getD j 0).toNat) (hc : (l.getD k 0).toNat < 128) (h0 : (l.getD k 0).toNat = 0 → k = 0) (h9 : k = 9 → (l.getD k 0).toNat ≤ 1) :
    getE l = 0 ∧ getN l = k + 1 ∧ getV l = low7 (l.take (k + 1)) := by
  have hm := more_eq l k h hp hc
  have hE : getE l = 0 := by
    rw [getE, hm, if_neg (by omega), if_neg (by omega), if_neg]
    rintro (⟨a, b⟩ | ⟨a, b⟩)
    · have := h0 a; omega
    · have := h9 a; rw [a] at this; omega
  exact ⟨hE, by rw [getN, if_pos hE, hm], by rw [getV, if_pos hE, hm]⟩
/-- what reading a number at the head of l answers -/
def GetIs (l : List UInt8) (w : World) (e : Ending) (w' : World) : Prop := e = .returned (.tuple #[.int .u64 (getV l : Nat), .int .i64 (getN l : Nat), .int .i64 (getE l : Nat)]) ∧ w' = w
theorem getIs_bad {l : List UInt8} {w : World} {k : Nat} (h : getE l = k) (hk : k ≠ 0) : GetIs l w (.returned (.tuple #[.int .u64 0, .int .i64 0, .int .i64 (k : Int)])) w := by
  refine ⟨?_, rfl⟩
  rw [getV, getN, if_neg (by omega), if_neg (by omega), h]; rfl
theorem getIs_good {l : List UInt8} {w : World} {k : Nat} (h : getE l = 0 ∧ getN l = k + 1 ∧ getV l = low7 (l.take (k + 1))) : GetIs l w (.returned (.tuple #[.int .u64 (low7 (l.take (k + 1)) : Nat), .int .i64 ((k : Int) + 1), .int .i64 0])) w := by
  refine ⟨?_, rfl⟩
  rw [h.1, h.2.1, h.2.2]; rfl
set_option maxRecDepth 100000 in
set_option maxHeartbeats 2000000 in
theorem get_any (a : Option Addr) (cap : Nat) (l : List UInt8) (w : World) (hl : l.length ≤ 1000000000) (h : IsBytes w a l) :
    Calls Tryz.prog 96 #[.slice a l.length cap] w (GetIs l w) := by
  have H := Lib.hid h
  clear h
  go_enter Tryz.func96, Tryz.ntmps96
  go_wp2_with fail
  go_loop [5, 10] (fun v i => ∃ k : Nat, k ≤ l.length ∧ k ≤ 9 ∧ i = .int .i64 k ∧ v = .int .u64 (low7 (l.take k) : Nat) ∧ Hid (∀ j, j < k → 128 ≤ (l.getD j 0).toNat)) (fun _ i => l.length - (intOf i).toNat)
  case atStart => exact ⟨0, Nat.zero_le _, by omega, rfl, rfl, fun j hj => by omega⟩
  case round =>
    obtain ⟨k, hk, hk9, rfl, rfl, hpre⟩ := hrel
    by_cases hlt : k < l.length
    · obtain ⟨b, off, rfl, hb, hc⟩ := H.out (by omega)
      have hck := hc k hlt
      have hdk : decide ((k : Int) < (l.length : Int)) = true := by simp; omega
      have hvl := low7_take_lt l k
      have ha := and127 (l.getD k 0)
      have HT := Lib.hid (low7_take l k hlt)
      have hu := (l.getD k 0).toNat_lt
      clear hc
      by_cases hF : k = 9 ∧ 1 < (l.getD k 0).toNat
      · obtain ⟨rfl, h1⟩ := hF
        have HG := Lib.hid (getE_nine l hlt hpre.out h1)
        generalize (l.getD 9 0).toNat % 128 = m at *
        generalize (l.getD 9 0) = c at *
        clear hvl
        go_wp2_with fail
        go_ret3
        exact getIs_bad HG.out (by decide)
      · by_cases hZ : (l.getD k 0).toNat = 0 ∧ 0 < k
        · obtain ⟨h0, hk0⟩ := hZ
          have HG := Lib.hid (getE_zero l k hlt hk9 hpre.out h0 hk0)
          rw [h0] at hck ha
          have b9 : k < 9 ∨ k = 9 := by omega
          rcases b9 with b9 | rfl
          · have b9' : ((k : Int) == 9) = false := by simp; omega
            clear hF h0
            generalize (l.getD k 0) = c at *
            clear hvl
            go_wp2_with fail
            go_ret3
            exact getIs_bad HG.out (by decide)
          · clear hF h0
            generalize (l.getD 9 0) = c at *
            clear hvl
            go_wp2_with fail
            go_ret3
            exact getIs_bad HG.out (by decide)
        · have hm : (l.getD k 0).toNat % 128 < 128 := Nat.mod_lt _ (by decide)
          have hfit : low7 (l.take k) + ((l.getD k 0).toNat % 128) * 2 ^ (7 * k) < 18446744073709551616 := by
            by_cases h9 : k = 9
            · subst h9
              have e : (2 : Nat) ^ (7 * 9) = 9223372036854775808 := by decide
              rw [e] at hvl ⊢
              have : ((l.getD 9 0).toNat % 128) * 9223372036854775808 ≤ 1 * 9223372036854775808 := Nat.mul_le_mul_right _ (by omega)
              omega
            · have e1 : 2 ^ (7 * k) ≤ 2 ^ 56 := Nat.pow_le_pow_right (by decide) (by omega)
              have e : (2 : Nat) ^ 56 = 72057594037927936 := by decide
              have : ((l.getD k 0).toNat % 128) * 2 ^ (7 * k) ≤ 127 * 72057594037927936 := Nat.mul_le_mul (by omega) (by omega)
              omega
          have hor := or_shift _ _ k hvl hfit
          rw [← HT.out] at hor
          by_cases hc128 : (l.getD k 0).toNat < 128
          · have HG := Lib.hid (getIs_good (w := w) (getE_good l k hlt hk9 hpre.out hc128 (fun h0 => by omega) (fun h9 => by omega)))
            clear hF HT
            by_cases h9 : k = 9
            · subst h9
              have h1 : (l.getD 9 0).toNat = 1 := by omega
              rw [h1] at hck hor
              have e9 : IntKind.u64.wrap (((1 % 128 : Nat) : Int) * 2 ^ (7 * 9)) = 9223372036854775808 := by decide
              rw [e9] at hor
              have HOR := Lib.hid hor
              have ha1 : bits BinOp.and IntKind.u8 1 127 = 1 := by decide
              clear hvl hfit hZ hc128 ha e9 hor h1
              generalize low7 (l.take (9 + 1)) = V' at *
              go_wp2_with fail
              go_ret3
              have hg := HG.out
              rw [← HOR.out] at hg
              exact hg
            · have b9 : ((k : Int) == 9) = false := by simp; omega
              by_cases hc0 : (l.getD k 0).toNat = 0
              · obtain rfl : k = 0 := by omega
                rw [hc0] at hck
                rw [Nat.add_zero] at hck
                have h00 := low7_take l 0 hlt
                rw [hc0] at h00
                have H00 : Hid (low7 (l.take (0 + 1)) = 0) := by rw [h00]; rfl
                have ha0 : bits BinOp.and IntKind.u8 0 127 = 0 := by decide
                have hl0 : low7 ([] : List UInt8) = 0 := rfl
                have ho0 : bits BinOp.or IntKind.u64 0 0 = 0 := by decide
                clear hvl hfit hZ hc128 ha hor h00
                go_wp2_with fail
                go_ret3
                have hg := HG.out
                rw [H00.out] at hg
                exact hg
              · have b0 : (((l.getD k 0).toNat : Int) == 0) = false := by rw [beq_eq_false_iff_ne]; omega
                have hcd : decide (((l.getD k 0).toNat : Int) < 128) = true := decide_eq_true (by omega)
                clear hvl hfit hZ
                generalize (l.getD k 0).toNat % 128 = m at *
                generalize (l.getD k 0) = c at *
                generalize low7 (l.take (k + 1)) = V' at *
                go_wp2_with fail
                go_ret3
                exact HG.out
          · have h9 : k ≠ 9 := by omega
            have b9 : ((k : Int) == 9) = false := by simp; omega
            have b0 : (((l.getD k 0).toNat : Int) == 0) = false := by rw [beq_eq_false_iff_ne]; omega
            have hcd : decide (((l.getD k 0).toNat : Int) < 128) = false := decide_eq_false (by omega)
            have HP : Hid (∀ j, j < k + 1 → 128 ≤ (l.getD j 0).toNat) := by
              intro j hj
              by_cases hjk : j < k
              · exact hpre.out j hjk
              · obtain rfl : j = k := by omega
                omega
            clear hvl hfit hZ hF
            generalize (l.getD k 0).toNat % 128 = m at *
            generalize (l.getD k 0) = c at *
            generalize hV' : low7 (l.take (k + 1)) = V' at *
            have HV' := Lib.hid hV'
            clear hV'
            go_wp2_with fail
            go_round
            case rel => exact ⟨k + 1, by omega, by omega, by go_num, by rw [HV'.out], HP⟩
            case measure => simp [intOf]; omega
    · obtain rfl : k = l.length := by omega
      have HG := Lib.hid (getE_short l hk9 hpre.out)
      go_wp2_with fail
      go_ret3
      exact getIs_bad HG.out (by decide)
end Go.Proofs.YtacjbgmnoiimbabGreat
namespace Go.Proofs.YtacjbgmnoiimbabGreat
set_option linter.unusedVariables false
set_option linter.unusedSimpArgs false
open Go.RowKit

theorem Tryz.info5 : (Tryz.prog.info? 5).map (fun i => (i.zero, i.size, i.bytes)) = some (some (.int .u8 0), 1, 1) := by kernel_rfl
/-- v reads as l: a slice without room, of the world W; or a row of the call's own -/
def Grow (W w : World) (v : Value) (l : List UInt8) : Prop := (∃ a, v = .slice a l.length l.length ∧ IsBytes W a l) ∨ w.ownsRow W.heap.size 5 1 v l.length (bytesV l)
/-- 'append(out, c)', out without room or the call's own -/
theorem wpList_append_grow {ops : Array Oper} {rest : List Oper} {o : Oper} {A : Act} {Q : Exit → Act → World → Prop} (W w : World) (hgd : o.guard = none) (s x : Operand)
    (ho : o.op = .call { callee := .builtin .append, args := #[s, x], argTypes := #[39, 39] }) (v : Value) (l : List UInt8) (hs : A.eval s = v) (hG : Grow W w v l) (hB : Below W.heap.size W w)
    (z : Int) (c : UInt8) (hz : z = (c.toNat : Int)) (cc : Nat) (hx : A.eval x = .slice (some ⟨w.heap.size, 0, none⟩) 1 cc) (hlen : l.length ≤ 2000000000)
    (h : ∀ v' w', w'.ownsRow W.heap.size 5 1 v' (l ++ [c]).length (bytesV (l ++ [c])) → Below W.heap.size W w' → wpList Tryz.prog ops Q rest (A.put o.dst v') w') :
    wpList Tryz.prog ops Q (o :: rest) A (w.alloc (.cells #[.int .u8 z] 5)) := by
  obtain ⟨i0, hi, hz0, hz1, hz2⟩ := info_parts Tryz.info5
  subst hz
  have e : bytesV (l ++ [c]) = bytesV l ++ [.int .u8 (c.toNat : Int)] := by rw [bytesV_append]; rfl
  have el : (l ++ [c]).length = l.length + 1 := by simp
  rw [e, el] at h
  rcases hG with ⟨a, hv, hb⟩ | hown
  · have hB2 := hB.alloc hB.size (.cells #[.int .u8 (c.toNat : Int)] 5)
    refine wpList_append_grows _ hgd s x 39 ho 5 i0 (.int .u8 0) 1 1 Tryz.underlying39 hi hz0 hz1 hz2 rfl (by decide) a l.length l.length (bytesV l) (hs.trans hv) ?_ (by rw [length_bytesV, Nat.mul_one]) ?_ ⟨w.heap.size, 0, none⟩ 1 cc [.int .u8 (c.toNat : Int)] hx rfl (cell_one_new _ _ _) (by intro u hu; simp at hu; subst hu; rfl) (by omega) (by unfold maxLen; omega) (by omega) ?_
    · intro ha
      subst ha
      have : l = [] := by
        cases l with
        | nil => rfl
        | cons c r => obtain ⟨b, off, h0, _⟩ := hb (by simp); cases h0
      subst this
      exact ⟨rfl, rfl⟩
    · intro b hab j u hj
      subst hab
      have hjl : j < l.length := by have := (List.getElem?_eq_some_iff.1 hj).1; rwa [length_bytesV] at this
      obtain ⟨b', off, h0, hbw, hc⟩ := hb (by omega)
      cases h0
      rw [bytesV_get l j hjl] at hj
      cases hj
      rw [Addr.add_lit]
      exact (hB2.cell (p := ⟨b', off + j, none⟩) hbw).trans (hc j hjl)
    · intro v' w' hown hg
      have hsz := hB2.size
      obtain ⟨g, cap, rfl, hg1, _, _⟩ := row_shape hown (by omega)
      exact h _ _ (row_base hown (Nat.le_trans hsz hg1)) (Below.none hB2 hsz hg)
  · refine wpList_append_one w hgd s x 39 ho W.heap.size 5 i0 (.int .u8 0) 1 Tryz.underlying39 hi hz0 hz1 hz2 rfl v l.length (bytesV l) hs hown (.int .u8 (c.toNat : Int)) cc hx rfl (by omega) (by omega) hB.size ?_
    intro v' w' hown' hg _
    exact h _ _ hown' (Below.own hB hown (Nat.le_refl _) hB.size hg)
theorem or128 (v : Nat) : bits BinOp.or IntKind.u8 ((v : Int) % 256) 128 = (((UInt8.ofNat (v % 128 + 128)).toNat : Nat) : Int) := by
  have h := u8_or_nat (v % 256) 128 (by omega) (by decide)
  have e : v % 256 ||| 128 = v % 128 + 128 := by
    have h1 : ∀ x : Fin 256, x.val ||| 128 = x.val % 128 + 128 := by decide +kernel
    have := h1 ⟨v % 256, Nat.mod_lt _ (by decide)⟩
    simp only at this
    rw [this]; omega
  rw [e] at h
  rw [toNat_ofNat8, Nat.mod_eq_of_lt (by omega), ← h]
  simp
theorem addr128 (v : Nat) : ((v : Int) % 128 + 128) = (((UInt8.ofNat (v % 128 + 128)).toNat : Nat) : Int) := by
  rw [toNat_ofNat8]; omega
theorem byte_of (v : Nat) (h : v < 128) : (v : Int) = (((UInt8.ofNat v).toNat : Nat) : Int) := by
  rw [toNat_ofNat8]; omega
set_option maxRecDepth 100000 in
set_option maxHeartbeats 2000000 in
theorem put_any (a : Option Addr) (cap : Nat) (l : List UInt8) (v : Nat) (w : World) (hl : l.length ≤ 1000000000) (hc : l.length ≤ cap) (hv : v < 18446744073709551616) (h : IsBytes w a l) :
    Calls Tryz.prog 84 #[.slice a l.length cap, .int .u64 v] w fun e w' => ∃ v', e = .returned v' ∧ w'.ownsRow w.heap.size 5 1 v' (l ++ uv v).length (bytesV (l ++ uv v)) ∧ Below w.heap.size w w' := by
  have hlen := uv_len64 v hv
  have hG0 : Grow w w (.slice a l.length l.length) l := Or.inl ⟨a, rfl, h⟩
  clear h
  go_enter Tryz.func84, Tryz.ntmps84
  go_wp2_with fail
  go_loopw [0, 1] (fun b x wr => ∃ (l' : List UInt8) (v' : Nat), Hid (l' ++ uv v' = l ++ uv v) ∧ v' < 18446744073709551616 ∧ x = .int .u64 v' ∧ Grow w wr b l' ∧ Below w.heap.size w wr) (fun _ x _ => (intOf x).toNat)
  case atStart => exact ⟨l, v, rfl, hv, rfl, hG0, Below.refl _ _⟩
  case round =>
    clear hG0
    obtain ⟨l', v', hlv, hv', rfl, hG, hB⟩ := hrel
    have hl' : l'.length ≤ 1000000010 := by
      have := congrArg List.length hlv.out
      rw [List.length_append, List.length_append] at this
      omega
    by_cases h128 : v' < 128
    · have hby := Lib.hid (byte_of v' h128)
      go_wp2_with (at_builtin; refine wpList_append_grow w wr rfl _ _ rfl _ l' (by rfl) hG hB _ (UInt8.ofNat v') hby.out 1 rfl (by omega) ?_; intro v2 w2 hown2 hB2)
      go_ret
      refine ⟨v2, rfl, ?_, hB2⟩
      rw [← hlv.out, uv_small h128]
      exact hown2
    · have hor := or128 v'
      have HU := Lib.hid (uv_big h128)
      have HOR := Lib.hid hor
      clear hor
      go_wp2_with (at_builtin; refine wpList_append_grow w wr rfl _ _ rfl _ l' (by rfl) hG hB _ (UInt8.ofNat (v' % 128 + 128)) HOR.out 1 rfl (by omega) ?_; intro v2 w2 hown2 hB2)
      go_roundw
      case rel =>
        refine ⟨l' ++ [UInt8.ofNat (v' % 128 + 128)], v' / 128, ?_, by omega, by go_num, Or.inr hown2, hB2⟩
        show _ = _
        rw [← hlv.out, HU.out, List.append_assoc]; rfl
      case measure => simp [intOf]; omega
set_option maxRecDepth 100000 in
set_option maxHeartbeats 2000000 in
theorem refput_any (a : Option Addr) (cap : Nat) (l : List UInt8) (v : Nat) (w : World) (hl : l.length ≤ 1000000000) (hv : v < 18446744073709551616) (h : IsBytes w a l) :
    Calls Tryz.prog 51 #[.slice a l.length cap, .int .u64 v] w fun e w' => ∃ v', e = .returned v' ∧ w'.ownsRow w.heap.size 5 1 v' (l ++ uv v).length (bytesV (l ++ uv v)) ∧ Below w.heap.size w w' := by
  obtain ⟨i0, hi, hz0, hz1, hz2⟩ := info_parts Tryz.info5
  have hlen := uv_len64 v hv
  have hnew := World.ownsRow_lit (e := 5) (size := 1) (base := w.heap.size) w #[] 0 (Nat.le_refl _) (by decide) rfl
  have hB0 := (Below.refl w.heap.size w).alloc (Nat.le_refl _) (.cells #[] 5)
  have H := Lib.hid (h.below hB0)
  clear h
  go_enter Tryz.func51, Tryz.ntmps51
  go_wp2_with (at_builtin; refine wpList_append_bytes (w.alloc (.cells #[] 5)) rfl _ _ 39 rfl w.heap.size 5 i0 (.int .u8 0) Tryz.underlying39 hi hz0 hz1 hz2 rfl _ 0 _ rfl hnew _ l.length cap l rfl rfl H.out (by omega) hB0.size ?_; intro v1 w1 hown1 hg1 _; have hB1 := Below.own hB0 hnew (Nat.le_refl _) hB0.size hg1)
  have hown : w1.ownsRow w.heap.size 5 1 v1 l.length (bytesV l) := by rw [Nat.zero_add, List.nil_append] at hown1; exact hown1
  clear hnew hB0 hown1 hg1 H
  go_loopw [1, 5] (fun x b wr => ∃ (l' : List UInt8) (v' : Nat), Hid (l' ++ uv v' = l ++ uv v) ∧ v' < 18446744073709551616 ∧ x = .int .u64 v' ∧ wr.ownsRow w.heap.size 5 1 b l'.length (bytesV l') ∧ Below w.heap.size w wr) (fun x _ _ => (intOf x).toNat)
  case atStart => exact ⟨l, v, rfl, hv, rfl, hown, hB1⟩
  case round =>
    clear hown hB1
    obtain ⟨l', v', hlv, hv', rfl, hown, hB⟩ := hrel
    have hl' : l'.length ≤ 1000000010 := by
      have := congrArg List.length hlv.out
      rw [List.length_append, List.length_append] at this
      omega
    by_cases h128 : v' < 128
    · have hby := Lib.hid (byte_of v' h128)
      go_wp2_with (at_builtin; refine wpList_append_grow w wr rfl _ _ rfl _ l' (by rfl) (Or.inr hown) hB _ (UInt8.ofNat v') hby.out 1 rfl (by omega) ?_; intro v2 w2 hown2 hB2)
      go_ret
      refine ⟨v2, rfl, ?_, hB2⟩
      rw [← hlv.out, uv_small h128]
      exact hown2
    · have hor := addr128 v'
      have HU := Lib.hid (uv_big h128)
      have HOR := Lib.hid hor
      clear hor
      go_wp2_with (at_builtin; refine wpList_append_grow w wr rfl _ _ rfl _ l' (by rfl) (Or.inr hown) hB _ (UInt8.ofNat (v' % 128 + 128)) HOR.out 1 rfl (by omega) ?_; intro v2 w2 hown2 hB2)
      go_roundw
      case rel =>
        refine ⟨l' ++ [UInt8.ofNat (v' % 128 + 128)], v' / 128, ?_, by omega, by go_num, hown2, hB2⟩
        show _ = _
        rw [← hlv.out, HU.out, List.append_assoc]; rfl
      case measure => simp [intOf]; omega
end Go.Proofs.YtacjbgmnoiimbabGreat
namespace Go.Proofs.YtacjbgmnoiimbabGreat
set_option linter.unusedVariables false
set_option linter.unusedSimpArgs false
open Go.RowKit

theorem row_slice {w : World} {base : Nat} {e : TypeId} {size : Nat} {v : Value} {n : Nat} {xs : List Value} (h : w.ownsRow base e size v n xs) : ∃ a m c, v = .slice a m c := by
  rcases h.2 with ⟨h0, _⟩ | ⟨g, cap, cur, hv, _⟩
  · exact ⟨_, _, _, h0⟩
  · exact ⟨_, _, _, hv⟩
theorem row_len' {w : World} {base : Nat} {e : TypeId} {size n m c : Nat} {a : Option Addr} {xs : List Value} (h : w.ownsRow base e size (.slice a m c) n xs) : m = n := by
  rcases h.2 with ⟨h0, h1⟩ | ⟨g, cap, cur, hv, _⟩
  · cases h0; omega
  · cases hv; rfl
theorem row_bytes' {w : World} {base : Nat} {n m c : Nat} {a : Option Addr} {l : List UInt8} (h : w.ownsRow base 5 1 (.slice a m c) n (bytesV l)) : IsBytes w a l := by
  intro h0
  rcases h.2 with ⟨hv, h1⟩ | ⟨g, cap, cur, hv, _⟩
  · have := h.1; rw [length_bytesV] at this; omega
  · cases hv
    exact isBytes_row h h0
theorem row_cap {w : World} {base : Nat} {e : TypeId} {n m c : Nat} {a : Option Addr} {xs : List Value} (h : w.ownsRow base e 1 (.slice a m c) n xs) : n ≤ c := by
  rcases h.2 with ⟨hv, h0⟩ | ⟨g, cap, cur, hv, _, _, hc, _⟩
  · omega
  · cases hv; exact hc
theorem strCells_bytes (s : ByteArray) : Lib.strCells s = bytesV s.data.toList := by
  unfold Lib.strCells bytesV
  simp
theorem size_data (s : ByteArray) : s.data.toList.length = s.size := by simp
set_option maxRecDepth 100000 in
set_option maxHeartbeats 1000000 in
theorem puttext_any (a : Option Addr) (cap : Nat) (l : List UInt8) (s : ByteArray) (w : World) (hl : l.length ≤ 1000000000) (hc : l.length ≤ cap) (hs : s.size ≤ 1000000000) (h : IsBytes w a l) :
    Calls Tryz.prog 86 #[.slice a l.length cap, .string s] w fun e w' => ∃ v', e = .returned v' ∧ w'.ownsRow w.heap.size 5 1 v' (l ++ textE s.data.toList).length (bytesV (l ++ textE s.data.toList)) ∧ Below w.heap.size w w' := by
  obtain ⟨i0, hi, hz0, hz1, hz2⟩ := info_parts Tryz.info5
  have H := Lib.hid h
  have hlen := uv_len64 s.size (by omega)
  clear h
  go_enter Tryz.func86, Tryz.ntmps86
  go_wp2_with fail
  refine (put_any a cap l s.size _ hl hc (by omega) H.out).mono ?_
  rintro e w1 ⟨v1, rfl, hown, hb1⟩
  have hL : (l ++ uv s.size).length = l.length + (uv s.size).length := List.length_append
  go_wp2_with (at_builtin; refine Lib.wpList_append_own_string _ rfl _ _ 39 9 rfl w.heap.size 5 i0 Tryz.underlying39 Tryz.underlying9 hi hz0 hz1 hz2 _ _ _ rfl hown s rfl (by unfold maxLen; omega) (by omega) hb1.size ?_; intro v2 w2 hown2 hg2 _)
  go_ret
  refine ⟨_, rfl, ?_, Below.own hb1 hown (Nat.le_refl _) hb1.size hg2⟩
  rw [strCells_bytes, ← bytesV_append] at hown2
  have e : l ++ textE s.data.toList = l ++ uv s.size ++ s.data.toList := by rw [textE, size_data, List.append_assoc]
  have e2 : (l ++ uv s.size ++ s.data.toList).length = (l ++ uv s.size).length + s.size := by rw [List.length_append, size_data]
  rw [e, e2]
  exact hown2
set_option maxRecDepth 100000 in
set_option maxHeartbeats 1000000 in
theorem refputtext_any (a : Option Addr) (cap : Nat) (l : List UInt8) (s : ByteArray) (w : World) (hl : l.length ≤ 1000000000) (hs : s.size ≤ 1000000000) (h : IsBytes w a l) :
    Calls Tryz.prog 108 #[.slice a l.length cap, .string s] w fun e w' => ∃ v', e = .returned v' ∧ w'.ownsRow w.heap.size 5 1 v' (l ++ textE s.data.toList).length (bytesV (l ++ textE s.data.toList)) ∧ Below w.heap.size w w' := by
  obtain ⟨i0, hi, hz0, hz1, hz2⟩ := info_parts Tryz.info5
  have H := Lib.hid h
  have hlen := uv_len64 s.size (by omega)
  clear h
  go_enter Tryz.func108, Tryz.ntmps108
  go_wp2_with fail
  refine (refput_any a cap l s.size _ hl (by omega) H.out).mono ?_
  rintro e w1 ⟨v1, rfl, hown, hb1⟩
  have hL : (l ++ uv s.size).length = l.length + (uv s.size).length := List.length_append
  go_wp2_with (at_builtin; refine Lib.wpList_append_own_string _ rfl _ _ 39 9 rfl w.heap.size 5 i0 Tryz.underlying39 Tryz.underlying9 hi hz0 hz1 hz2 _ _ _ rfl hown s rfl (by unfold maxLen; omega) (by omega) hb1.size ?_; intro v2 w2 hown2 hg2 _)
  go_ret
  refine ⟨_, rfl, ?_, Below.own hb1 hown (Nat.le_refl _) hb1.size hg2⟩
  rw [strCells_bytes, ← bytesV_append] at hown2
  have e : l ++ textE s.data.toList = l ++ uv s.size ++ s.data.toList := by rw [textE, size_data, List.append_assoc]
  have e2 : (l ++ uv s.size ++ s.data.toList).length = (l ++ uv s.size).length + s.size := by rw [List.length_append, size_data]
  rw [e, e2]
  exact hown2
/-- what reading a text at the head of l answers -/
def GetTextIs (l : List UInt8) (w : World) (e : Ending) (w' : World) : Prop := e = .returned (.tuple #[.string ⟨(gotT l).toArray⟩, .int .i64 (usedT l : Nat), .int .i64 (textN l : Nat)]) ∧ w' = w
theorem getTextIs_bad {l : List UInt8} {w : World} {k : Nat} (h : textN l = k) (hk : k ≠ 0) : GetTextIs l w (.returned (.tuple #[.string { data := #[] }, .int .i64 0, .int .i64 (k : Int)])) w := by
  refine ⟨?_, rfl⟩
  rw [gotT, usedT, if_neg (by omega), if_neg (by omega), h]; rfl
theorem getTextIs_good {l : List UInt8} {w : World} (h : textN l = 0) : GetTextIs l w (.returned (.tuple #[.string ⟨((l.take (getN l + getV l)).drop (getN l)).toArray⟩, .int .i64 ((getN l : Int) + (getV l : Int)), .int .i64 0])) w := by
  refine ⟨?_, rfl⟩
  rw [gotT, usedT, if_pos h, if_pos h, h, List.drop_take, Nat.add_sub_cancel_left]; rfl
set_option maxRecDepth 100000 in
set_option maxHeartbeats 1000000 in
theorem gettext_any (a : Option Addr) (cap : Nat) (l : List UInt8) (w : World) (hl : l.length ≤ 1000000000) (hc : l.length ≤ cap) (h : IsBytes w a l) :
    Calls Tryz.prog 99 #[.slice a l.length cap] w (GetTextIs l w) := by
  obtain ⟨i0, hi, hz0, hz1, hz2⟩ := info_parts Tryz.info5
  have HK := Lib.hid (get_any a cap l w hl h)
  have H := Lib.hid h
  have hle := getN_le l
  clear h
  go_enter Tryz.func99, Tryz.ntmps99
  go_wp2_with fail
  refine HK.out.mono ?_
  rintro e w1 ⟨rfl, rfl⟩
  by_cases hE : getE l = 0
  · by_cases hS : l.length - getN l < getV l
    · have HT := Lib.hid (show textN l = 7 from by rw [textN, if_pos hE, if_pos hS])
      have hv := getV_lt l
      rw [hE]
      generalize getV l = V at *
      generalize getN l = N at *
      clear hE
      go_wp2_with fail
      go_ret3
      exact getTextIs_bad HT.out (by decide)
    · have ht : textN l = 0 := by rw [textN, if_pos hE, if_neg hS]
      have HG := Lib.hid (getTextIs_good (w := w1) ht)
      have hcb := cutA_bytes H.out (lo := getN l) (hi := getN l + getV l) (by omega) hc
      have hlen : ((l.take (getN l + getV l)).drop (getN l)).length = getV l := by rw [List.length_drop, List.length_take]; omega
      have HCB := Lib.hid hcb
      have HLen := Lib.hid hlen
      rw [hE]
      generalize (l.take (getN l + getV l)).drop (getN l) = T at *
      generalize getV l = V at *
      generalize getN l = N at *
      have hcv := run_string_of_bytes (P := Tryz.prog) w1 39 9 5 (cutA a cap N) V (cap - N) T HLen.out Tryz.underlying39 Tryz.underlying5 Tryz.underlying9 HCB.out
      clear hE ht hcb hlen
      go_wp2_with (refine wpList_slice_lh _ rfl _ _ _ 39 rfl 5 i0 Tryz.underlying39 hi hz1 a l.length cap N (N + V) rfl .i64 .i64 _ _ rfl rfl rfl (by omega) (by omega) (by omega) ?_; intro a' ha'; subst ha')
      go_ret3
      exact HG.out
  · have HT := Lib.hid (show textN l = getE l from by rw [textN, if_neg hE])
    have HNZ := Lib.hid hE
    generalize getV l = V at *
    generalize getN l = N at *
    generalize hEE : getE l = E at *
    have b1 : ((E : Int) == 0) = false := by rw [beq_eq_false_iff_ne]; omega
    have b2 : ((E : Int) != 0) = true := by rw [bne_iff_ne]; omega
    clear hE hEE
    go_wp2_with fail
    go_ret3
    exact getTextIs_bad HT.out HNZ.out
end Go.Proofs.YtacjbgmnoiimbabGreat
