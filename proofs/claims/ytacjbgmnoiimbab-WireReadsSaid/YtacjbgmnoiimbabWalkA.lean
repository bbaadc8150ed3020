/- A number read, walked, both ways. -/
import Derived.Test.YtacjbgmnoiimbabRows
import Derived.Test.YtacjbgmnoiimbabKitb
import Derived.Test.YtacjbgmnoiimbabCodb
namespace Go.Proofs.Ytacjbgmnoiimbab
set_option linter.unusedVariables false
set_option linter.unusedSimpArgs false
open Go.RowKit

theorem and127 (c : UInt8) : bits BinOp.and IntKind.u8 (c.toNat : Int) 127 = ((c.toNat % 128 : Nat) : Int) := by
  have hc := c.toNat_lt
  have h := u8_and_nat c.toNat 127 hc (by decide)
  rw [show (127 : Nat) = 2 ^ 7 - 1 from rfl, Nat.and_two_pow_sub_one_eq_mod] at h
  exact h
theorem or_shift (V m k : Nat) (hV : V < 2 ^ (7 * k)) (h : V + m * 2 ^ (7 * k) < 18446744073709551616) :
    bits BinOp.or IntKind.u64 (V : Int) (IntKind.u64.wrap ((m : Int) * 2 ^ (7 * k))) = ((V + m * 2 ^ (7 * k) : Nat) : Int) := by
  have e : (m : Int) * 2 ^ (7 * k) = ((m * 2 ^ (7 * k) : Nat) : Int) := by simp
  rw [e, IntWalk.u64_in _ ⟨by omega, by omega⟩, u64_or_nat V (m * 2 ^ (7 * k)) (by omega) (by omega)]
  congr 1
  have := Nat.two_pow_add_eq_or_of_lt (i := 7 * k) hV m
  rw [Nat.or_comm, Nat.mul_comm m, ← this, Nat.add_comm]
theorem getE_nine (l : List UInt8) (h : 9 < l.length) (hp : ∀ j, j < 9 → 128 ≤ (l.getD j 0).toNat) (h1 : 1 < (l.getD 9 0).toNat) : getE l = 9 := by
  by_cases hc : (l.getD 9 0).toNat < 128
  · have hm := more_eq l 9 h hp hc
    rw [getE, hm, if_neg (by omega), if_neg (by omega), if_pos (Or.inr ⟨rfl, h1⟩)]
  · have hm : 10 ≤ more l := by
      rcases Nat.lt_or_ge (more l) 10 with hx | hx
      · have hlt : more l < l.length := by omega
        have := more_at l hlt
        by_cases h9 : more l = 9
        · rw [h9] at this; exact absurd this hc
        · have := hp (more l) (by omega); omega
      · exact hx
    rw [getE, if_pos hm]
theorem getE_zero (l : List UInt8) (k : Nat) (h : k < l.length) (hk : k ≤ 9) (hp : ∀ j, j < k → 128 ≤ (l.getD j 0).toNat) (h0 : (l.getD k 0).toNat = 0) (hk0 : 0 < k) : getE l = 9 := by
  have hm := more_eq l k h hp (by omega)
  rw [getE, hm, if_neg (by omega), if_neg (by omega), if_pos (Or.inl ⟨h0, hk0⟩)]
theorem getE_short (l : List UInt8) (hk : l.length ≤ 9) (hp : ∀ j, j < l.length → 128 ≤ (l.getD j 0).toNat) : getE l = 7 := by
  have hm := more_all l hp
  rw [getE, hm, if_neg (by omega), if_pos (Nat.le_refl _)]
theorem getE_good (l : List UInt8) (k : Nat) (h : k < l.length) (hk : k ≤ 9) (hp : ∀ j, j < k → 128 ≤ (l.getD j 0).toNat) (hc : (l.getD k 0).toNat < 128) (h0 : (l.getD k 0).toNat = 0 → k = 0) (h9 : k = 9 → (l.getD k 0).toNat ≤ 1) :
    getE l = 0 ∧ getN l = k + 1 ∧ getV l = low7 (l.take (k + 1)) := by
  have hm := more_eq l k h hp hc
  have hE : getE l = 0 := by
    rw [getE, hm, if_neg (by omega), if_neg (by omega), if_neg]
    rintro (⟨a, b⟩ | ⟨a, b⟩)
    · have := h0 a; omega
    · have := h9 a; rw [a] at this; omega
  exact ⟨hE, by rw [getN, if_pos hE, hm], by rw [getV, if_pos hE, hm]⟩
/-- what reading a number at the head of l answers -/
def GetIs (l : List UInt8) (w : World) (e : Ending) (w' : World) : Prop := e = .returned (.tuple #[.int .u64 (getV l : Nat), .int .i64 (getN l : Nat), .int .i64 (getE l : Nat)]) ∧ w' = w
theorem getIs_bad {l : List UInt8} {w : World} {k : Nat} (h : getE l = k) (hk : k ≠ 0) : GetIs l w (.returned (.tuple #[.int .u64 0, .int .i64 0, .int .i64 (k : Int)])) w := by
  refine ⟨?_, rfl⟩
  rw [getV, getN, if_neg (by omega), if_neg (by omega), h]; rfl
theorem getIs_good {l : List UInt8} {w : World} {k : Nat} (h : getE l = 0 ∧ getN l = k + 1 ∧ getV l = low7 (l.take (k + 1))) : GetIs l w (.returned (.tuple #[.int .u64 (low7 (l.take (k + 1)) : Nat), .int .i64 ((k : Int) + 1), .int .i64 0])) w := by
  refine ⟨?_, rfl⟩
  rw [h.1, h.2.1, h.2.2]; rfl
set_option maxRecDepth 100000 in
set_option maxHeartbeats 2000000 in
theorem get_any (a : Option Addr) (cap : Nat) (l : List UInt8) (w : World) (hl : l.length ≤ 1000000000) (h : IsBytes w a l) :
    Calls Try.prog 82 #[.slice a l.length cap] w (GetIs l w) := by
  have H := Lib.hid h
  clear h
  go_enter Try.func82, Try.ntmps82
  go_wp2_with fail
  go_loop [5, 10] (fun v i => ∃ k : Nat, k ≤ l.length ∧ k ≤ 9 ∧ i = .int .i64 k ∧ v = .int .u64 (low7 (l.take k) : Nat) ∧ Hid (∀ j, j < k → 128 ≤ (l.getD j 0).toNat)) (fun _ i => l.length - (intOf i).toNat)
  case atStart => exact ⟨0, Nat.zero_le _, by omega, rfl, rfl, fun j hj => by omega⟩
  case round =>
    obtain ⟨k, hk, hk9, rfl, rfl, hpre⟩ := hrel
    by_cases hlt : k < l.length
    · obtain ⟨b, off, rfl, hb, hc⟩ := H.out (by omega)
      have hck := hc k hlt
      have hdk : decide ((k : Int) < (l.length : Int)) = true := by simp; omega
      have hvl := low7_take_lt l k
      have ha := and127 (l.getD k 0)
      have HT := Lib.hid (low7_take l k hlt)
      have hu := (l.getD k 0).toNat_lt
      clear hc
      by_cases hF : k = 9 ∧ 1 < (l.getD k 0).toNat
      · obtain ⟨rfl, h1⟩ := hF
        have HG := Lib.hid (getE_nine l hlt hpre.out h1)
        generalize (l.getD 9 0).toNat % 128 = m at *
        generalize (l.getD 9 0) = c at *
        clear hvl
        go_wp2_with fail
        go_ret3
        exact getIs_bad HG.out (by decide)
      · by_cases hZ : (l.getD k 0).toNat = 0 ∧ 0 < k
        · obtain ⟨h0, hk0⟩ := hZ
          have HG := Lib.hid (getE_zero l k hlt hk9 hpre.out h0 hk0)
          rw [h0] at hck ha
          have b9 : k < 9 ∨ k = 9 := by omega
          rcases b9 with b9 | rfl
          · have b9' : ((k : Int) == 9) = false := by simp; omega
            clear hF h0
            generalize (l.getD k 0) = c at *
            clear hvl
            go_wp2_with fail
            go_ret3
            exact getIs_bad HG.out (by decide)
          · clear hF h0
            generalize (l.getD 9 0) = c at *
            clear hvl
            go_wp2_with fail
            go_ret3
            exact getIs_bad HG.out (by decide)
        · have hm : (l.getD k 0).toNat % 128 < 128 := Nat.mod_lt _ (by decide)
          have hfit : low7 (l.take k) + ((l.getD k 0).toNat % 128) * 2 ^ (7 * k) < 18446744073709551616 := by
            by_cases h9 : k = 9
            · subst h9
              have e : (2 : Nat) ^ (7 * 9) = 9223372036854775808 := by decide
              rw [e] at hvl ⊢
              have : ((l.getD 9 0).toNat % 128) * 9223372036854775808 ≤ 1 * 9223372036854775808 := Nat.mul_le_mul_right _ (by omega)
              omega
            · have e1 : 2 ^ (7 * k) ≤ 2 ^ 56 := Nat.pow_le_pow_right (by decide) (by omega)
              have e : (2 : Nat) ^ 56 = 72057594037927936 := by decide
              have : ((l.getD k 0).toNat % 128) * 2 ^ (7 * k) ≤ 127 * 72057594037927936 := Nat.mul_le_mul (by omega) (by omega)
              omega
          have hor := or_shift _ _ k hvl hfit
          rw [← HT.out] at hor
          by_cases hc128 : (l.getD k 0).toNat < 128
          · have HG := Lib.hid (getIs_good (w := w) (getE_good l k hlt hk9 hpre.out hc128 (fun h0 => by omega) (fun h9 => by omega)))
            clear hF HT
            by_cases h9 : k = 9
            · subst h9
              have h1 : (l.getD 9 0).toNat = 1 := by omega
              rw [h1] at hck hor
              have e9 : IntKind.u64.wrap (((1 % 128 : Nat) : Int) * 2 ^ (7 * 9)) = 9223372036854775808 := by decide
              rw [e9] at hor
              have HOR := Lib.hid hor
              have ha1 : bits BinOp.and IntKind.u8 1 127 = 1 := by decide
              clear hvl hfit hZ hc128 ha e9 hor h1
              generalize low7 (l.take (9 + 1)) = V' at *
              go_wp2_with fail
              go_ret3
              have hg := HG.out
              rw [← HOR.out] at hg
              exact hg
            · have b9 : ((k : Int) == 9) = false := by simp; omega
              by_cases hc0 : (l.getD k 0).toNat = 0
              · obtain rfl : k = 0 := by omega
                rw [hc0] at hck
                rw [Nat.add_zero] at hck
                have h00 := low7_take l 0 hlt
                rw [hc0] at h00
                have H00 : Hid (low7 (l.take (0 + 1)) = 0) := by rw [h00]; rfl
                have ha0 : bits BinOp.and IntKind.u8 0 127 = 0 := by decide
                have hl0 : low7 ([] : List UInt8) = 0 := rfl
                have ho0 : bits BinOp.or IntKind.u64 0 0 = 0 := by decide
                clear hvl hfit hZ hc128 ha hor h00
                go_wp2_with fail
                go_ret3
                have hg := HG.out
                rw [H00.out] at hg
                exact hg
              · have b0 : (((l.getD k 0).toNat : Int) == 0) = false := by rw [beq_eq_false_iff_ne]; omega
                have hcd : decide (((l.getD k 0).toNat : Int) < 128) = true := decide_eq_true (by omega)
                clear hvl hfit hZ
                generalize (l.getD k 0).toNat % 128 = m at *
                generalize (l.getD k 0) = c at *
                generalize low7 (l.take (k + 1)) = V' at *
                go_wp2_with fail
                go_ret3
                exact HG.out
          · have h9 : k ≠ 9 := by omega
            have b9 : ((k : Int) == 9) = false := by simp; omega
            have b0 : (((l.getD k 0).toNat : Int) == 0) = false := by rw [beq_eq_false_iff_ne]; omega
            have hcd : decide (((l.getD k 0).toNat : Int) < 128) = false := decide_eq_false (by omega)
            have HP : Hid (∀ j, j < k + 1 → 128 ≤ (l.getD j 0).toNat) := by
              intro j hj
              by_cases hjk : j < k
              · exact hpre.out j hjk
              · obtain rfl : j = k := by omega
                omega
            clear hvl hfit hZ hF
            generalize (l.getD k 0).toNat % 128 = m at *
            generalize (l.getD k 0) = c at *
            generalize hV' : low7 (l.take (k + 1)) = V' at *
            have HV' := Lib.hid hV'
            clear hV'
            go_wp2_with fail
            go_round
            case rel => exact ⟨k + 1, by omega, by omega, by go_num, by rw [HV'.out], HP⟩
            case measure => simp [intOf]; omega
    · obtain rfl : k = l.length := by omega
      have HG := Lib.hid (getE_short l hk9 hpre.out)
      go_wp2_with fail
      go_ret3
      exact getIs_bad HG.out (by decide)
end Go.Proofs.Ytacjbgmnoiimbab
