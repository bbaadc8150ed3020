/- Whether a key may be in a filter: the reference's. -/
import Derived.Test.YtlhgjecbjfiljaaWalkE
namespace Go.Proofs.Ytlhgjecbjfiljaa
open Go.RowKit

theorem places_at (s : ByteArray) (k size : Nat) (ki si : Int) (w : World) (hki : ki = k) (hsi : si = size) (hs : s.size ≤ 300) (hk : k ≤ 30) (h0 : 0 < size) (h1 : size ≤ 1000000) :
    Calls Try.prog 19 #[.string s, .int .i64 ki, .int .u64 si] w fun e w' => ∃ v, e = .returned v ∧ w'.ownsRow w.heap.size 25 1 v k (places (hash s.data.toList) size k) ∧ Below w.heap.size w w' := by
  subst hki hsi
  exact places_any s k size w hs hk h0 h1
theorem places_get (h size : Nat) {k j : Nat} (hj : j < k) : (places h size k)[j]? = some (.int .u64 (place h size j : Int)) := by simp [places, hj]
theorem bitAt_shr (l : List UInt8) (p : Nat) : ((((l.getD (p / 8) 0).toNat : Int) / 2 ^ (p % 8)).tmod 2 == 0) = !bitAt l p := by
  have h := bitAt_int l p
  have h8 : p % 8 < 8 := Nat.mod_lt _ (by decide)
  have hp : 2 ^ (p % 8) < 256 := Nat.lt_of_lt_of_le (Nat.pow_lt_pow_right (by decide) h8) (by decide)
  have hc := (l.getD (p / 8) 0).toNat_lt
  rw [u8_and_nat _ _ (by omega) hp] at h
  rw [← h]
  generalize (l.getD (p / 8) 0).toNat = d
  generalize p % 8 = m
  have e := and_two_pow_eq_zero (d : Int) m (by omega)
  have e2 : 0 ≤ (d : Int) / 2 ^ m := Int.ediv_nonneg (by omega) (Int.le_of_lt (Int.pow_pos (by decide)))
  rw [Int.tmod_eq_emod_of_nonneg e2]
  rw [toNat_two_pow, Int.toNat_natCast] at e
  rw [Bool.eq_iff_iff, beq_iff_eq, beq_iff_eq, Int.natCast_eq_zero, e]
  omega
theorem row_shape {w : World} {base : Nat} {e : TypeId} {size : Nat} {v : Value} {n : Nat} {xs : List Value} (h : w.ownsRow base e size v n xs) (hn : 0 < n) :
    ∃ g cap, v = .slice (some ⟨g, 0, none⟩) n cap ∧ base ≤ g ∧ g < w.heap.size ∧ n ≤ cap := by
  rcases h.2 with ⟨_, h0⟩ | ⟨g, cap, cur, hv, hb, hg, hc, _⟩
  · omega
  · exact ⟨g, cap, hv, hb, (Array.getElem?_eq_some_iff.1 hg).1, hc⟩

set_option maxHeartbeats 1000000 in
theorem refmay_any (a : Option Addr) (cap : Nat) (l : List UInt8) (s : ByteArray) (w : World) (hl : l.length ≤ 3000) (hs : s.size ≤ 300) (h : IsBytes w a l) :
    Calls Try.prog 14 #[.slice a l.length cap, .string s] w fun e w' => e = .returned (.bool (may l s.data.toList)) ∧ Below w.heap.size w w' := by
  by_cases h9 : l.length < 9
  · have HM := Lib.hid (show may l s.data.toList = true by rw [may, if_pos h9])
    clear h
    go_enter Try.func14, Try.ntmps14
    go_wp2
    go_ret
    exact ⟨ret_bool HM.out.symm, Below.refl _ _⟩
  · obtain ⟨b, off, rfl, hb, hc⟩ := h (by omega)
    obtain ⟨n, hn⟩ : ∃ n, n + 1 = l.length := ⟨l.length - 1, by omega⟩
    have hck := hc n (by omega)
    obtain ⟨c, hcc⟩ : ∃ c, c = l.getD n 0 := ⟨_, rfl⟩
    rw [← hcc] at hck
    have HC := Lib.hid hcc
    clear hcc
    have hM : may l s.data.toList = if c.toNat = 0 ∨ 30 < c.toNat then true else mayBits (hash s.data.toList) (8 * n) l c.toNat := by
      rw [may, if_neg h9]; simp only [← hn, Nat.add_sub_cancel, ← HC.out]
    have HM := Lib.hid hM
    clear hM
    have HL := Lib.hid hn
    have HCS := Lib.hid hc
    clear hc
    have hu := c.toNat_lt
    rw [← hn] at hl ⊢
    have h8 : 8 ≤ n := by omega
    clear hn h9
    by_cases h0 : c.toNat = 0
    · have HF : Hid (may l s.data.toList = true) := by rw [HM.out, if_pos (Or.inl h0)]; rfl
      have d1 : (c.toNat : Int) < 1 := by omega
      go_enter Try.func14, Try.ntmps14
      go_wp2
      go_ret
      exact ⟨ret_bool HF.out.symm, Below.refl _ _⟩
    · by_cases h30 : 30 < c.toNat
      · have HF : Hid (may l s.data.toList = true) := by rw [HM.out, if_pos (Or.inr h30)]; rfl
        have d1 : 1 ≤ (c.toNat : Int) := by omega
        go_enter Try.func14, Try.ntmps14
        go_wp2
        go_ret
        exact ⟨ret_bool HF.out.symm, Below.refl _ _⟩
      · have d1 : 1 ≤ (c.toNat : Int) := by omega
        have hcn : 0 < c.toNat := by omega
        go_enter Try.func14, Try.ntmps14
        go_wp2_with (go_at_call 19; refine (places_at s c.toNat (8 * n) _ _ _ rfl (by omega) hs (by omega) (by omega) (by omega)).mono ?_; rintro e w1 ⟨v, rfl, hown, hb1⟩; obtain ⟨g, cp, rfl, hg1, hg2, hg3⟩ := row_shape hown hcn; have hck1 := (hb1.cell (p := ⟨b, off + n, none⟩) hb).trans hck)
        generalize hash s.data.toList = x at *
        go_loop [38] (fun i => ∃ j : Nat, j ≤ c.toNat ∧ i = .int .i64 j ∧ Hid (mayBits x (8 * n) l j = true)) (fun i => c.toNat - (intOf i).toNat)
        case atStart => exact ⟨0, Nat.zero_le _, rfl, rfl⟩
        case round =>
          obtain ⟨j, hj, rfl, hmj⟩ := hrel
          by_cases hlt : j < c.toNat
          · have hsucc := Lib.hid (mayBits_succ x (8 * n) l j)
            have hpl := place_lt x (8 * n) j (by omega)
            have hpj := (hown.cellAt j (by omega)).trans (places_get x (8 * n) hlt)
            generalize hq : place x (8 * n) j = p at *
            have HQ := Lib.hid hq
            clear hq
            have hpc := (hb1.cell (p := ⟨b, off + p / 8, none⟩) hb).trans (HCS.out (p / 8) (by have := HL.out; omega))
            have hbit := bitAt_shr l p
            generalize l.getD (p / 8) 0 = d at hpc hbit
            have hd := d.toNat_lt
            have hm1 : 0 ≤ (p : Int) % 8 := by omega
            by_cases hbt : bitAt l p = true
            · have hbe : (((d.toNat : Int) / 2 ^ (p % 8)).tmod 2 == 0) = false := by rw [hbit, hbt]; rfl
              have HS : Hid (mayBits x (8 * n) l (j + 1) = true) := by rw [hsucc.out, hmj.out, hbt]; rfl
              clear hbit
              go_wp2
              go_round
              case rel => exact ⟨j + 1, by omega, by go_num, HS⟩
              case measure => simp [intOf]; omega
            · have hbt' : bitAt l p = false := by simpa using hbt
              have hbe : (((d.toNat : Int) / 2 ^ (p % 8)).tmod 2 == 0) = true := by rw [hbit, hbt']; rfl
              have HF : Hid (may l s.data.toList = false) := by
                rw [HM.out, if_neg (by omega), mayBits_false x (8 * n) l j c.toNat hlt (by rw [HQ.out]; exact hbt')]; rfl
              clear hbit hbt
              go_wp2
              go_ret
              exact ⟨ret_bool HF.out.symm, hb1⟩
          · obtain rfl : j = c.toNat := by omega
            have HF : Hid (may l s.data.toList = true) := by rw [HM.out, if_neg (by omega)]; exact hmj.out
            go_wp2
            go_ret
            exact ⟨ret_bool HF.out.symm, hb1⟩
end Go.Proofs.Ytlhgjecbjfiljaa
