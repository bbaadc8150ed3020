/- The document's way of reading a token: bit after bit. The plain laws. -/
import Derived.Test.YtbamohcaamgalacPlainc
namespace Go.Proofs.Ytbamohcaamgalac
set_option linter.unusedVariables false
set_option linter.unusedSimpArgs false

/-- byte q, of which as many bits are there as the first m bits of Z give -/
def byteAt (Z m q : Nat) : Nat := (Z / 2 ^ (130 - 8 * q - min (m - 8 * q) 8) % 2 ^ (min (m - 8 * q) 8)) * 2 ^ (8 - min (m - 8 * q) 8)
def bm (Z m : Nat) : List UInt8 := (List.range 17).map fun q => UInt8.ofNat (byteAt Z m q)
theorem length_bm (Z m : Nat) : (bm Z m).length = 17 := by simp [bm]
theorem byteAt_lt (Z m q : Nat) : byteAt Z m q < 256 := by
  unfold byteAt
  have hr : min (m - 8 * q) 8 ≤ 8 := Nat.min_le_right _ _
  generalize min (m - 8 * q) 8 = r at *
  have h1 : Z / 2 ^ (130 - 8 * q - r) % 2 ^ r < 2 ^ r := Nat.mod_lt _ (Nat.two_pow_pos r)
  have h2 : (2 : Nat) ^ r * 2 ^ (8 - r) = 256 := by rw [← Nat.pow_add, show r + (8 - r) = 8 by omega]
  have h3 := (Nat.mul_lt_mul_right (Nat.two_pow_pos (8 - r))).2 h1
  omega
theorem byteAt_step (Z m : Nat) (h : m < 130) : byteAt Z (m + 1) (m / 8) = byteAt Z m (m / 8) + (Z / 2 ^ (129 - m) % 2) * 2 ^ (7 - m % 8) := by
  unfold byteAt
  have e1 : min (m + 1 - 8 * (m / 8)) 8 = m % 8 + 1 := by omega
  have e2 : min (m - 8 * (m / 8)) 8 = m % 8 := by omega
  rw [e1, e2, show 130 - 8 * (m / 8) - (m % 8 + 1) = 129 - m by omega, show 130 - 8 * (m / 8) - m % 8 = 129 - m + 1 by omega, show 8 - (m % 8 + 1) = 7 - m % 8 by omega, show 8 - m % 8 = 7 - m % 8 + 1 by omega]
  have := more_bits (Z / 2 ^ (129 - m)) (m % 8) 1
  rw [← this, ← div_pow_succ, Nat.add_mul, Nat.pow_succ 2 (7 - m % 8)]
  simp only [Nat.pow_one]
  rw [Nat.mul_assoc, Nat.mul_comm 2]
theorem byteAt_other (Z m q : Nat) (h : q ≠ m / 8) : byteAt Z (m + 1) q = byteAt Z m q := by
  unfold byteAt
  have e : min (m + 1 - 8 * q) 8 = min (m - 8 * q) 8 := by omega
  rw [e]
theorem bm_at (Z m q : Nat) (h : q < 17) : (bm Z m).getD q 0 = UInt8.ofNat (byteAt Z m q) := by simp [bm, List.getD, h]
theorem bm_set (Z m : Nat) (h : m < 130) (hb : Z / 2 ^ (129 - m) % 2 = 1) : (bm Z m).set (m / 8) (UInt8.ofNat (byteAt Z m (m / 8) + 2 ^ (7 - m % 8))) = bm Z (m + 1) := by
  apply ext8 _ _ (by simp [length_bm])
  intro q hq
  rw [List.length_set, length_bm] at hq
  rw [bm_at _ _ q hq]
  by_cases hqm : q = m / 8
  · subst hqm
    rw [byteAt_step Z m h, hb, Nat.one_mul, List.getD_eq_getElem?_getD, List.getElem?_set_self (by rw [length_bm]; exact hq)]
    rfl
  · rw [byteAt_other Z m q hqm, List.getD_eq_getElem?_getD, List.getElem?_set_ne (fun e => hqm e.symm), ← List.getD_eq_getElem?_getD, bm_at _ _ q hq]
theorem bm_stay (Z m : Nat) (h : m < 130) (hb : Z / 2 ^ (129 - m) % 2 = 0) : bm Z (m + 1) = bm Z m := by
  apply ext8 _ _ (by simp [length_bm])
  intro q hq
  rw [length_bm] at hq
  rw [bm_at _ _ q hq, bm_at _ _ q hq]
  by_cases hqm : q = m / 8
  · subst hqm
    rw [byteAt_step Z m h, hb, Nat.zero_mul, Nat.add_zero]
  · rw [byteAt_other Z m q hqm]
theorem bm_zero (Z : Nat) : bm Z 0 = List.replicate 17 0 := by
  apply ext8 _ _ (by simp [length_bm])
  intro q hq
  rw [length_bm] at hq
  rw [bm_at _ _ q hq]
  have e : byteAt Z 0 q = 0 := by unfold byteAt; simp [Nat.mod_one]
  rw [e, List.getD_eq_getElem?_getD, List.getElem?_replicate, if_pos hq]
  rfl
theorem bm_end (Z : Nat) : bm Z 130 = outB Z ++ [UInt8.ofNat ((Z % 4) * 64)] := by
  have e : bm Z 130 = ((List.range 16).map fun q => UInt8.ofNat (byteAt Z 130 q)) ++ [UInt8.ofNat (byteAt Z 130 16)] := by
    rw [bm, List.range_succ, List.map_append]; rfl
  rw [e, outB]
  congr 1
  · apply List.map_congr_left
    intro q hq
    have hq := List.mem_range.1 hq
    have e : byteAt Z 130 q = Z / 2 ^ (122 - 8 * q) % 256 := by
      unfold byteAt
      rw [show min (130 - 8 * q) 8 = 8 by omega, show 130 - 8 * q - 8 = 122 - 8 * q by omega]
      simp
    rw [e]
  · have e : byteAt Z 130 16 = (Z % 4) * 64 := by unfold byteAt; simp
    rw [e]
theorem val_bit (Z k j V : Nat) (hk : k < 26) (hj : j < 5) (hV : V = digit Z k) : V / 2 ^ (4 - j) % 2 = Z / 2 ^ (129 - (5 * k + j)) % 2 := by
  rw [hV, digit, show (32 : Nat) = 2 ^ 5 from rfl, mod_div_pow _ _ _ (by omega), ← div_pow_succ, show 5 * (25 - k) + (4 - j) = 129 - (5 * k + j) by omega]
  obtain ⟨m, hm⟩ : ∃ m, 5 - (4 - j) = m + 1 := ⟨j, by omega⟩
  rw [hm, Nat.pow_succ, Nat.mod_mul_left_mod]
/-- the place of a sign among the first pos -/
def seen (c : UInt8) (pos : Nat) : Int := if isSign c = true ∧ val c < pos then (val c : Int) else -1
theorem seen_zero (c : UInt8) : seen c 0 = -1 := by simp [seen]
theorem seen_hit (c : UInt8) (pos : Nat) (hp : pos < 32) (h : sign pos = c) : seen c (pos + 1) = (pos : Int) := by
  subst h
  obtain ⟨h1, h2⟩ := sign_all pos hp
  rw [seen, h2, if_pos ⟨h1, by omega⟩]
theorem seen_miss (c : UInt8) (pos : Nat) (hp : pos < 32) (h : sign pos ≠ c) : seen c (pos + 1) = seen c pos := by
  unfold seen
  by_cases hs : isSign c = true
  · have hv := (val_all c hs).2
    have hne : val c ≠ pos := fun e => h (by rw [← e, hv])
    by_cases hlt : val c < pos
    · rw [if_pos ⟨hs, by omega⟩, if_pos ⟨hs, hlt⟩]
    · rw [if_neg (fun hh => by have := hh.2; omega), if_neg (fun hh => hlt hh.2)]
  · rw [if_neg (fun hh => hs hh.1), if_neg (fun hh => hs hh.1)]
theorem seen_yes (c : UInt8) (h : isSign c = true) : seen c 32 = (val c : Int) := by rw [seen, if_pos ⟨h, val_lt c⟩]
theorem seen_no (c : UInt8) (h : isSign c = false) : seen c 32 = -1 := by rw [seen, if_neg (fun hh => by rw [h] at hh; cases hh.1)]
end Go.Proofs.Ytbamohcaamgalac
