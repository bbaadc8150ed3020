/- What was put may be in it; more bits change no yes: the plain laws. -/
import Derived.Test.YtlhgjecbjfiljaaMath
namespace Go.Proofs.Ytlhgjecbjfiljaa

theorem bitAt_eq (l : List UInt8) (q : Nat) : bitAt l q = (l.getD (q / 8) 0).toNat.testBit (q % 8) := by
  have h8 : q % 8 < 8 := Nat.mod_lt _ (by decide)
  have hp : 2 ^ (q % 8) < 256 := Nat.lt_of_lt_of_le (Nat.pow_lt_pow_right (by decide) h8) (by decide)
  unfold bitAt
  generalize l.getD (q / 8) 0 = d
  have e : (d &&& UInt8.ofNat (2 ^ (q % 8)) != 0) = decide (d.toNat &&& 2 ^ (q % 8) ≠ 0) := by
    rw [Bool.eq_iff_iff, bne_iff_ne, decide_eq_true_iff, ne_eq, ne_eq, ← UInt8.toNat_inj]
    simp [Nat.mod_eq_of_lt hp]
  rw [e, Bool.eq_iff_iff, decide_eq_true_iff]
  constructor
  · intro h
    cases ht : d.toNat.testBit (q % 8) with
    | true => rfl
    | false =>
      exfalso
      apply h
      apply Nat.eq_of_testBit_eq
      intro i
      rw [Nat.testBit_and, Nat.testBit_two_pow, Nat.zero_testBit]
      by_cases hi : q % 8 = i
      · subst hi; simp [ht]
      · simp [hi]
  · intro h h0
    have : (d.toNat &&& 2 ^ (q % 8)).testBit (q % 8) = true := by rw [Nat.testBit_and, Nat.testBit_two_pow, h]; simp
    rw [h0] at this
    simp at this

/-- every bit of the one is one of the other -/
def Under (l l' : List UInt8) : Prop := ∀ q, bitAt l q = true → bitAt l' q = true
theorem Under.refl (l : List UInt8) : Under l l := fun _ h => h
theorem Under.trans {a b c : List UInt8} (h : Under a b) (k : Under b c) : Under a c := fun q hq => k q (h q hq)
theorem bitAt_lt (l : List UInt8) (q : Nat) (h : bitAt l q = true) : q / 8 < l.length := by
  rw [bitAt_eq] at h
  by_cases hl : q / 8 < l.length
  · exact hl
  · rw [List.getD_eq_getElem?_getD, List.getElem?_eq_none (by omega)] at h
    simp at h
theorem set_or_under (l : List UInt8) (i : Nat) (c : UInt8) : Under l (l.set i (l.getD i 0 ||| c)) := by
  intro q hq
  have hl := bitAt_lt l q hq
  rw [bitAt_eq] at hq ⊢
  by_cases hi : i = q / 8
  · subst hi
    rw [List.getD_eq_getElem?_getD, List.getElem?_set_self hl, Option.getD_some, UInt8.toNat_or, Nat.testBit_or, hq, Bool.true_or]
  · rw [List.getD_eq_getElem?_getD, List.getElem?_set_ne hi, ← List.getD_eq_getElem?_getD]
    exact hq
theorem setBit_under (l : List UInt8) (p : Nat) : Under l (setBit l p) := set_or_under _ _ _
theorem setBit_at (l : List UInt8) (p : Nat) (h : p / 8 < l.length) : bitAt (setBit l p) p = true := by
  have h8 : p % 8 < 8 := Nat.mod_lt _ (by decide)
  have hp : 2 ^ (p % 8) < 256 := Nat.lt_of_lt_of_le (Nat.pow_lt_pow_right (by decide) h8) (by decide)
  rw [bitAt_eq, setBit, List.getD_eq_getElem?_getD, List.getElem?_set_self h, Option.getD_some, UInt8.toNat_or, Nat.testBit_or, UInt8.toNat_ofNat', Nat.mod_eq_of_lt hp, Nat.testBit_two_pow_self, Bool.or_true]
theorem setBits_under (h size : Nat) (l : List UInt8) (k : Nat) : Under l (setBits h size l k) := by
  induction k with
  | zero => exact Under.refl _
  | succ k ih => exact ih.trans (setBit_under _ _)
theorem setKeys_under (size k : Nat) (keys : List (List UInt8)) : ∀ l, Under l (setKeys size k l keys) := by
  induction keys with
  | nil => exact fun l => Under.refl l
  | cons x r ih => exact fun l => (setBits_under _ _ _ _).trans (ih _)
theorem mayBits_under {h size : Nat} {l l' : List UInt8} {k : Nat} (hu : Under l l') (hm : mayBits h size l k = true) : mayBits h size l' k = true := by
  unfold mayBits at hm ⊢
  rw [List.all_eq_true] at hm ⊢
  exact fun i hi => hu _ (hm i hi)
theorem setBits_may (h size : Nat) (l : List UInt8) (k : Nat) (hl : size ≤ 8 * l.length) (hs : 0 < size) : mayBits h size (setBits h size l k) k = true := by
  induction k with
  | zero => rfl
  | succ k ih =>
    have hp := place_lt h size k hs
    have e : mayBits h size (setBits h size l (k + 1)) (k + 1) = (mayBits h size (setBits h size l (k + 1)) k && bitAt (setBits h size l (k + 1)) (place h size k)) := by simp [mayBits, List.range_succ]
    rw [e, show setBits h size l (k + 1) = setBit (setBits h size l k) (place h size k) from rfl, mayBits_under (setBit_under _ _) ih, Bool.true_and]
    exact setBit_at _ _ (by rw [length_setBits]; omega)
theorem setKeys_may (size k : Nat) (keys : List (List UInt8)) (x : List UInt8) (hx : x ∈ keys) (hs : 0 < size) : ∀ l : List UInt8, size ≤ 8 * l.length → mayBits (hash x) size (setKeys size k l keys) k = true := by
  induction keys with
  | nil => cases hx
  | cons y r ih =>
    intro l hl
    rw [setKeys]
    rcases List.mem_cons.1 hx with rfl | hr
    · exact mayBits_under (setKeys_under _ _ _ _) (setBits_may _ _ _ _ hl hs)
    · exact ih hr _ (by rw [length_setBits]; exact hl)
theorem append_under (l r : List UInt8) : Under l (l ++ r) := by
  intro q hq
  have hl := bitAt_lt l q hq
  rw [bitAt_eq] at hq ⊢
  rw [List.getD_eq_getElem?_getD, List.getElem?_append_left hl, ← List.getD_eq_getElem?_getD]
  exact hq
/-- P12.2 -/
theorem filter_may (keys : List (List UInt8)) (b : Int) (x : List UInt8) (hx : x ∈ keys) : may (filter keys b) x = true := by
  have hm := many_bd (clamp b)
  have hc := clamp_bd b
  have hn : 8 ≤ bytesFor keys.length (clamp b) := by unfold bytesFor; omega
  unfold filter
  generalize bytesFor keys.length (clamp b) = n at *
  generalize many (clamp b) = m at *
  have hlen : (setKeys (8 * n) m (List.replicate n 0) keys ++ [UInt8.ofNat m]).length = n + 1 := by simp [length_setKeys]
  have hlast : (setKeys (8 * n) m (List.replicate n 0) keys ++ [UInt8.ofNat m]).getD n 0 = UInt8.ofNat m := by
    have : (setKeys (8 * n) m (List.replicate n 0) keys).length = n := by simp [length_setKeys]
    simp [List.getD, this]
  have h256 : (UInt8.ofNat m).toNat = m := by rw [UInt8.toNat_ofNat']; omega
  rw [may, hlen, if_neg (by omega), Nat.add_sub_cancel, hlast, h256]
  simp only []
  rw [if_neg (by omega)]
  exact mayBits_under (append_under _ _) (setKeys_may _ _ _ _ hx (by omega) _ (by simp))

/-- the first i bytes of l with more bits set -/
def orN (l more : List UInt8) : Nat → List UInt8
  | 0 => l
  | i + 1 => (orN l more i).set i ((orN l more i).getD i 0 ||| more.getD i 0)
theorem length_orN (l more : List UInt8) (i : Nat) : (orN l more i).length = l.length := by
  induction i with
  | zero => rfl
  | succ i ih => rw [orN, List.length_set, ih]
theorem orN_under (l more : List UInt8) (i : Nat) : Under l (orN l more i) := by
  induction i with
  | zero => exact Under.refl _
  | succ i ih => exact ih.trans (set_or_under _ _ _)
theorem orN_last (l more : List UInt8) (i j : Nat) (h : i ≤ j) : (orN l more i).getD j 0 = l.getD j 0 := by
  induction i with
  | zero => rfl
  | succ i ih => rw [orN, List.getD_eq_getElem?_getD, List.getElem?_set_ne (by omega), ← List.getD_eq_getElem?_getD, ih (by omega)]
theorem orN_may (l more key : List UInt8) (i : Nat) (h : i < l.length) (hm : may l key = true) : may (orN l more i) key = true := by
  unfold may at hm ⊢
  rw [length_orN, orN_last l more i (l.length - 1) (by omega)]
  split
  · rfl
  · rename_i h9
    rw [if_neg h9] at hm
    simp only [] at hm ⊢
    split
    · rfl
    · rename_i h0
      rw [if_neg h0] at hm
      exact mayBits_under (orN_under _ _ _) hm
end Go.Proofs.Ytlhgjecbjfiljaa
