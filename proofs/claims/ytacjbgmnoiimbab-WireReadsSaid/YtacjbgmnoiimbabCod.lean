/- Numbers as bytes, seven bits each: the plain laws. No program in sight. -/
import Derived.WalkKit
namespace Go.Proofs.Ytacjbgmnoiimbab
set_option linter.unusedVariables false
set_option linter.unusedSimpArgs false

/-- a number's bytes, seven bits each, the lowest first -/
def uv (v : Nat) : List UInt8 := if h : v < 128 then [UInt8.ofNat v] else UInt8.ofNat (v % 128 + 128) :: uv (v / 128)
termination_by v
decreasing_by omega
theorem uv_small {v : Nat} (h : v < 128) : uv v = [UInt8.ofNat v] := by rw [uv, dif_pos h]
theorem uv_big {v : Nat} (h : ¬ v < 128) : uv v = UInt8.ofNat (v % 128 + 128) :: uv (v / 128) := by rw [uv, dif_neg h]
theorem toNat_ofNat8 (n : Nat) : (UInt8.ofNat n).toNat = n % 256 := UInt8.toNat_ofNat'
theorem uv_pos (v : Nat) : 0 < (uv v).length := by
  rw [uv]; split <;> simp
theorem uv_len (k : Nat) : ∀ v, v < 128 ^ (k + 1) → (uv v).length ≤ k + 1 := by
  induction k with
  | zero => intro v h; rw [uv_small (by simpa using h)]; simp
  | succ k ih =>
    intro v h
    by_cases hv : v < 128
    · rw [uv_small hv]; simp
    · rw [uv_big hv, List.length_cons]
      have : v / 128 < 128 ^ (k + 1) := Nat.div_lt_of_lt_mul (by rw [Nat.pow_succ] at h; omega)
      have := ih _ this
      omega
theorem uv_len64 (v : Nat) (h : v < 18446744073709551616) : (uv v).length ≤ 10 :=
  uv_len 9 v (Nat.lt_of_lt_of_le h (by decide))

/-- how many first bytes go on -/
def more : List UInt8 → Nat
  | [] => 0
  | c :: r => if c.toNat < 128 then 0 else more r + 1
/-- the number of bytes, seven bits each, the lowest first -/
def low7 : List UInt8 → Nat
  | [] => 0
  | c :: r => c.toNat % 128 + 128 * low7 r
/-- 7: too short; 9: not of its form; 0: a number -/
def getE (l : List UInt8) : Nat :=
  if 10 ≤ more l then 9 else if l.length ≤ more l then 7 else if (l.getD (more l) 0).toNat = 0 ∧ 0 < more l ∨ more l = 9 ∧ 1 < (l.getD 9 0).toNat then 9 else 0
def getN (l : List UInt8) : Nat := if getE l = 0 then more l + 1 else 0
def getV (l : List UInt8) : Nat := if getE l = 0 then low7 (l.take (more l + 1)) else 0

theorem more_le (l : List UInt8) : more l ≤ l.length := by
  induction l with
  | nil => exact Nat.le_refl _
  | cons c r ih => rw [more]; split <;> simp <;> omega
theorem more_ge (l : List UInt8) : ∀ i, i < more l → 128 ≤ (l.getD i 0).toNat := by
  induction l with
  | nil => intro i h; cases h
  | cons c r ih =>
    intro i h
    rw [more] at h
    by_cases hc : c.toNat < 128
    · rw [if_pos hc] at h; cases h
    · rw [if_neg hc] at h
      cases i with
      | zero => simpa using hc
      | succ i => simpa using ih i (by omega)
theorem more_at (l : List UInt8) (h : more l < l.length) : (l.getD (more l) 0).toNat < 128 := by
  induction l with
  | nil => cases h
  | cons c r ih =>
    rw [more] at h ⊢
    by_cases hc : c.toNat < 128
    · rw [if_pos hc]; simpa using hc
    · rw [if_neg hc] at h ⊢
      have := ih (by simpa using h)
      simpa using this
theorem more_eq (l : List UInt8) (n : Nat) (hn : n < l.length) (h1 : ∀ i, i < n → 128 ≤ (l.getD i 0).toNat) (h2 : (l.getD n 0).toNat < 128) : more l = n := by
  rcases Nat.lt_trichotomy (more l) n with h | h | h
  · have := h1 _ h
    have := more_at l (by omega)
    omega
  · exact h
  · have := more_ge l n h
    omega
theorem more_all (l : List UInt8) (h1 : ∀ i, i < l.length → 128 ≤ (l.getD i 0).toNat) : more l = l.length := by
  rcases Nat.lt_or_ge (more l) l.length with h | h
  · have := h1 _ h
    have := more_at l h
    omega
  · have := more_le l
    omega
theorem low7_lt (l : List UInt8) : low7 l < 2 ^ (7 * l.length) := by
  induction l with
  | nil => decide
  | cons c r ih =>
    rw [low7, List.length_cons, show 7 * (r.length + 1) = 7 * r.length + 7 by omega, Nat.pow_add]
    have : c.toNat % 128 < 128 := Nat.mod_lt _ (by decide)
    have e : (2 : Nat) ^ 7 = 128 := rfl
    rw [e]
    omega
theorem low7_snoc (l : List UInt8) (c : UInt8) : low7 (l ++ [c]) = low7 l + (c.toNat % 128) * 2 ^ (7 * l.length) := by
  induction l with
  | nil => simp [low7]
  | cons d r ih =>
    rw [List.cons_append, low7, ih, low7, List.length_cons, show 7 * (r.length + 1) = 7 + 7 * r.length by omega, Nat.pow_add, Nat.mul_add, ← Nat.add_assoc]
    congr 1
    have e : (2 : Nat) ^ 7 = 128 := rfl
    rw [e, ← Nat.mul_assoc, ← Nat.mul_assoc, Nat.mul_comm 128]
theorem take_snoc8 (l : List UInt8) (k : Nat) (h : k < l.length) : l.take (k + 1) = l.take k ++ [l.getD k 0] := by
  rw [List.take_succ_eq_append_getElem h]
  simp [List.getD, h]
theorem low7_take (l : List UInt8) (i : Nat) (h : i < l.length) : low7 (l.take (i + 1)) = low7 (l.take i) + ((l.getD i 0).toNat % 128) * 2 ^ (7 * i) := by
  rw [take_snoc8 l i h, low7_snoc, List.length_take, Nat.min_eq_left (by omega)]
theorem low7_take_lt (l : List UInt8) (i : Nat) : low7 (l.take i) < 2 ^ (7 * i) :=
  Nat.lt_of_lt_of_le (low7_lt _) (Nat.pow_le_pow_right (by decide) (by have := List.length_take_le i l; omega))
/-- from behind: what is left of the first n bytes from i on -/
theorem low7_drop (l : List UInt8) (i n : Nat) (h : i < n) (hn : n ≤ l.length) : low7 ((l.take n).drop i) = low7 ((l.take n).drop (i + 1)) * 128 + (l.getD i 0).toNat % 128 := by
  have hl : i < (l.take n).length := by rw [List.length_take]; omega
  rw [List.drop_eq_getElem_cons hl, low7]
  have e : (l.take n)[i] = l.getD i 0 := by
    rw [List.getElem_take, List.getD_eq_getElem?_getD, List.getElem?_eq_getElem (by omega)]; rfl
  rw [e]; omega

theorem more_cons_big (c : UInt8) (r : List UInt8) (h : 128 ≤ c.toNat) : more (c :: r) = more r + 1 := by rw [more, if_neg (by omega)]
theorem more_cons_small (c : UInt8) (r : List UInt8) (h : c.toNat < 128) : more (c :: r) = 0 := by rw [more, if_pos h]
theorem more_uv (n : Nat) : ∀ v, v < n → ∀ r, more (uv v ++ r) + 1 = (uv v).length ∧ low7 ((uv v ++ r).take (more (uv v ++ r) + 1)) = v ∧ (128 ≤ v → ((uv v ++ r).getD (more (uv v ++ r)) 0).toNat ≠ 0) := by
  induction n with
  | zero => intro v h; cases h
  | succ n ih =>
    intro v h r
    by_cases hv : v < 128
    · have e : (UInt8.ofNat v).toNat = v := by rw [toNat_ofNat8]; omega
      rw [uv_small hv, List.singleton_append, more_cons_small _ _ (by omega)]
      refine ⟨rfl, ?_, fun hh => by omega⟩
      simp only [Nat.zero_add, List.take_succ_cons, List.take_zero, low7, e]
      omega
    · have e : (UInt8.ofNat (v % 128 + 128)).toNat = v % 128 + 128 := by rw [toNat_ofNat8]; omega
      obtain ⟨h1, h2, h3⟩ := ih (v / 128) (by omega) r
      rw [uv_big hv, List.cons_append, more_cons_big _ _ (by omega)]
      refine ⟨by rw [List.length_cons]; omega, ?_, fun _ => ?_⟩
      · rw [List.take_succ_cons, low7, h2, e]; omega
      · rw [List.getD_cons_succ]
        by_cases hq : 128 ≤ v / 128
        · exact h3 hq
        · rw [uv_small (by omega), List.singleton_append, more_cons_small _ _ (by rw [toNat_ofNat8]; omega)]
          simp only [List.getD_cons_zero, toNat_ofNat8]
          omega
/-- a number's bytes tell it -/
theorem get_uv (v : Nat) (hv : v < 18446744073709551616) (r : List UInt8) : getE (uv v ++ r) = 0 ∧ getN (uv v ++ r) = (uv v).length ∧ getV (uv v ++ r) = v := by
  obtain ⟨h1, h2, h3⟩ := more_uv (v + 1) v (Nat.lt_succ_self v) r
  have hl := uv_len64 v hv
  have hE : getE (uv v ++ r) = 0 := by
    rw [getE, if_neg (by omega), if_neg (by rw [List.length_append]; omega), if_neg]
    rintro (⟨ha, hb⟩ | ⟨ha, hb⟩)
    · by_cases h128 : 128 ≤ v
      · exact h3 h128 ha
      · rw [uv_small (by omega)] at hb
        rw [List.singleton_append, more_cons_small _ _ (by rw [toNat_ofNat8]; omega)] at hb
        omega
    · have hlen : (uv v).length = 10 := by omega
      have ht := low7_take (uv v ++ r) 9 (by rw [List.length_append]; omega)
      rw [ha] at h2
      rw [h2] at ht
      have hm := more_at (uv v ++ r) (by rw [List.length_append]; omega)
      rw [ha] at hm
      have e : (2 : Nat) ^ (7 * 9) = 9223372036854775808 := by decide
      rw [e, Nat.mod_eq_of_lt hm] at ht
      have : 2 * 9223372036854775808 ≤ ((uv v ++ r).getD 9 0).toNat * 9223372036854775808 := Nat.mul_le_mul_right _ hb
      omega
  refine ⟨hE, ?_, ?_⟩
  · rw [getN, if_pos hE]; exact h1
  · rw [getV, if_pos hE]; exact h2
theorem getN_le (l : List UInt8) : getN l ≤ l.length := by
  unfold getN
  split
  · rename_i h
    unfold getE at h
    split at h
    · cases h
    · split at h
      · cases h
      · omega
  · exact Nat.zero_le _
theorem getE_ok (l : List UInt8) (h : getE l = 0) : more l < 10 ∧ more l < l.length ∧ ¬ ((l.getD (more l) 0).toNat = 0 ∧ 0 < more l) ∧ ¬ (more l = 9 ∧ 1 < (l.getD 9 0).toNat) := by
  unfold getE at h
  split at h
  · cases h
  · split at h
    · cases h
    · split at h
      · cases h
      · rename_i h1 h2 h3
        exact ⟨by omega, by omega, fun hh => h3 (Or.inl hh), fun hh => h3 (Or.inr hh)⟩
theorem getV_lt (l : List UInt8) : getV l < 18446744073709551616 := by
  unfold getV
  split
  · rename_i h
    obtain ⟨h1, h2, h3, h4⟩ := getE_ok l h
    by_cases h9 : more l = 9
    · rw [h9] at h2 ⊢
      rw [low7_take l 9 h2]
      have hl := low7_take_lt l 9
      have hm : (l.getD 9 0).toNat ≤ 1 := by
        rcases Nat.lt_or_ge 1 (l.getD 9 0).toNat with hx | hx
        · exact absurd ⟨h9, hx⟩ h4
        · exact hx
      have e : (2 : Nat) ^ (7 * 9) = 9223372036854775808 := by decide
      rw [e] at hl ⊢
      have : ((l.getD 9 0).toNat % 128) * 9223372036854775808 ≤ 1 * 9223372036854775808 := Nat.mul_le_mul_right _ (by omega)
      omega
    · have hl := low7_take_lt l (more l + 1)
      have : 2 ^ (7 * (more l + 1)) ≤ 2 ^ 63 := Nat.pow_le_pow_right (by decide) (by omega)
      have e : (2 : Nat) ^ 63 = 9223372036854775808 := by decide
      omega
  · decide
end Go.Proofs.Ytacjbgmnoiimbab
