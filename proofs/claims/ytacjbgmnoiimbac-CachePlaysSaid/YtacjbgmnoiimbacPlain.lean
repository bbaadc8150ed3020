/- A ring of items: the plain laws. -/
import Derived.Test.YtacjbgmnoiimbacMapk
namespace Go.Proofs.Ytacjbgmnoiimbac
set_option linter.unusedVariables false
set_option linter.unusedSimpArgs false
open Go.RowKit

structure It where
  b : Nat
  file : Int
  blk : Int
  a : Option Addr
  kc : Nat
  keys : List ByteArray
instance : Inhabited It := ⟨⟨0, 0, 0, none, 0, []⟩⟩
def sizeK (keys : List ByteArray) : Nat := 1 + (keys.map (·.size)).sum
def total (its : List It) : Nat := (its.map fun x => sizeK x.keys).sum
def posC (rb : Nat) (its : List It) (i : Nat) : Nat := if i = 0 then rb else (its.getD (i - 1) default).b
def nxI (n i : Nat) : Nat := if i = n then 0 else i + 1
def pvI (n i : Nat) : Nat := if i = 0 then n else i - 1
def Ring (W : World) (rb : Nat) (its : List It) : Prop := ∀ i, i ≤ its.length → W.cell? ⟨posC rb its i, 5, none⟩ = some (ptrV (posC rb its (nxI its.length i))) ∧ W.cell? ⟨posC rb its i, 4, none⟩ = some (ptrV (posC rb its (pvI its.length i)))
def ApartC (rb : Nat) (its : List It) : Prop := (∀ i, i < its.length → (its.getD i default).b ≠ rb) ∧ ∀ i j, i < its.length → j < its.length → (its.getD i default).b = (its.getD j default).b → i = j
theorem ApartC.pos {rb : Nat} {its : List It} (h : ApartC rb its) {i j : Nat} (hi : i ≤ its.length) (hj : j ≤ its.length) (e : posC rb its i = posC rb its j) : i = j := by
  unfold posC at e
  by_cases a : i = 0
  · by_cases b : j = 0
    · omega
    · rw [if_pos a, if_neg b] at e
      exact absurd e.symm (h.1 (j - 1) (by omega))
  · by_cases b : j = 0
    · rw [if_neg a, if_pos b] at e
      exact absurd e (h.1 (i - 1) (by omega))
    · rw [if_neg a, if_neg b] at e
      have := h.2 (i - 1) (j - 1) (by omega) (by omega) e
      omega
theorem erase_at (its : List It) (i j : Nat) : (its.eraseIdx i).getD j default = if j < i then its.getD j default else its.getD (j + 1) default := by
  simp only [List.getD_eq_getElem?_getD, List.getElem?_eraseIdx]
  split <;> rfl
theorem erase_len (its : List It) (i : Nat) (h : i < its.length) : (its.eraseIdx i).length = its.length - 1 := by rw [List.length_eraseIdx, if_pos h]
theorem erase_pos (rb : Nat) (its : List It) (i j : Nat) : posC rb (its.eraseIdx i) j = posC rb its (if j ≤ i then j else j + 1) := by
  unfold posC
  by_cases h0 : j = 0
  · subst h0; rw [if_pos rfl, if_pos (Nat.zero_le _), if_pos rfl]
  · rw [if_neg h0, erase_at]
    by_cases h1 : j ≤ i
    · rw [if_pos (by omega : j - 1 < i), if_pos h1, if_neg h0]
    · rw [if_neg (by omega : ¬ j - 1 < i), if_neg h1, if_neg (by omega : ¬ j + 1 = 0)]
      congr 2; omega
/-- item i is taken out of the ring -/
theorem ring_erase {W W' : World} {rb i : Nat} {its : List It} (hR : Ring W rb its) (hA : ApartC rb its) (hi : i < its.length)
    (c1 : W'.cell? ⟨posC rb its (pvI its.length (i + 1)), 5, none⟩ = some (ptrV (posC rb its (nxI its.length (i + 1)))))
    (c2 : W'.cell? ⟨posC rb its (nxI its.length (i + 1)), 4, none⟩ = some (ptrV (posC rb its (pvI its.length (i + 1)))))
    (c3 : ∀ b o, ¬ (b = posC rb its (pvI its.length (i + 1)) ∧ o = 5) → ¬ (b = posC rb its (nxI its.length (i + 1)) ∧ o = 4) → W'.cell? ⟨b, o, none⟩ = W.cell? ⟨b, o, none⟩) : Ring W' rb (its.eraseIdx i) := by
  have hl := erase_len its i hi
  intro j hj
  rw [hl] at hj
  rw [hl, erase_pos, erase_pos, erase_pos]
  have hp : pvI its.length (i + 1) = i := by unfold pvI; rw [if_neg (by omega)]; omega
  rw [hp] at c1 c2 c3
  have hJ : (if j ≤ i then j else j + 1) ≤ its.length := by split <;> omega
  constructor
  · by_cases e : j = i
    · subst e
      rw [if_pos (Nat.le_refl _), c1]
      congr 3
      unfold nxI
      by_cases e2 : j = its.length - 1
      · rw [if_pos (by omega), if_pos e2, if_pos (by omega)]
      · rw [if_neg (by omega), if_neg e2, if_neg (by omega)]
    · have hne : (if j ≤ i then j else j + 1) ≠ i := by split <;> omega
      rw [c3 _ 5 (fun h => hne (hA.pos hJ (by omega) h.1)) (fun h => by omega), (hR _ hJ).1]
      congr 3
      unfold nxI
      by_cases e2 : j = its.length - 1
      · rw [if_pos e2]
        have : (if j ≤ i then j else j + 1) = its.length := by rw [if_neg (by omega)]; omega
        rw [if_pos this, if_pos (Nat.zero_le _)]
      · rw [if_neg e2]
        by_cases e3 : j ≤ i
        · rw [if_pos e3, if_neg (by omega), if_pos (by omega)]
        · rw [if_neg e3, if_neg (by omega), if_neg (by omega)]
  · have hnx : nxI its.length (i + 1) ≤ its.length := by unfold nxI; split <;> omega
    by_cases e : (if j ≤ i then j else j + 1) = nxI its.length (i + 1)
    · rw [e, c2]
      congr 3
      unfold nxI at e
      unfold pvI
      by_cases e2 : i + 1 = its.length
      · rw [if_pos e2] at e
        have hj0 : j = 0 := by
          by_cases a : j ≤ i
          · rw [if_pos a] at e; exact e
          · rw [if_neg a] at e; omega
        subst hj0
        rw [if_pos rfl, if_pos (by omega)]; omega
      · rw [if_neg e2] at e
        have hj1 : j = i + 1 := by
          by_cases a : j ≤ i
          · rw [if_pos a] at e; omega
          · rw [if_neg a] at e; omega
        subst hj1
        rw [show (if i + 1 = 0 then its.length - 1 else i + 1 - 1) = i from by rw [if_neg (by omega)]; omega, if_pos (Nat.le_refl _)]
    · rw [c3 _ 4 (fun h => by omega) (fun h => e (hA.pos hJ hnx h.1)), (hR _ hJ).2]
      congr 3
      unfold nxI at e
      unfold pvI
      by_cases a : j = 0
      · subst a
        rw [if_pos (Nat.zero_le _)] at e ⊢
        rw [if_pos rfl, if_pos rfl]
        have : i + 1 ≠ its.length := fun h => e (by rw [if_pos h])
        rw [if_neg (by omega)]; omega
      · by_cases b : j ≤ i
        · rw [if_pos b, if_neg a, if_neg a, if_pos (by omega)]
        · rw [if_neg b] at e ⊢
          rw [if_neg (by omega), if_neg a]
          have : j ≠ i + 1 := by
            intro h
            apply e
            rw [if_neg (by omega)]; omega
          rw [if_neg (by omega)]; omega
theorem snoc_pos (rb : Nat) (its : List It) (x : It) (j : Nat) : posC rb (its ++ [x]) j = if j ≤ its.length then posC rb its j else if j = its.length + 1 then x.b else posC rb its j := by
  unfold posC
  by_cases h0 : j = 0
  · subst h0; simp
  · rw [if_neg h0, List.getD_eq_getElem?_getD]
    by_cases h1 : j ≤ its.length
    · rw [if_pos h1, if_neg h0, List.getElem?_append_left (by omega), List.getD_eq_getElem?_getD]
    · rw [if_neg h1, List.getElem?_append_right (by omega)]
      by_cases h2 : j = its.length + 1
      · rw [if_pos h2]
        have : j - 1 - its.length = 0 := by omega
        rw [this]; rfl
      · rw [if_neg h2, if_neg h0, List.getD_eq_getElem?_getD, List.getElem?_eq_none (by simp; omega), List.getElem?_eq_none (by omega)]
/-- x is laid in at the ring's end -/
theorem ring_snoc {W W' : World} {rb : Nat} {its : List It} {x : It} (hR : Ring W rb its) (hA : ApartC rb its) (hx : x.b ≠ rb) (hxn : ∀ i, i < its.length → (its.getD i default).b ≠ x.b)
    (c1 : W'.cell? ⟨x.b, 4, none⟩ = some (ptrV (posC rb its its.length))) (c2 : W'.cell? ⟨x.b, 5, none⟩ = some (ptrV rb))
    (c3 : W'.cell? ⟨posC rb its its.length, 5, none⟩ = some (ptrV x.b)) (c4 : W'.cell? ⟨rb, 4, none⟩ = some (ptrV x.b))
    (c5 : ∀ b o, b ≠ x.b → ¬ (b = posC rb its its.length ∧ o = 5) → ¬ (b = rb ∧ o = 4) → W'.cell? ⟨b, o, none⟩ = W.cell? ⟨b, o, none⟩) : Ring W' rb (its ++ [x]) := by
  have hl : (its ++ [x]).length = its.length + 1 := by simp
  have hp0 : posC rb its 0 = rb := rfl
  have posx : ∀ j, j ≤ its.length → posC rb its j ≠ x.b := fun j hj => by
    unfold posC
    by_cases h0 : j = 0
    · rw [if_pos h0]; exact fun e => hx e.symm
    · rw [if_neg h0]; exact hxn _ (by omega)
  intro j hj
  rw [hl] at hj ⊢
  rw [snoc_pos, snoc_pos, snoc_pos]
  by_cases e : j = its.length + 1
  · subst e
    have n1 : nxI (its.length + 1) (its.length + 1) = 0 := by unfold nxI; rw [if_pos rfl]
    have p1 : pvI (its.length + 1) (its.length + 1) = its.length := by unfold pvI; rw [if_neg (by omega)]; omega
    rw [n1, p1, if_neg (by omega), if_pos rfl, if_pos (Nat.zero_le _), if_pos (Nat.le_refl _), hp0]
    exact ⟨c2, c1⟩
  · have hj' : j ≤ its.length := by omega
    rw [if_pos hj']
    constructor
    · by_cases e2 : j = its.length
      · subst e2
        have n1 : nxI (its.length + 1) its.length = its.length + 1 := by unfold nxI; rw [if_neg (by omega)]
        rw [n1, if_neg (by omega), if_pos rfl]
        exact c3
      · have n1 : nxI (its.length + 1) j = j + 1 := by unfold nxI; rw [if_neg (by omega)]
        have n2 : nxI its.length j = j + 1 := by unfold nxI; rw [if_neg e2]
        rw [n1, if_pos (by omega), c5 _ 5 (posx j hj') (fun h => e2 (hA.pos hj' (Nat.le_refl _) h.1)) (fun h => by omega), (hR j hj').1, n2]
    · by_cases e2 : j = 0
      · subst e2
        have p1 : pvI (its.length + 1) 0 = its.length + 1 := rfl
        rw [p1, if_neg (by omega), if_pos rfl]
        exact c4
      · have p1 : pvI (its.length + 1) j = j - 1 := by unfold pvI; rw [if_neg e2]
        have p2 : pvI its.length j = j - 1 := by unfold pvI; rw [if_neg e2]
        rw [p1, if_pos (by omega), c5 _ 4 (posx j hj') (fun h => by omega) (fun h => e2 (hA.pos hj' (Nat.zero_le _) (h.1.trans hp0.symm))), (hR j hj').2, p2]
end Go.Proofs.Ytacjbgmnoiimbac
