/- A cache: what Put leaves; plain laws. -/
import Derived.Test.YtacjbgmnoiimbacWalkD
namespace Go.Proofs.Ytacjbgmnoiimbac
set_option linter.unusedVariables false
set_option linter.unusedSimpArgs false
open Go.RowKit

/-- those that stay: the oldest go as long as there is no room -/
def evict (room : Int) : List It → List It
  | [] => []
  | x :: r => if room < (total (x :: r) : Int) then evict room r else x :: r
theorem total_cons (x : It) (r : List It) : total (x :: r) = sizeK x.keys + total r := by simp [total]
theorem total_snoc (its : List It) (x : It) : total (its ++ [x]) = total its + sizeK x.keys := by simp [total]
theorem total_erase (its : List It) : ∀ i, i < its.length → total (its.eraseIdx i) + sizeK (its.getD i default).keys = total its := by
  induction its with
  | nil => intro i h; cases h
  | cons x r ih =>
    intro i h
    cases i with
    | zero => simp [total]; omega
    | succ i =>
      have := ih i (by simpa using h)
      rw [List.eraseIdx_cons_succ, total_cons, total_cons, List.getD_cons_succ]
      omega
/-- without the item of a name -/
def Without (f b : Int) (its its1 : List It) : Prop := (∃ i, i < its.length ∧ (its.getD i default).file = f ∧ (its.getD i default).blk = b ∧ its1 = its.eraseIdx i) ∨ ((∀ i, i < its.length → ¬ ((its.getD i default).file = f ∧ (its.getD i default).blk = b)) ∧ its1 = its)
theorem without_names {f b : Int} {its its1 : List It} (h : Without f b its its1) (hn : Names its) : Names its1 ∧ ∀ i, i < its1.length → ¬ ((its1.getD i default).file = f ∧ (its1.getD i default).blk = b) := by
  rcases h with ⟨i, hi, h1, h2, rfl⟩ | ⟨h1, rfl⟩
  · refine ⟨names_erase hn i hi, fun j hj ⟨e1, e2⟩ => ?_⟩
    rw [erase_len its i hi] at hj
    rw [erase_at] at e1 e2
    by_cases a : j < i
    · rw [if_pos a] at e1 e2
      have := hn j i (by omega) hi (e1.trans h1.symm) (e2.trans h2.symm)
      omega
    · rw [if_neg a] at e1 e2
      have := hn (j + 1) i (by omega) hi (e1.trans h1.symm) (e2.trans h2.symm)
      omega
  · exact ⟨hn, h1⟩
theorem getD_mem {its : List It} {i : Nat} (h : i < its.length) : its.getD i default ∈ its := by
  rw [List.getD_eq_getElem?_getD, List.getElem?_eq_getElem h]; exact List.getElem_mem h
theorem snoc_getD (its : List It) (x : It) (i : Nat) (h : i ≤ its.length) : (its ++ [x]).getD i default = if i < its.length then its.getD i default else x := by
  by_cases a : i < its.length
  · rw [if_pos a, List.getD_eq_getElem?_getD, List.getElem?_append_left a, List.getD_eq_getElem?_getD]
  · rw [if_neg a, List.getD_eq_getElem?_getD, List.getElem?_append_right (by omega), show i - its.length = 0 by omega]; rfl
theorem names_snoc {its : List It} {x : It} (h : Names its) (hx : ∀ i, i < its.length → ¬ ((its.getD i default).file = x.file ∧ (its.getD i default).blk = x.blk)) : Names (its ++ [x]) := by
  intro i j hi hj e1 e2
  simp only [List.length_append, List.length_cons, List.length_nil] at hi hj
  rw [snoc_getD its x i (by omega), snoc_getD its x j (by omega)] at e1 e2
  by_cases a : i < its.length
  · rw [if_pos a] at e1 e2
    by_cases b : j < its.length
    · rw [if_pos b] at e1 e2; exact h i j a b e1 e2
    · rw [if_neg b] at e1 e2; exact absurd ⟨e1, e2⟩ (hx i a)
  · rw [if_neg a] at e1 e2
    by_cases b : j < its.length
    · rw [if_pos b] at e1 e2; exact absurd ⟨e1.symm, e2.symm⟩ (hx j b)
    · omega
theorem apart_snoc {rb : Nat} {its : List It} {x : It} (h : ApartC rb its) (hx : x.b ≠ rb) (hxn : ∀ i, i < its.length → (its.getD i default).b ≠ x.b) : ApartC rb (its ++ [x]) := by
  refine ⟨fun i hi => ?_, fun i j hi hj e => ?_⟩
  · simp only [List.length_append, List.length_cons, List.length_nil] at hi
    rw [snoc_getD its x i (by omega)]
    split
    · exact h.1 i (by omega)
    · exact hx
  · simp only [List.length_append, List.length_cons, List.length_nil] at hi hj
    rw [snoc_getD its x i (by omega), snoc_getD its x j (by omega)] at e
    by_cases a : i < its.length
    · rw [if_pos a] at e
      by_cases b : j < its.length
      · rw [if_pos b] at e; exact h.2 i j a b e
      · rw [if_neg b] at e; exact absurd e (hxn i a)
    · rw [if_neg a] at e
      by_cases b : j < its.length
      · rw [if_pos b] at e; exact absurd e.symm (hxn j b)
      · omega
theorem Ca.below {W W' : World} {g bm rb : Nat} {room used : Int} {its : List It} (h : Ca W g bm rb room used its) (hb : Below W.heap.size W W') : Ca W' g bm rb room used its := by
  have hrow : ∀ j, ItemRow W j → W'.heap[j]? = W.heap[j]? := fun j ⟨cs, hj, _⟩ => hb.block j (heap_lt hj)
  obtain ⟨L, ⟨es, clock, hm, hes⟩, hL⟩ := h.map
  refine ⟨(hb.block g (heap_lt h.head)).trans h.head, ⟨L, ⟨es, clock, (hb.block bm (heap_lt hm)).trans hm, hes⟩, hL⟩, ?_, fun i hi => ?_, h.ring.same (fun i hi => hrow _ (h.posRow i hi)), h.apart, h.names⟩
  · obtain ⟨cs, h1, h2⟩ := h.root
    exact ⟨cs, (hb.block rb (heap_lt h1)).trans h1, h2⟩
  · have hi' := h.item i hi
    obtain ⟨cs, h1, h2⟩ := hi'.1
    exact hi'.same ⟨cs, (hb.block _ (heap_lt h1)).trans h1, h2⟩ (fun o _ => cell_heap (hb.block _ (heap_lt h1)) o) (fun k cs hk => hb.block k (heap_lt hk))
/-- blocks of the cache, all from B on -/
def OwnC (B : Nat) (W : World) (g bm rb : Nat) (room used : Int) (its : List It) : Prop := Ca W g bm rb room used its ∧ B ≤ g ∧ B ≤ bm ∧ B ≤ rb ∧ ∀ i, i < its.length → B ≤ (its.getD i default).b
theorem TurnedC.below {g bm rb : Nat} {its : List It} {w w' : World} {B : Nat} (h : TurnedC g bm rb its w w') (h1 : B ≤ g) (h2 : B ≤ bm) (h3 : B ≤ rb) (h4 : ∀ i, i < its.length → B ≤ (its.getD i default).b) (hB : B ≤ w.heap.size) : Below B w w' :=
  ⟨h.1, h.2.1, h.2.2.1, h.2.2.2.1, fun k hk => h.2.2.2.2 k (by omega) (by omega) (by omega) (by omega) (fun i hi => by have := h4 i hi; omega)⟩
theorem OwnC.erase {B : Nat} {W W' : World} {g bm rb : Nat} {room used used' : Int} {its : List It} (h : OwnC B W g bm rb room used its) (i : Nat) (hi : i < its.length) (h' : Ca W' g bm rb room used' (its.eraseIdx i)) : OwnC B W' g bm rb room used' (its.eraseIdx i) := by
  refine ⟨h', h.2.1, h.2.2.1, h.2.2.2.1, fun j hj => ?_⟩
  rw [erase_len its i hi] at hj
  rw [erase_at]
  split
  · exact h.2.2.2.2 j (by omega)
  · exact h.2.2.2.2 (j + 1) (by omega)
/-- the four stores of 'last', of an item that stands in the map already -/
theorem Cy.lasted {W : World} {g bm rb : Nat} {room used : Int} {its items : List It} {L : List (Int × Int × Nat)} {x : It} (hy : Cy W g bm rb room used L items) (hx : x ∈ items) (hsub : ∀ y ∈ its, y ∈ items) (hR : Ring W rb its) (hA : ApartC rb its) (hxr : x.b ≠ rb) (hxn : ∀ i, i < its.length → (its.getD i default).b ≠ x.b) :
    Cy ((((W.setCell ⟨x.b, 4, none⟩ (ptrV (posC rb its its.length))).setCell ⟨x.b, 5, none⟩ (ptrV rb)).setCell ⟨posC rb its its.length, 5, none⟩ (ptrV x.b)).setCell ⟨rb, 4, none⟩ (ptrV x.b)) g bm rb room used L items ∧
    Ring ((((W.setCell ⟨x.b, 4, none⟩ (ptrV (posC rb its its.length))).setCell ⟨x.b, 5, none⟩ (ptrV rb)).setCell ⟨posC rb its its.length, 5, none⟩ (ptrV x.b)).setCell ⟨rb, 4, none⟩ (ptrV x.b)) rb (its ++ [x]) ∧
    ItemRow W (posC rb its its.length) ∧ posC rb its its.length ≠ x.b := by
  have hxi := (hy.2.2.2 x hx).1
  have hpr : ItemRow W (posC rb its its.length) := by
    unfold posC
    by_cases h0 : its.length = 0
    · rw [if_pos h0]; exact hy.2.2.1
    · rw [if_neg h0]; exact (hy.2.2.2 _ (hsub _ (getD_mem (by omega)))).1
  have hpx : posC rb its its.length ≠ x.b := by
    unfold posC
    by_cases h0 : its.length = 0
    · rw [if_pos h0]; exact fun e => hxr e.symm
    · rw [if_neg h0]; exact hxn _ (by omega)
  have hrr := hy.2.2.1
  refine ⟨(((hy.link hxi 4 (by omega) _).link (hxi.set _ _ _) 5 (by omega) _).link ((hpr.set _ _ _).set _ _ _) 5 (by omega) _).link (((hrr.set _ _ _).set _ _ _).set _ _ _) 4 (by omega) _, ring_snoc hR hA hxr hxn ?_ ?_ ?_ ?_ (fun b o h1 h2 h3 => ?_), hpr, hpx⟩
  · obtain ⟨v, hv⟩ := hxi.cell 4 (by omega)
    rw [cell_set_other _ _ _ _ _ _ (fun e => hxr e.1.symm), cell_set_other _ _ _ _ _ _ (fun e => by omega), cell_set_other _ _ _ _ _ _ (fun e => by omega)]
    exact World.cell?_setCell_same _ _ _ hv
  · obtain ⟨v, hv⟩ := (hxi.set x.b 4 (ptrV (posC rb its its.length))).cell 5 (by omega)
    rw [cell_set_other _ _ _ _ _ _ (fun e => by omega), cell_set_other _ _ _ _ _ _ (fun e => hpx e.1)]
    exact World.cell?_setCell_same _ _ _ hv
  · obtain ⟨v, hv⟩ := ((hpr.set x.b 4 (ptrV (posC rb its its.length))).set x.b 5 (ptrV rb)).cell 5 (by omega)
    rw [cell_set_other _ _ _ _ _ _ (fun e => by omega)]
    exact World.cell?_setCell_same _ _ _ hv
  · obtain ⟨v, hv⟩ := (((hrr.set x.b 4 (ptrV (posC rb its its.length))).set x.b 5 (ptrV rb)).set (posC rb its its.length) 5 (ptrV x.b)).cell 4 (by omega)
    exact World.cell?_setCell_same _ _ _ hv
  · rw [cell_set_other _ _ _ _ _ _ (fun e => h3 ⟨e.1.symm, e.2.symm⟩), cell_set_other _ _ _ _ _ _ (fun e => h2 ⟨e.1.symm, e.2.symm⟩), cell_set_other _ _ _ _ _ _ (fun e => h1 e.1.symm), cell_set_other _ _ _ _ _ _ (fun e => h1 e.1.symm)]
end Go.Proofs.Ytacjbgmnoiimbac
