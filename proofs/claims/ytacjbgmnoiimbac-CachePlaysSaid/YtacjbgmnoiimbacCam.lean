/- A cache in memory: what its operations leave. -/
import Derived.Test.YtacjbgmnoiimbacCal
namespace Go.Proofs.Ytacjbgmnoiimbac
set_option linter.unusedVariables false
set_option linter.unusedSimpArgs false
open Go.RowKit

/-- a cache without its ring -/
def Cy (W : World) (g bm rb : Nat) (room used : Int) (L : List (Int × Int × Nat)) (items : List It) : Prop :=
  W.heap[g]? = some (.cells #[.int .i64 room, .int .i64 used, .map (some bm), ptrV rb] 52 (0, 0)) ∧ MapAt W bm L ∧ ItemRow W rb ∧ ∀ x ∈ items, ItemAt W x
theorem Cy.drewN {W : World} {g bm rb : Nat} {room used : Int} {L : List (Int × Int × Nat)} {items : List It} (h : Cy W g bm rb room used L items) (n : Nat) : Cy (W.drewN n) g bm rb room used L items := h
theorem Ring.drewN {W : World} {rb : Nat} {its : List It} (h : Ring W rb its) (n : Nat) : Ring (W.drewN n) rb its := h
theorem ItemAt.same {W W' : World} {x : It} (h : ItemAt W x) (hr : ItemRow W' x.b) (hc : ∀ o, o < 4 → W'.cell? ⟨x.b, o, none⟩ = W.cell? ⟨x.b, o, none⟩) (hs : ∀ (k : Nat) (cs : Array Value), W.heap[k]? = some (.cells cs 9 (0, 0)) → W'.heap[k]? = W.heap[k]?) : ItemAt W' x :=
  ⟨hr, (hc 0 (by omega)).trans h.2.1, (hc 1 (by omega)).trans h.2.2.1, (hc 2 (by omega)).trans h.2.2.2.1, (hc 3 (by omega)).trans h.2.2.2.2.1, h.2.2.2.2.2.1, h.2.2.2.2.2.2.same hs⟩
/-- a link is stored to -/
theorem Cy.link {W : World} {g bm rb : Nat} {room used : Int} {L : List (Int × Int × Nat)} {items : List It} (h : Cy W g bm rb room used L items) {k : Nat} (hk : ItemRow W k) (o : Nat) (ho : 4 ≤ o) (v : Value) : Cy (W.setCell ⟨k, o, none⟩ v) g bm rb room used L items := by
  obtain ⟨h1, ⟨es, clock, h2, h2'⟩, h3, h4⟩ := h
  obtain ⟨cs, hk1, hk2⟩ := hk
  have hoth : ∀ j, j ≠ k → (W.setCell ⟨k, o, none⟩ v).heap[j]? = W.heap[j]? := fun j hj => heap_setCell_other W ⟨k, o, none⟩ j v hj
  have hs : ∀ (j : Nat) (cs' : Array Value), W.heap[j]? = some (.cells cs' 9 (0, 0)) → (W.setCell ⟨k, o, none⟩ v).heap[j]? = W.heap[j]? := fun j cs' hj => hoth j (by
    rintro rfl
    rw [hk1] at hj; simp at hj)
  refine ⟨(hoth g (by rintro rfl; rw [hk1] at h1; simp at h1)).trans h1, ⟨es, clock, (hoth bm (by rintro rfl; rw [hk1] at h2; simp at h2)).trans h2, h2'⟩, h3.set k o v, fun x hx => ?_⟩
  have hi := h4 x hx
  exact hi.same (hi.1.set k o v) (fun o' ho' => cell_set_other _ _ _ _ _ _ (fun e => by omega)) hs
/-- the map turns -/
theorem Cy.turn {W : World} {g bm rb : Nat} {room used : Int} {L L' : List (Int × Int × Nat)} {items : List It} (h : Cy W g bm rb room used L items) (es : Array MapEntry) (clock : Nat) (hes : es.toList.map (fun e => (e.key, e.val)) = L'.map entK) : Cy (withMap W bm es clock) g bm rb room used L' items := by
  obtain ⟨h1, ⟨es0, clock0, h2, h2'⟩, ⟨rc, h3, h3'⟩, h4⟩ := h
  obtain ⟨m1, m2, m3⟩ := withMap_at W bm es clock L' (heap_lt h2) hes
  have hoth : ∀ j, j < W.heap.size → j ≠ bm → (withMap W bm es clock).heap[j]? = W.heap[j]? := fun j hj hne => m2.block j hj (by simp; exact hne)
  have hcel : ∀ (j : Nat) (cs : Array Value) (t : TypeId), W.heap[j]? = some (.cells cs t (0, 0)) → (withMap W bm es clock).heap[j]? = W.heap[j]? := fun j cs t hj => hoth j (heap_lt hj) (by
    rintro rfl
    rw [h2] at hj; simp at hj)
  refine ⟨(hcel g _ _ h1).trans h1, m1, ⟨rc, (hcel rb _ _ h3).trans h3, h3'⟩, fun x hx => ?_⟩
  have hi := h4 x hx
  obtain ⟨xc, hx1, hx2⟩ := hi.1
  exact hi.same ⟨xc, (hcel _ _ _ hx1).trans hx1, hx2⟩ (fun o' _ => cell_heap (hcel _ _ _ hx1) o') (fun k cs hk => hcel k cs 9 hk)
/-- how many bytes are used is stored -/
theorem Cy.use {W : World} {g bm rb : Nat} {room used : Int} {L : List (Int × Int × Nat)} {items : List It} (h : Cy W g bm rb room used L items) (used' : Int) : Cy (W.setCell ⟨g, 1, none⟩ (.int .i64 used')) g bm rb room used' L items := by
  obtain ⟨h1, ⟨es0, clock0, h2, h2'⟩, h3, h4⟩ := h
  have hoth : ∀ j, j ≠ g → (W.setCell ⟨g, 1, none⟩ (.int .i64 used')).heap[j]? = W.heap[j]? := fun j hj => heap_setCell_other W ⟨g, 1, none⟩ j _ hj
  refine ⟨heap_setCell_same W g 1 _ 52 (.int .i64 used') h1, ⟨es0, clock0, (hoth bm (by rintro rfl; rw [h1] at h2; simp at h2)).trans h2, h2'⟩, h3.set g 1 _, fun x hx => ?_⟩
  have hi := h4 x hx
  obtain ⟨xc, hx1, hx2⟩ := hi.1
  have hne : x.b ≠ g := by
    intro e
    rw [e, h1] at hx1; simp at hx1
  exact hi.same ⟨xc, (hoth _ hne).trans hx1, hx2⟩ (fun o' _ => cell_heap (hoth _ hne) o') (fun k cs hk => hoth k (by
    rintro rfl
    rw [h1] at hk; simp at hk))
/-- the ring's blocks stay -/
theorem Ring.same {W W' : World} {rb : Nat} {its : List It} (h : Ring W rb its) (hs : ∀ i, i ≤ its.length → W'.heap[posC rb its i]? = W.heap[posC rb its i]?) : Ring W' rb its := fun i hi => by
  rw [cell_heap (hs i hi), cell_heap (hs i hi)]; exact h i hi
/-- nothing but the cache's own blocks turned -/
def TurnedC (g bm rb : Nat) (its : List It) (w w' : World) : Prop := w'.os = w.os ∧ w'.tape = w.tape ∧ w'.output = w.output ∧ w.heap.size ≤ w'.heap.size ∧ ∀ k, k < w.heap.size → k ≠ g → k ≠ bm → k ≠ rb → (∀ i, i < its.length → k ≠ (its.getD i default).b) → w'.heap[k]? = w.heap[k]?
theorem TurnedC.refl (g bm rb : Nat) (its : List It) (w : World) : TurnedC g bm rb its w w := ⟨rfl, rfl, rfl, Nat.le_refl _, fun _ _ _ _ _ _ => rfl⟩
theorem TurnedC.set {g bm rb : Nat} {its : List It} {a b : World} (h : TurnedC g bm rb its a b) (k o : Nat) (x : Value) (hk : k = g ∨ (∃ i, i ≤ its.length ∧ k = posC rb its i) ∨ a.heap.size ≤ k) : TurnedC g bm rb its a (b.setCell ⟨k, o, none⟩ x) :=
  ⟨h.1, h.2.1, h.2.2.1, by simpa using h.2.2.2.1, fun i hi h1 h2 h3 h4 => (heap_setCell_other b ⟨k, o, none⟩ i x (by
    rintro rfl
    rcases hk with rfl | ⟨j, hj, hje⟩ | hk
    · exact h1 rfl
    · unfold posC at hje
      by_cases h0 : j = 0
      · rw [if_pos h0] at hje; exact h3 hje
      · rw [if_neg h0] at hje; exact h4 (j - 1) (by omega) hje
    · have : i < a.heap.size := hi
      omega)).trans (h.2.2.2.2 i hi h1 h2 h3 h4)⟩
theorem TurnedC.turn {g bm rb : Nat} {its : List It} {a b : World} (h : TurnedC g bm rb its a b) (es : Array MapEntry) (clock : Nat) : TurnedC g bm rb its a (withMap b bm es clock) := by
  refine ⟨h.1, h.2.1, h.2.2.1, by simpa [withMap] using h.2.2.2.1, fun i hi h1 h2 h3 h4 => ?_⟩
  unfold withMap
  rw [Array.getElem?_setIfInBounds_ne (fun e => h2 e.symm)]
  exact h.2.2.2.2 i hi h1 h2 h3 h4
theorem TurnedC.drewN {g bm rb : Nat} {its : List It} {a b : World} (h : TurnedC g bm rb its a b) (n : Nat) : TurnedC g bm rb its a (b.drewN n) := h
theorem Ca.cy {W : World} {g bm rb : Nat} {room used : Int} {its : List It} (h : Ca W g bm rb room used its) : ∃ L, Cy W g bm rb room used L its ∧ L.Perm (its.map tri) := by
  obtain ⟨L, h1, h2⟩ := h.map
  refine ⟨L, ⟨h.head, h1, h.root, fun x hx => ?_⟩, h2⟩
  obtain ⟨i, hi, rfl⟩ := List.getElem_of_mem hx
  have := h.item i hi
  rwa [List.getD_eq_getElem?_getD, List.getElem?_eq_getElem hi, Option.getD_some] at this
theorem Ca.mk' {W : World} {g bm rb : Nat} {room used : Int} {its items : List It} {L : List (Int × Int × Nat)} (h : Cy W g bm rb room used L items) (hL : L.Perm (its.map tri)) (hsub : ∀ x ∈ its, x ∈ items) (hr : Ring W rb its) (ha : ApartC rb its) (hn : Names its) : Ca W g bm rb room used its :=
  ⟨h.1, ⟨L, h.2.1, hL⟩, h.2.2.1, fun i hi => h.2.2.2 _ (hsub _ (by rw [List.getD_eq_getElem?_getD, List.getElem?_eq_getElem hi]; exact List.getElem_mem hi)), hr, ha, hn⟩
theorem Ca.posRow {W : World} {g bm rb : Nat} {room used : Int} {its : List It} (h : Ca W g bm rb room used its) (i : Nat) (hi : i ≤ its.length) : ItemRow W (posC rb its i) := by
  unfold posC
  by_cases h0 : i = 0
  · rw [if_pos h0]; exact h.root
  · rw [if_neg h0]; exact (h.item (i - 1) (by omega)).1
theorem apart_erase {rb : Nat} {its : List It} (h : ApartC rb its) (i : Nat) (hi : i < its.length) : ApartC rb (its.eraseIdx i) := by
  have hl := erase_len its i hi
  refine ⟨fun j hj => ?_, fun j k hj hk e => ?_⟩
  · rw [erase_at]
    split
    · exact h.1 j (by omega)
    · exact h.1 (j + 1) (by omega)
  · rw [erase_at, erase_at] at e
    by_cases a : j < i
    · rw [if_pos a] at e
      by_cases b : k < i
      · rw [if_pos b] at e; exact h.2 _ _ (by omega) (by omega) e
      · rw [if_neg b] at e
        have := h.2 _ _ (by omega) (by omega) e
        omega
    · rw [if_neg a] at e
      by_cases b : k < i
      · rw [if_pos b] at e
        have := h.2 _ _ (by omega) (by omega) e
        omega
      · rw [if_neg b] at e
        have := h.2 _ _ (by omega) (by omega) e
        omega
theorem names_erase {its : List It} (h : Names its) (i : Nat) (hi : i < its.length) : Names (its.eraseIdx i) := by
  have hl := erase_len its i hi
  intro j k hj hk e1 e2
  rw [erase_at, erase_at] at e1 e2
  by_cases a : j < i
  · rw [if_pos a] at e1 e2
    by_cases b : k < i
    · rw [if_pos b] at e1 e2; exact h _ _ (by omega) (by omega) e1 e2
    · rw [if_neg b] at e1 e2
      have := h _ _ (by omega) (by omega) e1 e2
      omega
  · rw [if_neg a] at e1 e2
    by_cases b : k < i
    · rw [if_pos b] at e1 e2
      have := h _ _ (by omega) (by omega) e1 e2
      omega
    · rw [if_neg b] at e1 e2
      have := h _ _ (by omega) (by omega) e1 e2
      omega
/-- the two stores of 'unlink' -/
theorem Ca.unlinked {W : World} {g bm rb : Nat} {room used : Int} {its : List It} {L : List (Int × Int × Nat)} (h : Ca W g bm rb room used its) (hy : Cy W g bm rb room used L its) (i : Nat) (hi : i < its.length) :
    Cy ((W.setCell ⟨posC rb its (pvI its.length (i + 1)), 5, none⟩ (ptrV (posC rb its (nxI its.length (i + 1))))).setCell ⟨posC rb its (nxI its.length (i + 1)), 4, none⟩ (ptrV (posC rb its (pvI its.length (i + 1))))) g bm rb room used L its ∧
    Ring ((W.setCell ⟨posC rb its (pvI its.length (i + 1)), 5, none⟩ (ptrV (posC rb its (nxI its.length (i + 1))))).setCell ⟨posC rb its (nxI its.length (i + 1)), 4, none⟩ (ptrV (posC rb its (pvI its.length (i + 1))))) rb (its.eraseIdx i) ∧
    TurnedC g bm rb its W ((W.setCell ⟨posC rb its (pvI its.length (i + 1)), 5, none⟩ (ptrV (posC rb its (nxI its.length (i + 1))))).setCell ⟨posC rb its (nxI its.length (i + 1)), 4, none⟩ (ptrV (posC rb its (pvI its.length (i + 1))))) ∧
    ((W.setCell ⟨posC rb its (pvI its.length (i + 1)), 5, none⟩ (ptrV (posC rb its (nxI its.length (i + 1))))).setCell ⟨posC rb its (nxI its.length (i + 1)), 4, none⟩ (ptrV (posC rb its (pvI its.length (i + 1))))).cell? ⟨(its.getD i default).b, 5, none⟩ = W.cell? ⟨(its.getD i default).b, 5, none⟩ := by
  have hpl : pvI its.length (i + 1) ≤ its.length := by unfold pvI; split <;> omega
  have hnl : nxI its.length (i + 1) ≤ its.length := by unfold nxI; split <;> omega
  have hpr := h.posRow _ hpl
  have hnr := h.posRow _ hnl
  have hpe : posC rb its (i + 1) = (its.getD i default).b := by unfold posC; rw [if_neg (by omega), Nat.add_sub_cancel]
  have hpn : pvI its.length (i + 1) ≠ i + 1 := by unfold pvI; rw [if_neg (by omega)]; omega
  obtain ⟨x, hx⟩ := hpr.cell 5 (by omega)
  obtain ⟨y, hy'⟩ := hnr.cell 4 (by omega)
  refine ⟨(hy.link hpr 5 (by omega) _).link (hnr.set _ _ _) 4 (by omega) _, ring_erase h.ring h.apart hi ?_ ?_ (fun b o h1 h2 => ?_), ((TurnedC.refl g bm rb its W).set _ 5 _ (.inr (.inl ⟨_, hpl, rfl⟩))).set _ 4 _ (.inr (.inl ⟨_, hnl, rfl⟩)), ?_⟩
  · rw [cell_set_other _ _ _ _ _ _ (fun e => by omega)]
    exact World.cell?_setCell_same _ _ _ hx
  · exact World.cell?_setCell_same _ _ _ ((cell_set_other _ _ _ _ _ _ (fun e => by omega)).trans hy')
  · rw [cell_set_other _ _ _ _ _ _ (fun e => h2 ⟨e.1.symm, e.2.symm⟩), cell_set_other _ _ _ _ _ _ (fun e => h1 ⟨e.1.symm, e.2.symm⟩)]
  · rw [cell_set_other _ _ _ _ _ _ (fun e => by omega), cell_set_other _ _ _ _ _ _ (fun e => by
      have h1 := e.1
      rw [← hpe] at h1
      exact hpn (h.apart.pos hpl (by omega) h1))]
end Go.Proofs.Ytacjbgmnoiimbac
