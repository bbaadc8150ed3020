/- Two caches' items that are the same but for where their keys lie; a row of texts that is turned. -/
import Derived.Test.YtacjbgmnoiimbacWalkH
namespace Go.Proofs.Ytacjbgmnoiimbac
set_option linter.unusedVariables false
set_option linter.unusedSimpArgs false
open Go.RowKit

def nameK (x : It) : Int × Int × List ByteArray := (x.file, x.blk, x.keys)
def Twin (a b : List It) : Prop := a.map nameK = b.map nameK
theorem Twin.len {a b : List It} (h : Twin a b) : a.length = b.length := by
  have := congrArg List.length h; simpa using this
theorem Twin.get {a b : List It} (h : Twin a b) {i : Nat} (hi : i < a.length) : (a.getD i default).file = (b.getD i default).file ∧ (a.getD i default).blk = (b.getD i default).blk ∧ (a.getD i default).keys = (b.getD i default).keys := by
  have hb : i < b.length := by rw [← h.len]; exact hi
  have h1 : (a.map nameK)[i]? = (b.map nameK)[i]? := by rw [h]
  rw [List.getElem?_map, List.getElem?_map, List.getElem?_eq_getElem hi, List.getElem?_eq_getElem hb] at h1
  simp only [Option.map_some, Option.some.injEq] at h1
  rw [List.getD_eq_getElem?_getD, List.getD_eq_getElem?_getD, List.getElem?_eq_getElem hi, List.getElem?_eq_getElem hb]
  simp only [Option.getD_some]
  unfold nameK at h1
  simp only [Prod.mk.injEq] at h1
  exact h1
theorem total_names (a : List It) : total a = ((a.map nameK).map fun t => sizeK t.2.2).sum := by
  unfold total
  rw [List.map_map]; rfl
theorem Twin.total {a b : List It} (h : Twin a b) : Proofs.Ytacjbgmnoiimbac.total a = Proofs.Ytacjbgmnoiimbac.total b := by
  rw [total_names, total_names, h]
theorem Twin.snoc {a b : List It} {x y : It} (h : Twin a b) (hxy : nameK x = nameK y) : Twin (a ++ [x]) (b ++ [y]) := by
  unfold Twin at *
  rw [List.map_append, List.map_append, h, List.map_cons, List.map_cons, hxy]
theorem Twin.evict {room : Int} : ∀ {a b : List It}, Twin a b → Twin (evict room a) (evict room b)
  | [], [], _ => rfl
  | [], y :: s, h => by cases h
  | x :: r, [], h => by cases h
  | x :: r, y :: s, h => by
    have ht := h.total
    have hr : Twin r s := by
      have h' : nameK x :: r.map nameK = nameK y :: s.map nameK := h
      exact (List.cons.inj h').2
    rw [Proofs.Ytacjbgmnoiimbac.evict, Proofs.Ytacjbgmnoiimbac.evict, ht]
    split
    · exact hr.evict
    · exact h
theorem Twin.erase {a b : List It} (h : Twin a b) (i : Nat) : Twin (a.eraseIdx i) (b.eraseIdx i) := by
  unfold Twin at *
  rw [eraseIdx_map, eraseIdx_map, h]
theorem Twin.others {a b : List It} (h : Twin a b) (f : Int) : Twin (others f a) (others f b) := by
  have e : ∀ l : List It, (Proofs.Ytacjbgmnoiimbac.others f l).map nameK = (l.map nameK).filter fun t => !(t.1 == f) := fun l => by
    unfold Proofs.Ytacjbgmnoiimbac.others
    rw [List.filter_map]; rfl
  unfold Twin at *
  rw [e, e, h]
theorem Twin.without {a b a1 b1 : List It} {f k : Int} (h : Twin a b) (hn : Names a) (ha : Without f k a a1) (hb : Without f k b b1) : Twin a1 b1 := by
  rcases ha with ⟨i, hi, hif, hib, rfl⟩ | ⟨hno, rfl⟩
  · rcases hb with ⟨j, hj, hjf, hjb, rfl⟩ | ⟨hno, rfl⟩
    · have hja : j < a.length := by rw [h.len]; exact hj
      obtain ⟨e1, e2, _⟩ := h.get hja
      obtain rfl : i = j := hn i j hi hja (hif.trans (hjf.symm.trans e1.symm)) (hib.trans (hjb.symm.trans e2.symm))
      exact h.erase i
    · obtain ⟨e1, e2, _⟩ := h.get hi
      exact absurd ⟨e1.symm.trans hif, e2.symm.trans hib⟩ (hno i (by rw [← h.len]; exact hi))
  · rcases hb with ⟨j, hj, hjf, hjb, rfl⟩ | ⟨hno2, rfl⟩
    · have hja : j < a1.length := by rw [h.len]; exact hj
      obtain ⟨e1, e2, _⟩ := h.get hja
      exact absurd ⟨e1.trans hjf, e2.trans hjb⟩ (hno j hja)
    · exact h
theorem Twin.move {a b : List It} (h : Twin a b) {i : Nat} (hi : i < a.length) : Twin (a.eraseIdx i ++ [a.getD i default]) (b.eraseIdx i ++ [b.getD i default]) := by
  obtain ⟨e1, e2, e3⟩ := h.get hi
  exact (h.erase i).snoc (by unfold nameK; rw [e1, e2, e3])
/-- a row of texts that is turned in one place -/
def Turn9 (ob : Nat) (w w' : World) : Prop := w'.os = w.os ∧ w'.tape = w.tape ∧ w'.output = w.output ∧ w'.heap.size = w.heap.size ∧ (∀ k, k ≠ ob → w'.heap[k]? = w.heap[k]?) ∧ ∀ cs, w.heap[ob]? = some (.cells cs 9 (0, 0)) → ∃ cs', w'.heap[ob]? = some (.cells cs' 9 (0, 0)) ∧ cs'.size = cs.size
theorem Turn9.refl (ob : Nat) (w : World) : Turn9 ob w w := ⟨rfl, rfl, rfl, rfl, fun _ _ => rfl, fun cs h => ⟨cs, h, rfl⟩⟩
theorem Turn9.set {ob : Nat} {w w' : World} (h : Turn9 ob w w') (i : Nat) (v : Value) : Turn9 ob w (w'.setCell ⟨ob, i, none⟩ v) := by
  obtain ⟨h1, h2, h3, h4, h5, h6⟩ := h
  have hs : (w'.setCell ⟨ob, i, none⟩ v).heap.size = w'.heap.size := by unfold World.setCell; split <;> simp
  refine ⟨?_, ?_, ?_, hs.trans h4, fun k hk => (heap_setCell_other w' ⟨ob, i, none⟩ k v (by simpa using hk)).trans (h5 k hk), fun cs hc => ?_⟩
  · rw [← h1]; unfold World.setCell; split <;> rfl
  · rw [← h2]; unfold World.setCell; split <;> rfl
  · rw [← h3]; unfold World.setCell; split <;> rfl
  · obtain ⟨cs', hc', hz⟩ := h6 cs hc
    obtain ⟨cs2, hc2, hz2⟩ := row_set hc' ob i v
    exact ⟨cs2, hc2, hz2.trans hz⟩
theorem Turn9.below {ob B : Nat} {w w' : World} (h : Turn9 ob w w') (hB : B ≤ ob) : Below B w w' := by
  obtain ⟨h1, h2, h3, h4, h5, h6⟩ := h
  exact ⟨h1, h2, h3, Nat.le_of_eq h4.symm, fun k hk => h5 k (by omega)⟩
end Go.Proofs.Ytacjbgmnoiimbac
