/- A cache in memory. -/
import Derived.Test.YtacjbgmnoiimbacWalkB
namespace Go.Proofs.Ytacjbgmnoiimbac
set_option linter.unusedVariables false
set_option linter.unusedSimpArgs false
open Go.RowKit

theorem cell_heap {W W' : World} {b : Nat} (h : W'.heap[b]? = W.heap[b]?) (o : Nat) : W'.cell? ⟨b, o, none⟩ = W.cell? ⟨b, o, none⟩ := by
  simp only [World.cell?]; rw [h]
def KeysAt (W : World) (a : Option Addr) (keys : List ByteArray) : Prop := 0 < keys.length → ∃ b off cs, a = some ⟨b, off, none⟩ ∧ W.heap[b]? = some (.cells cs 9 (0, 0)) ∧ ∀ k, k < keys.length → cs[off + k]? = some (.string (keys.getD k ByteArray.empty))
theorem KeysAt.strs {W : World} {a : Option Addr} {keys : List ByteArray} (h : KeysAt W a keys) : IsStrs W a keys := by
  intro h0
  obtain ⟨b, off, cs, ha, hb, hc⟩ := h h0
  exact ⟨b, off, ha, heap_lt hb, fun k hk => (heap_cell hb (off + k)).trans (hc k hk)⟩
theorem KeysAt.same {W W' : World} {a : Option Addr} {keys : List ByteArray} (h : KeysAt W a keys) (hs : ∀ (k : Nat) (cs : Array Value), W.heap[k]? = some (.cells cs 9 (0, 0)) → W'.heap[k]? = W.heap[k]?) : KeysAt W' a keys := by
  intro h0
  obtain ⟨b, off, cs, ha, hb, hc⟩ := h h0
  exact ⟨b, off, cs, ha, (hs b cs hb).trans hb, hc⟩
def tri (x : It) : Int × Int × Nat := (x.file, x.blk, x.b)
/-- an item in memory -/
def ItemAt (W : World) (x : It) : Prop := ItemRow W x.b ∧ W.cell? ⟨x.b, 0, none⟩ = some (.int .i64 x.file) ∧ W.cell? ⟨x.b, 1, none⟩ = some (.int .i64 x.blk) ∧ W.cell? ⟨x.b, 2, none⟩ = some (.slice x.a x.keys.length x.kc) ∧ W.cell? ⟨x.b, 3, none⟩ = some (.int .i64 (sizeK x.keys : Int)) ∧ x.keys.length ≤ x.kc ∧ KeysAt W x.a x.keys
def Names (its : List It) : Prop := ∀ i j, i < its.length → j < its.length → (its.getD i default).file = (its.getD j default).file → (its.getD i default).blk = (its.getD j default).blk → i = j
structure Ca (W : World) (g bm rb : Nat) (room used : Int) (its : List It) : Prop where
  head : W.heap[g]? = some (.cells #[.int .i64 room, .int .i64 used, .map (some bm), ptrV rb] 52 (0, 0))
  map : ∃ L, MapAt W bm L ∧ L.Perm (its.map tri)
  root : ItemRow W rb
  item : ∀ i, i < its.length → ItemAt W (its.getD i default)
  ring : Ring W rb its
  apart : ApartC rb its
  names : Names its
theorem row_set {W : World} {k : Nat} {cs : Array Value} {t : TypeId} (h : W.heap[k]? = some (.cells cs t (0, 0))) (b o : Nat) (x : Value) : ∃ cs' : Array Value, (W.setCell ⟨b, o, none⟩ x).heap[k]? = some (.cells cs' t (0, 0)) ∧ cs'.size = cs.size := by
  by_cases e : k = b
  · subst e
    exact ⟨_, heap_setCell_same W k o cs t x h, by simp⟩
  · exact ⟨cs, (heap_setCell_other W ⟨b, o, none⟩ k x e).trans h, rfl⟩
theorem ItemRow.set {W : World} {k : Nat} (h : ItemRow W k) (b o : Nat) (x : Value) : ItemRow (W.setCell ⟨b, o, none⟩ x) k := by
  obtain ⟨cs, h1, h2⟩ := h
  obtain ⟨cs', h3, h4⟩ := row_set h1 b o x
  exact ⟨cs', h3, h4.trans h2⟩
theorem cell_set_other (W : World) (b o b' o' : Nat) (x : Value) (h : ¬ (b = b' ∧ o = o')) : (W.setCell ⟨b, o, none⟩ x).cell? ⟨b', o', none⟩ = W.cell? ⟨b', o', none⟩ := World.cell?_setCell_other _ _ _ _ (by
  intro e
  simp only [Addr.mk.injEq, and_true] at e
  exact h e)
theorem ItemRow.cell {W : World} {k : Nat} (h : ItemRow W k) (o : Nat) (ho : o < 6) : ∃ x, W.cell? ⟨k, o, none⟩ = some x := by
  obtain ⟨cs, h1, h2⟩ := h
  exact ⟨cs[o]'(by omega), (heap_cell h1 o).trans (Array.getElem?_eq_getElem _)⟩
theorem perm_erase {α : Type} (l : List α) : ∀ i (h : i < l.length), (l[i] :: l.eraseIdx i).Perm l := by
  induction l with
  | nil => intro i h; cases h
  | cons x r ih =>
    intro i h
    cases i with
    | zero => exact List.Perm.refl _
    | succ i =>
      have h' : i < r.length := by simpa using h
      have := ih i h'
      show (r[i] :: x :: r.eraseIdx i).Perm (x :: r)
      exact (List.Perm.swap x (r[i]) _).trans (this.cons x)
/-- where a name stands in the ring, it is found in the map -/
theorem find_yes {L : List (Int × Int × Nat)} {its : List It} (hp : L.Perm (its.map tri)) (hn : Names its) {i : Nat} (hi : i < its.length) : ∃ k, findL (its.getD i default).file (its.getD i default).blk L 0 = some (k, (its.getD i default).b) ∧ (L.eraseIdx k).Perm ((its.eraseIdx i).map tri) := by
  have hmem : tri (its.getD i default) ∈ L := by
    rw [hp.mem_iff]
    refine List.mem_map.2 ⟨_, ?_, rfl⟩
    rw [List.getD_eq_getElem?_getD, List.getElem?_eq_getElem hi]; exact List.getElem_mem hi
  cases hf : findL (its.getD i default).file (its.getD i default).blk L 0 with
  | none => exact absurd ⟨rfl, rfl⟩ (findL_none hf _ hmem)
  | some kp =>
    obtain ⟨k, p⟩ := kp
    obtain ⟨j, hk, hj, hlj⟩ := findL_some hf
    rw [Nat.zero_add] at hk
    subst hk
    have hin : ((its.getD i default).file, (its.getD i default).blk, p) ∈ its.map tri := by
      rw [← hp.mem_iff]
      exact List.mem_of_getElem? hlj
    obtain ⟨y, hy, hye⟩ := List.mem_map.1 hin
    obtain ⟨i', hi', rfl⟩ := List.getElem_of_mem hy
    have e1 : its[i'] = its.getD i' default := by rw [List.getD_eq_getElem?_getD, List.getElem?_eq_getElem hi', Option.getD_some]
    rw [e1] at hye
    simp only [tri, Prod.mk.injEq] at hye
    have hii := hn i' i hi' hi hye.1 hye.2.1
    subst hii
    refine ⟨k, by rw [hye.2.2], ?_⟩
    have p1 : L.Perm (tri (its.getD i' default) :: L.eraseIdx k) := by
      have hk2 : k < L.length := hj
      have := perm_erase L k hk2
      have e2 : L[k] = tri (its.getD i' default) := by
        rw [List.getElem?_eq_getElem hk2] at hlj
        have := Option.some.inj hlj
        rw [this, tri, hye.2.2]
      rw [e2] at this
      exact this.symm
    have p2 : (its.map tri).Perm (tri (its.getD i' default) :: (its.eraseIdx i').map tri) := by
      have := (perm_erase its i' hi').map tri
      rw [List.map_cons, e1] at this
      exact this.symm
    exact (p1.symm.trans (hp.trans p2)).cons_inv
theorem find_no {L : List (Int × Int × Nat)} {its : List It} (hp : L.Perm (its.map tri)) {f b : Int} (h : ∀ i, i < its.length → ¬ ((its.getD i default).file = f ∧ (its.getD i default).blk = b)) : findL f b L 0 = none := by
  cases hf : findL f b L 0 with
  | none => rfl
  | some kp =>
    exfalso
    obtain ⟨k, p⟩ := kp
    obtain ⟨j, _, hj, hlj⟩ := findL_some hf
    have hin : (f, b, p) ∈ its.map tri := by
      rw [← hp.mem_iff]
      exact List.mem_of_getElem? hlj
    obtain ⟨y, hy, hye⟩ := List.mem_map.1 hin
    obtain ⟨i', hi', rfl⟩ := List.getElem_of_mem hy
    have e1 : its[i'] = its.getD i' default := by rw [List.getD_eq_getElem?_getD, List.getElem?_eq_getElem hi', Option.getD_some]
    rw [e1] at hye
    simp only [tri, Prod.mk.injEq] at hye
    exact h i' hi' ⟨hye.1, hye.2.1⟩
end Go.Proofs.Ytacjbgmnoiimbac
