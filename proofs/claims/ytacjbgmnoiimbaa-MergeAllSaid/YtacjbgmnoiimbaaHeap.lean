/- Heaps of rows: plain; and in memory. -/
import Derived.Test.YtacjbgmnoiimbaaPile
namespace Go.Proofs.Ytacjbgmnoiimbaa
set_option linter.unusedVariables false
set_option linter.unusedSimpArgs false
open Go.RowKit

def hd (x : RR) : Text := (x.keys.getD 0 ByteArray.empty).data.toList
def at_ (rs : List RR) (i : Nat) : RR := rs.getD i default
/-- no child is less than what stands above it, from place k on, among the first n -/
def HeapFrom (rs : List RR) (n k : Nat) : Prop := ∀ i j, k ≤ i → (j = 2 * i + 1 ∨ j = 2 * i + 2) → j < n → ¬ hd (at_ rs j) < hd (at_ rs i)
def DownInv (rs : List RR) (n i0 i : Nat) : Prop := (∀ a j, i0 ≤ a → a ≠ i → (j = 2 * a + 1 ∨ j = 2 * a + 2) → j < n → ¬ hd (at_ rs j) < hd (at_ rs a)) ∧
  ∀ p j, i0 ≤ p → (i = 2 * p + 1 ∨ i = 2 * p + 2) → (j = 2 * i + 1 ∨ j = 2 * i + 2) → j < n → ¬ hd (at_ rs j) < hd (at_ rs p)
theorem down_start {rs : List RR} {n i : Nat} (h : HeapFrom rs n (i + 1)) : DownInv rs n i i :=
  ⟨fun a j h1 h2 h3 h4 => h a j (by omega) h3 h4, fun p j h1 h2 _ _ => by omega⟩
theorem down_leaf {rs : List RR} {n i0 i : Nat} (h : DownInv rs n i0 i) (hl : n ≤ 2 * i + 1) : HeapFrom rs n i0 := fun a j h1 h2 h3 => by
  by_cases e : a = i
  · subst e; omega
  · exact h.1 a j h1 e h2 h3
theorem not_lt_trans {a b c : Text} (h : ¬ b < a) (k : ¬ c < b) : ¬ c < a := fun e => k (text_lt_le e h)
theorem text_irr (a : Text) : ¬ a < a := List.lt_irrefl a
/-- the lesser child -/
def Least (rs : List RR) (n i j : Nat) : Prop := (j = 2 * i + 1 ∨ j = 2 * i + 2) ∧ j < n ∧ ∀ k, (k = 2 * i + 1 ∨ k = 2 * i + 2) → k < n → ¬ hd (at_ rs k) < hd (at_ rs j)
theorem least_left {rs : List RR} {n i : Nat} (h1 : 2 * i + 1 < n) (h : 2 * i + 2 < n → ¬ hd (at_ rs (2 * i + 2)) < hd (at_ rs (2 * i + 1))) : Least rs n i (2 * i + 1) :=
  ⟨.inl rfl, h1, fun k hk hn => by
    rcases hk with rfl | rfl
    · exact text_irr _
    · exact h hn⟩
theorem less_asym {a b : Text} (h : a < b) : ¬ b < a := fun k => text_irr _ (text_trans h k)
theorem least_right {rs : List RR} {n i : Nat} (h1 : 2 * i + 2 < n) (h : hd (at_ rs (2 * i + 2)) < hd (at_ rs (2 * i + 1))) : Least rs n i (2 * i + 2) :=
  ⟨.inr rfl, h1, fun k hk hn => by
    rcases hk with rfl | rfl
    · exact less_asym h
    · exact text_irr _⟩
theorem down_rest {rs : List RR} {n i0 i j : Nat} (h : DownInv rs n i0 i) (hl : Least rs n i j) (hno : ¬ hd (at_ rs j) < hd (at_ rs i)) : HeapFrom rs n i0 := fun a k h1 h2 h3 => by
  by_cases e : a = i
  · subst e
    exact not_lt_trans hno (hl.2.2 k h2 h3)
  · exact h.1 a k h1 e h2 h3
theorem length_swapR (rs : List RR) (i j : Nat) : (swapR rs i j).length = rs.length := by unfold swapR; simp
theorem swap_at (rs : List RR) (i j k : Nat) (hi : i < rs.length) (hj : j < rs.length) : at_ (swapR rs i j) k = if k = j then at_ rs i else if k = i then at_ rs j else at_ rs k := by
  unfold swapR at_
  simp only [List.getD_eq_getElem?_getD, List.getElem?_set, List.length_set]
  by_cases h1 : k = j
  · subst h1
    simp [hj]
  · by_cases h2 : k = i
    · subst h2
      simp [hi, Ne.symm h1, h1]
    · simp [h1, h2, Ne.symm h1, Ne.symm h2]
theorem down_next {rs : List RR} {n i0 i j : Nat} (h : DownInv rs n i0 i) (h0 : i0 ≤ i) (hn : n ≤ rs.length) (hl : Least rs n i j) (hlt : hd (at_ rs j) < hd (at_ rs i)) : DownInv (swapR rs i j) n i0 j := by
  obtain ⟨hj, hjn, hmin⟩ := hl
  have hi : i < rs.length := by omega
  have hj' : j < rs.length := by omega
  refine ⟨fun a k h1 h2 h3 h4 => ?_, fun p k h1 h2 h3 h4 => ?_⟩
  · rw [swap_at rs i j k hi hj', swap_at rs i j a hi hj', if_neg h2]
    by_cases ea : a = i
    · subst ea
      rw [if_pos rfl]
      by_cases ek : k = j
      · rw [if_pos ek]; exact less_asym hlt
      · rw [if_neg ek, if_neg (by omega)]; exact hmin k h3 h4
    · rw [if_neg ea]
      by_cases ek : k = j
      · exfalso; omega
      · rw [if_neg ek]
        by_cases ek2 : k = i
        · subst ek2
          rw [if_pos rfl]
          exact h.2 a j h1 h3 hj hjn
        · rw [if_neg ek2]; exact h.1 a k h1 ea h3 h4
  · have hp : p = i := by omega
    subst hp
    rw [swap_at rs p j k hi hj', swap_at rs p j p hi hj', if_neg (by omega), if_neg (by omega), if_neg (by omega), if_pos rfl]
    exact h.1 j k (by omega) (by omega) h3 h4
def tot (rs : List RR) : Nat := (rs.map fun x => x.keys.length).sum
theorem tot_set : ∀ (rs : List RR) (i : Nat) (x : RR), i < rs.length → tot (rs.set i x) + (at_ rs i).keys.length = tot rs + x.keys.length
  | [], i, x, h => absurd h (Nat.not_lt_zero _)
  | y :: r, 0, x, _ => by
    show x.keys.length + tot r + y.keys.length = y.keys.length + tot r + x.keys.length
    omega
  | y :: r, i + 1, x, h => by
    have := tot_set r i x (by simpa using h)
    show y.keys.length + tot (r.set i x) + (at_ r i).keys.length = y.keys.length + tot r + x.keys.length
    omega
theorem at_set (rs : List RR) (i j : Nat) (x : RR) (hi : i < rs.length) : at_ (rs.set i x) j = if i = j then x else at_ rs j := by
  unfold at_
  rw [List.getD_eq_getElem?_getD, List.getElem?_set]
  by_cases e : i = j
  · subst e; simp [hi]
  · rw [if_neg e, if_neg e, List.getD_eq_getElem?_getD]
theorem tot_swap (rs : List RR) (i j : Nat) (hi : i < rs.length) (hj : j < rs.length) : tot (swapR rs i j) = tot rs := by
  have h1 := tot_set rs i (at_ rs j) hi
  have h2 := tot_set (rs.set i (at_ rs j)) j (at_ rs i) (by rw [List.length_set]; exact hj)
  rw [at_set rs i j _ hi] at h2
  have e : (if i = j then at_ rs j else at_ rs j) = at_ rs j := by split <;> rfl
  rw [e] at h2
  show tot ((rs.set i (at_ rs j)).set j (at_ rs i)) = tot rs
  omega
theorem tot_take (rs : List RR) : ∀ n, rs.length = n + 1 → tot (rs.take n) + (at_ rs n).keys.length = tot rs := by
  intro n hn
  have e : rs = rs.take n ++ [at_ rs n] := by
    have h1 : rs.take (n + 1) = rs.take n ++ [at_ rs n] := by
      rw [List.take_add_one]
      unfold at_
      rw [List.getElem?_eq_getElem (by omega), List.getD_eq_getElem?_getD, List.getElem?_eq_getElem (by omega)]; rfl
    rw [← h1, List.take_of_length_le (by omega)]
  have h2 : tot rs = tot (rs.take n ++ [at_ rs n]) := congrArg tot e
  rw [h2]
  unfold tot
  simp [List.map_append, List.sum_append]
/-- the same rows below n, the same ones behind it -/
def SameR (n : Nat) (rs rs' : List RR) : Prop := rs'.length = rs.length ∧ (∀ k, n ≤ k → at_ rs' k = at_ rs k) ∧ (∀ i, i < n → ∃ i', i' < n ∧ at_ rs' i = at_ rs i') ∧ (∀ i, i < n → ∃ i', i' < n ∧ at_ rs i = at_ rs' i') ∧ tot rs' = tot rs
theorem SameR.refl (n : Nat) (rs : List RR) : SameR n rs rs := ⟨rfl, fun _ _ => rfl, fun i h => ⟨i, h, rfl⟩, fun i h => ⟨i, h, rfl⟩, rfl⟩
theorem SameR.trans {n : Nat} {a b c : List RR} (h : SameR n a b) (k : SameR n b c) : SameR n a c := by
  obtain ⟨h1, h2, h3, h4, h5⟩ := h
  obtain ⟨k1, k2, k3, k4, k5⟩ := k
  refine ⟨k1.trans h1, fun i hi => (k2 i hi).trans (h2 i hi), fun i hi => ?_, fun i hi => ?_, k5.trans h5⟩
  · obtain ⟨i', hi', e⟩ := k3 i hi
    obtain ⟨i2, hi2, e2⟩ := h3 i' hi'
    exact ⟨i2, hi2, e.trans e2⟩
  · obtain ⟨i', hi', e⟩ := h4 i hi
    obtain ⟨i2, hi2, e2⟩ := k4 i' hi'
    exact ⟨i2, hi2, e.trans e2⟩
theorem same_swap (rs : List RR) (n i j : Nat) (hi : i < n) (hj : j < n) (hn : n ≤ rs.length) : SameR n rs (swapR rs i j) := by
  have e := fun k => swap_at rs i j k (by omega) (by omega)
  refine ⟨length_swapR rs i j, fun k hk => by rw [e, if_neg (by omega), if_neg (by omega)], fun k hk => ?_, fun k hk => ?_, tot_swap rs i j (by omega) (by omega)⟩
  · rw [e]
    split
    · exact ⟨i, hi, rfl⟩
    · split
      · exact ⟨j, hj, rfl⟩
      · exact ⟨k, hk, rfl⟩
  · by_cases h1 : k = i
    · exact ⟨j, hj, by rw [e, if_pos rfl, h1]⟩
    · by_cases h2 : k = j
      · by_cases h3 : i = j
        · omega
        · exact ⟨i, hi, by rw [e, if_neg h3, if_pos rfl, h2]⟩
      · exact ⟨k, hk, by rw [e, if_neg h2, if_neg h1]⟩
/-! ### in memory -/
def RowsIn (W : World) (B : Nat) (v : Value) (rs : List RR) : Prop := (v = .slice none 0 0 ∧ rs = []) ∨ ∃ g cap cs, v = .slice (some ⟨g, 0, none⟩) rs.length cap ∧ B ≤ g ∧ W.heap[g]? = some (.cells cs 26 (0, 0)) ∧ rs.length ≤ cap ∧ ∀ i, i < rs.length → cs[i]? = some (rowV (at_ rs i))
def PileAt (B : Nat) (W : World) (m : Nat) (v : Value) (rs : List RR) : Prop := W.heap[m]? = some (.cells #[v] 44 (0, 0)) ∧ B ≤ m ∧ RowsIn W B v rs ∧ ∀ x ∈ rs, x.keys.length ≤ x.kc ∧ KeysAt W x.a x.keys
/-- only blocks of the pile's kinds turn -/
def KeepM (w w' : World) : Prop := ∀ (k : Nat) (cs : Array Value) (t : TypeId), t ≠ 44 → t ≠ 26 → w.heap[k]? = some (.cells cs t (0, 0)) → w'.heap[k]? = some (.cells cs t (0, 0))
theorem KeepM.refl (w : World) : KeepM w w := fun _ _ _ _ _ h => h
theorem KeepM.trans {a b c : World} (h : KeepM a b) (k : KeepM b c) : KeepM a c := fun i cs t h1 h2 h3 => k i cs t h1 h2 (h i cs t h1 h2 h3)
theorem KeepM.of {w w' : World} (h : Below w.heap.size w w') : KeepM w w' := fun k cs t _ _ h3 => (h.block k (heap_lt h3)).trans h3
theorem KeepM.drewN {a b : World} (h : KeepM a b) (n : Nat) : KeepM a (b.drewN n) := h
theorem KeepM.set {a b : World} (h : KeepM a b) {k : Nat} {cs : Array Value} {t : TypeId} (hk : b.heap[k]? = some (.cells cs t (0, 0))) (ht : t = 44 ∨ t = 26) (o : Nat) (v : Value) : KeepM a (b.setCell ⟨k, o, none⟩ v) := fun i ci ti h1 h2 h3 => by
  have h4 := h i ci ti h1 h2 h3
  rw [heap_setCell_other b ⟨k, o, none⟩ i v (by
    rintro rfl
    rw [hk] at h4
    have := Option.some.inj h4
    simp only [Obj.cells.injEq] at this
    rcases ht with e | e
    · exact h1 (this.2.1.symm.trans e)
    · exact h2 (this.2.1.symm.trans e))]
  exact h4
theorem KeysAt.keep {W W' : World} {a : Option Addr} {keys : List ByteArray} (h : KeysAt W a keys) (hk : KeepM W W') : KeysAt W' a keys := h.same fun k cs hc => (hk k cs 9 (by decide) (by decide) hc).trans hc.symm
theorem at_mem {rs : List RR} {i : Nat} (h : i < rs.length) : at_ rs i ∈ rs := by
  unfold at_
  rw [List.getD_eq_getElem?_getD, List.getElem?_eq_getElem h]; exact List.getElem_mem h
theorem mem_at {rs : List RR} {x : RR} (h : x ∈ rs) : ∃ i, i < rs.length ∧ at_ rs i = x := by
  obtain ⟨i, hi, e⟩ := List.getElem_of_mem h
  exact ⟨i, hi, by unfold at_; rw [List.getD_eq_getElem?_getD, List.getElem?_eq_getElem hi]; exact e⟩
theorem PileAt.rows {B : Nat} {W : World} {m : Nat} {v : Value} {rs : List RR} (h : PileAt B W m v rs) (h0 : 0 < rs.length) : ∃ g cap cs, v = .slice (some ⟨g, 0, none⟩) rs.length cap ∧ B ≤ g ∧ W.heap[g]? = some (.cells cs 26 (0, 0)) ∧ rs.length ≤ cap ∧ ∀ i, i < rs.length → cs[i]? = some (rowV (at_ rs i)) := by
  rcases h.2.2.1 with ⟨_, e⟩ | h
  · subst e; simp at h0
  · exact h
theorem PileAt.shape {B : Nat} {W : World} {m : Nat} {v : Value} {rs : List RR} (h : PileAt B W m v rs) : ∃ a c, v = .slice a rs.length c := by
  rcases h.2.2.1 with ⟨e, e2⟩ | ⟨g, cap, cs, e, _⟩
  · subst e2; exact ⟨_, _, e⟩
  · exact ⟨_, _, e⟩
theorem PileAt.below {B : Nat} {W W' : World} {m : Nat} {v : Value} {rs : List RR} (h : PileAt B W m v rs) (hb : Below W.heap.size W W') : PileAt B W' m v rs := by
  refine ⟨(hb.block m (heap_lt h.1)).trans h.1, h.2.1, ?_, fun x hx => ⟨(h.2.2.2 x hx).1, (h.2.2.2 x hx).2.keep (KeepM.of hb)⟩⟩
  rcases h.2.2.1 with e | ⟨g, cap, cs, e, h1, h2, h3, h4⟩
  · exact .inl e
  · exact .inr ⟨g, cap, cs, e, h1, (hb.block g (heap_lt h2)).trans h2, h3, h4⟩
theorem PileAt.drewN {B : Nat} {W : World} {m : Nat} {v : Value} {rs : List RR} (h : PileAt B W m v rs) (n : Nat) : PileAt B (W.drewN n) m v rs := h
/-- a row is written into the pile's place i -/
theorem PileAt.set {B : Nat} {W : World} {m g cap : Nat} {rs : List RR} (h : PileAt B W m (.slice (some ⟨g, 0, none⟩) rs.length cap) rs) (i : Nat) (x : RR) (hx : x.keys.length ≤ x.kc ∧ KeysAt W x.a x.keys) (hi : i < rs.length) :
    PileAt B (W.setCell ⟨g, i, none⟩ (rowV x)) m (.slice (some ⟨g, 0, none⟩) rs.length cap) (rs.set i x) ∧ Below B W (W.setCell ⟨g, i, none⟩ (rowV x)) ∧ KeepM W (W.setCell ⟨g, i, none⟩ (rowV x)) := by
  obtain ⟨g', cap', cs, e, h1, h2, h3, h4⟩ := h.rows (by omega)
  simp only [Value.slice.injEq, Option.some.injEq, Addr.mk.injEq, and_true, true_and] at e
  obtain ⟨rfl, rfl⟩ := e
  have hk : KeepM W (W.setCell ⟨g, i, none⟩ (rowV x)) := (KeepM.refl W).set h2 (.inr rfl) i _
  have hmg : m ≠ g := by
    rintro rfl
    have := h.1
    rw [h2] at this
    cases this
  have hl : (rs.set i x).length = rs.length := by simp
  refine ⟨⟨?_, h.2.1, .inr ⟨g, cap, cs.setIfInBounds i (rowV x), by rw [hl], h1, heap_setCell_same W g i cs 26 _ h2, by rw [hl]; exact h3, fun j hj => ?_⟩, fun y hy => ?_⟩, (Below.refl B W).setCell (p := ⟨g, i, none⟩) h1 _, hk⟩
  · rw [heap_setCell_other W ⟨g, i, none⟩ m _ hmg]; exact h.1
  · rw [hl] at hj
    have hcs : i < cs.size := by
      have := h4 i hi
      exact (Array.getElem?_eq_some_iff.1 this).1
    unfold at_
    rw [List.getD_eq_getElem?_getD, List.getElem?_set, Array.getElem?_setIfInBounds]
    by_cases e : i = j
    · subst e; simp [hi, hcs]
    · rw [if_neg e, if_neg e, h4 j hj]; unfold at_; rw [List.getD_eq_getElem?_getD]
  · rcases List.mem_or_eq_of_mem_set hy with hy | rfl
    · exact ⟨(h.2.2.2 y hy).1, (h.2.2.2 y hy).2.keep hk⟩
    · exact ⟨hx.1, hx.2.keep hk⟩
theorem PileAt.swap {B : Nat} {W : World} {m g cap : Nat} {rs : List RR} (h : PileAt B W m (.slice (some ⟨g, 0, none⟩) rs.length cap) rs) (i j : Nat) (hi : i < rs.length) (hj : j < rs.length) :
    PileAt B ((W.setCell ⟨g, i, none⟩ (rowV (at_ rs j))).setCell ⟨g, j, none⟩ (rowV (at_ rs i))) m (.slice (some ⟨g, 0, none⟩) rs.length cap) (swapR rs i j) ∧ Below B W ((W.setCell ⟨g, i, none⟩ (rowV (at_ rs j))).setCell ⟨g, j, none⟩ (rowV (at_ rs i))) ∧ KeepM W ((W.setCell ⟨g, i, none⟩ (rowV (at_ rs j))).setCell ⟨g, j, none⟩ (rowV (at_ rs i))) := by
  obtain ⟨a1, a2, a3⟩ := h.set i (at_ rs j) (h.2.2.2 _ (at_mem hj)) hi
  have hl : (rs.set i (at_ rs j)).length = rs.length := by simp
  rw [← hl] at a1
  have hx := h.2.2.2 _ (at_mem hi)
  obtain ⟨b1, b2, b3⟩ := a1.set j (at_ rs i) ⟨hx.1, hx.2.keep a3⟩ (by rw [hl]; exact hj)
  rw [hl] at b1
  exact ⟨b1, a2.trans b2, a3.trans b3⟩
end Go.Proofs.Ytacjbgmnoiimbaa
