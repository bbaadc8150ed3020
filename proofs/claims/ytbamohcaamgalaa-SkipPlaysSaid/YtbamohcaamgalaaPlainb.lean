/- A node laid in, in memory: plain laws. -/
import Derived.Test.YtbamohcaamgalaaWalkF
namespace Go.Proofs.Ytbamohcaamgalaa
set_option linter.unusedVariables false
set_option linter.unusedSimpArgs false
open Go.RowKit

theorem row_set {W : World} {k : Nat} {cs : Array Value} {t : TypeId} (h : W.heap[k]? = some (.cells cs t (0, 0))) (b o : Nat) (x : Value) : ∃ cs' : Array Value, (W.setCell ⟨b, o, none⟩ x).heap[k]? = some (.cells cs' t (0, 0)) ∧ cs'.size = cs.size := by
  by_cases e : k = b
  · subst e
    exact ⟨_, heap_setCell_same W k o cs t x h, by simp⟩
  · exact ⟨cs, (heap_setCell_other W ⟨b, o, none⟩ k x e).trans h, rfl⟩
theorem cell_set_other (W : World) (b o b' o' : Nat) (x : Value) (h : ¬ (b = b' ∧ o = o')) : (W.setCell ⟨b, o, none⟩ x).cell? ⟨b', o', none⟩ = W.cell? ⟨b', o', none⟩ := World.cell?_setCell_other _ _ _ _ (by
  intro e
  simp only [Addr.mk.injEq, and_true] at e
  exact h e)
theorem row_cell_some {W : World} {k : Nat} {cs : Array Value} {t : TypeId} (h : W.heap[k]? = some (.cells cs t (0, 0))) (o : Nat) (ho : o < cs.size) : ∃ x, W.cell? ⟨k, o, none⟩ = some x := ⟨cs[o], (heap_cell h o).trans (Array.getElem?_eq_getElem ho)⟩
/-- the list with a node that grows -/
structure TwI (W : World) (g : Nat) (ns : List Nd) (m nb : Nat) (key : ByteArray) (h : Nat) : Prop where
  head : ∃ cs : Array Value, W.heap[g]? = some (.cells cs 47 (0, 0)) ∧ cs.size = 12
  draws : ∃ a n cap, W.cell? ⟨g, 9, none⟩ = some (.slice a n cap) ∧ n ≤ cap ∧ n ≤ 9223372036854775807 ∧ DrawsAt W a n
  count : W.cell? ⟨g, 10, none⟩ = some (.int .i64 (ns.length : Int))
  size : W.cell? ⟨g, 11, none⟩ = some (.int .i64 (sizeN ns : Int))
  node : ∀ i, i < ns.length → (∃ cs : Array Value, W.heap[(ns.getD i default).b]? = some (.cells cs 45 (0, 0)) ∧ cs.size = 9) ∧ W.cell? ⟨(ns.getD i default).b, 0, none⟩ = some (.string (ns.getD i default).key) ∧ 0 < (ns.getD i default).ht ∧ (ns.getD i default).ht ≤ 8
  new : (∃ cs : Array Value, W.heap[nb]? = some (.cells cs 45 (0, 0)) ∧ cs.size = 9) ∧ W.cell? ⟨nb, 0, none⟩ = some (.string key)
  linked : Linked W g (ins ns m ⟨nb, key, h⟩)
theorem TwI.posHeap {W : World} {g m nb h : Nat} {ns : List Nd} {key : ByteArray} (H : TwI W g ns m nb key h) (i : Nat) (hi : i ≤ ns.length) : ∃ (cs : Array Value) (t : TypeId), W.heap[posB g ns i]? = some (.cells cs t (0, 0)) ∧ 9 ≤ cs.size ∧ t ≠ 5 := by
  unfold posB
  by_cases h0 : i = 0
  · rw [if_pos h0]; obtain ⟨cs, h1, h2⟩ := H.head; exact ⟨cs, 47, h1, by omega, by decide⟩
  · rw [if_neg h0]; obtain ⟨⟨cs, h1, h2⟩, _⟩ := H.node (i - 1) (by omega); exact ⟨cs, 45, h1, by omega, by decide⟩
/-- the two stores of a round -/
theorem TwI.step {W : World} {g m nb h pb : Nat} {ns : List Nd} {key : ByteArray} {v : Value} (H : TwI W g ns m nb key h) (hm : m ≤ ns.length) (h8 : h < 8) (hA : Apart g ns) (hg : nb ≠ g) (hnb : ∀ i, i < ns.length → (ns.getD i default).b ≠ nb)
    (hp : IsLast g ns m h pb) (hv : NextIs W ns m h v) : TwI ((W.setCell ⟨nb, 1 + h, none⟩ v).setCell ⟨pb, 1 + h, none⟩ (.pointer (some ⟨nb, 0, none⟩))) g ns m nb key (h + 1) := by
  have hpi : ∃ i, i ≤ ns.length ∧ pb = posB g ns i := by obtain ⟨i, h1, h2, _⟩ := hp; exact ⟨i, by omega, h2⟩
  have hpn : pb ≠ nb := by
    obtain ⟨i, h1, rfl⟩ := hpi
    unfold posB
    by_cases h0 : i = 0
    · rw [if_pos h0]; exact fun e => hg e.symm
    · rw [if_neg h0]; exact hnb _ (by omega)
  have rows : ∀ (k : Nat) (cs : Array Value) (t : TypeId), W.heap[k]? = some (.cells cs t (0, 0)) → ∃ cs' : Array Value, ((W.setCell ⟨nb, 1 + h, none⟩ v).setCell ⟨pb, 1 + h, none⟩ (.pointer (some ⟨nb, 0, none⟩))).heap[k]? = some (.cells cs' t (0, 0)) ∧ cs'.size = cs.size := fun k cs t hk => by
    obtain ⟨c1, h1, h2⟩ := row_set hk nb (1 + h) v
    obtain ⟨c2, h3, h4⟩ := row_set h1 pb (1 + h) (.pointer (some ⟨nb, 0, none⟩))
    exact ⟨c2, h3, h4.trans h2⟩
  have c3 : ∀ b o, ¬ (o = 1 + h ∧ (b = nb ∨ b = pb)) → ((W.setCell ⟨nb, 1 + h, none⟩ v).setCell ⟨pb, 1 + h, none⟩ (.pointer (some ⟨nb, 0, none⟩))).cell? ⟨b, o, none⟩ = W.cell? ⟨b, o, none⟩ := fun b o hne => by
    rw [cell_set_other _ _ _ _ _ _ (fun e => hne ⟨e.2.symm, .inr e.1.symm⟩), cell_set_other _ _ _ _ _ _ (fun e => hne ⟨e.2.symm, .inl e.1.symm⟩)]
  have hs : ∀ (k : Nat) (cs : Array Value), W.heap[k]? = some (.cells cs 5 (0, 0)) → ((W.setCell ⟨nb, 1 + h, none⟩ v).setCell ⟨pb, 1 + h, none⟩ (.pointer (some ⟨nb, 0, none⟩))).heap[k]? = W.heap[k]? := fun k cs hk => by
    obtain ⟨i, h1, rfl⟩ := hpi
    obtain ⟨c1, t, h2, _, h4⟩ := H.posHeap i h1
    obtain ⟨⟨c2, h5, _⟩, _⟩ := H.new
    rw [heap_setCell_other _ ⟨posB g ns i, 1 + h, none⟩ _ _ (by
      rintro rfl
      rw [h2] at hk
      simp only [Option.some.injEq, Obj.cells.injEq] at hk
      exact h4 hk.2.1), heap_setCell_other _ ⟨nb, 1 + h, none⟩ _ _ (by
      rintro rfl
      rw [h5] at hk
      simp at hk)]
  refine ⟨?_, ?_, (c3 g 10 (by omega)).trans H.count, (c3 g 11 (by omega)).trans H.size, fun i hi => ?_, ?_, ?_⟩
  · obtain ⟨cs, h1, h2⟩ := H.head
    obtain ⟨c', h3, h4⟩ := rows g cs 47 h1
    exact ⟨c', h3, h4.trans h2⟩
  · obtain ⟨a, n, cp, h1, h2, h3, h4⟩ := H.draws
    exact ⟨a, n, cp, (c3 g 9 (by omega)).trans h1, h2, h3, h4.same hs⟩
  · obtain ⟨⟨cs, h1, h2⟩, h3, h4⟩ := H.node i hi
    obtain ⟨c', h5, h6⟩ := rows _ cs 45 h1
    exact ⟨⟨c', h5, h6.trans h2⟩, (c3 _ 0 (by omega)).trans h3, h4⟩
  · obtain ⟨⟨cs, h1, h2⟩, h3⟩ := H.new
    obtain ⟨c', h5, h6⟩ := rows _ cs 45 h1
    exact ⟨⟨c', h5, h6.trans h2⟩, (c3 _ 0 (by omega)).trans h3⟩
  · obtain ⟨⟨ncs, hn1, hn2⟩, _⟩ := H.new
    obtain ⟨x, hx⟩ := row_cell_some hn1 (1 + h) (by omega)
    obtain ⟨i, hi1, hi2⟩ := hpi
    obtain ⟨pcs, pt, hp1, hp2, _⟩ := H.posHeap i hi1
    rw [← hi2] at hp1
    obtain ⟨y, hy⟩ := row_cell_some hp1 (1 + h) (by omega)
    refine link_step hm h8 hA hg hnb hp H.linked hv ?_ ?_ c3
    · rw [cell_set_other _ _ _ _ _ _ (fun e => hpn e.1)]
      exact World.cell?_setCell_same _ _ _ hx
    · exact World.cell?_setCell_same _ _ _ ((cell_set_other W nb (1 + h) pb (1 + h) v (fun e => hpn e.1.symm)).trans hy)
theorem TwI.drew {W : World} {g m nb h : Nat} {ns : List Nd} {key : ByteArray} (H : TwI W g ns m nb key h) : TwI W.drew g ns m nb key h := ⟨H.head, H.draws, H.count, H.size, H.node, H.new, H.linked⟩
theorem sizeN_ins (ns : List Nd) (m : Nat) (x : Nd) : sizeN (ins ns m x) = sizeN ns + x.key.size := by
  unfold sizeN ins
  have e : ((ns.take m).map (·.key.size)).sum + ((ns.drop m).map (·.key.size)).sum = (ns.map (·.key.size)).sum := by
    rw [← List.sum_append, ← List.map_append, List.take_append_drop]
  rw [List.map_append, List.map_cons, List.sum_append, List.sum_cons, ← e]; omega
theorem keysN_ins (ns : List Nd) (m : Nat) (x : Nd) : keysN (ins ns m x) = putAt (keysN ns) x.key m := by
  unfold keysN ins putAt
  simp [List.map_take, List.map_drop]
/-- count and size are raised -/
theorem TwI.finish {W : World} {g m nb H : Nat} {ns : List Nd} {key : ByteArray} (T : TwI W g ns m nb key H) (hm : m ≤ ns.length) (h0 : 0 < H) (h8 : H ≤ 8) (hA : Apart g ns) (hg : nb ≠ g) (hnb : ∀ i, i < ns.length → (ns.getD i default).b ≠ nb) (hR : Rises (keysOf (keysN ns)))
    (hf : First (keysOf (keysN ns)) (Ahead false key.data.toList) m) (hne : ¬ (m < ns.length ∧ (keysN ns).getD m ByteArray.empty = key)) :
    Tw ((W.setCell ⟨g, 10, none⟩ (.int .i64 ((ns.length + 1 : Nat) : Int))).setCell ⟨g, 11, none⟩ (.int .i64 ((sizeN ns + key.size : Nat) : Int))) g (ins ns m ⟨nb, key, H⟩) := by
  have rows : ∀ (k : Nat) (cs : Array Value) (t : TypeId), W.heap[k]? = some (.cells cs t (0, 0)) → ∃ cs' : Array Value, ((W.setCell ⟨g, 10, none⟩ (.int .i64 ((ns.length + 1 : Nat) : Int))).setCell ⟨g, 11, none⟩ (.int .i64 ((sizeN ns + key.size : Nat) : Int))).heap[k]? = some (.cells cs' t (0, 0)) ∧ cs'.size = cs.size := fun k cs t hk => by
    obtain ⟨c1, h1, h2⟩ := row_set hk g 10 (.int .i64 ((ns.length + 1 : Nat) : Int))
    obtain ⟨c2, h3, h4⟩ := row_set h1 g 11 (.int .i64 ((sizeN ns + key.size : Nat) : Int))
    exact ⟨c2, h3, h4.trans h2⟩
  have c3 : ∀ b o, o < 10 → ((W.setCell ⟨g, 10, none⟩ (.int .i64 ((ns.length + 1 : Nat) : Int))).setCell ⟨g, 11, none⟩ (.int .i64 ((sizeN ns + key.size : Nat) : Int))).cell? ⟨b, o, none⟩ = W.cell? ⟨b, o, none⟩ := fun b o hlt => by
    rw [cell_set_other _ _ _ _ _ _ (fun e => by omega), cell_set_other _ _ _ _ _ _ (fun e => by omega)]
  obtain ⟨hcs, hh1, hh2⟩ := T.head
  have hs : ∀ (k : Nat) (cs : Array Value), W.heap[k]? = some (.cells cs 5 (0, 0)) → ((W.setCell ⟨g, 10, none⟩ (.int .i64 ((ns.length + 1 : Nat) : Int))).setCell ⟨g, 11, none⟩ (.int .i64 ((sizeN ns + key.size : Nat) : Int))).heap[k]? = W.heap[k]? := fun k cs hk => by
    have hkg : k ≠ g := by
      rintro rfl
      rw [hh1] at hk
      simp at hk
    rw [heap_setCell_other _ ⟨g, 11, none⟩ _ _ hkg, heap_setCell_other _ ⟨g, 10, none⟩ _ _ hkg]
  have hlen := ins_len ns m ⟨nb, key, H⟩ hm
  refine ⟨?_, ?_, ?_, ?_, fun i hi => ?_, ?_, ⟨fun i hi => ?_, fun i j hi hj e => ?_⟩, ?_⟩
  · obtain ⟨c', h3, h4⟩ := rows g hcs 47 hh1
    exact ⟨c', h3, h4.trans hh2⟩
  · obtain ⟨a, n, cp, h1, h2, h3, h4⟩ := T.draws
    exact ⟨a, n, cp, (c3 g 9 (by omega)).trans h1, h2, h3, h4.same hs⟩
  · rw [hlen, cell_set_other _ _ _ _ _ _ (fun e => by omega)]
    exact World.cell?_setCell_same _ _ _ T.count
  · rw [sizeN_ins]
    exact World.cell?_setCell_same _ _ _ ((cell_set_other _ _ _ _ _ _ (fun e => by omega)).trans T.size)
  · rw [ins_at ns m _ hm]
    by_cases a : i < m
    · rw [if_pos a]
      obtain ⟨⟨cs, h1, h2⟩, h3, h4⟩ := T.node i (by omega)
      obtain ⟨c', h5, h6⟩ := rows _ cs 45 h1
      exact ⟨⟨c', h5, h6.trans h2⟩, (c3 _ 0 (by omega)).trans h3, h4⟩
    · rw [if_neg a]
      by_cases b : i = m
      · rw [if_pos b]
        obtain ⟨⟨cs, h1, h2⟩, h3⟩ := T.new
        obtain ⟨c', h5, h6⟩ := rows _ cs 45 h1
        exact ⟨⟨c', h5, h6.trans h2⟩, (c3 _ 0 (by omega)).trans h3, h0, h8⟩
      · rw [if_neg b]
        obtain ⟨⟨cs, h1, h2⟩, h3, h4⟩ := T.node (i - 1) (by omega)
        obtain ⟨c', h5, h6⟩ := rows _ cs 45 h1
        exact ⟨⟨c', h5, h6.trans h2⟩, (c3 _ 0 (by omega)).trans h3, h4⟩
  · intro i h hi hh hti
    rw [c3 _ (1 + h) (by omega)]
    exact T.linked i h hi hh hti
  · rw [ins_at ns m _ hm]
    by_cases a : i < m
    · rw [if_pos a]; exact hA.1 i (by omega)
    · rw [if_neg a]
      by_cases b : i = m
      · rw [if_pos b]; exact hg
      · rw [if_neg b]; exact hA.1 (i - 1) (by omega)
  · rw [ins_at ns m _ hm, ins_at ns m _ hm] at e
    have key1 : ∀ i, i < ns.length + 1 → i ≠ m → (if i < m then ns.getD i default else if i = m then (⟨nb, key, H⟩ : Nd) else ns.getD (i - 1) default) = ns.getD (if i < m then i else i - 1) default ∧ (if i < m then i else i - 1) < ns.length := fun i hi hne => by
      by_cases a : i < m
      · rw [if_pos a, if_pos a]; exact ⟨rfl, by omega⟩
      · rw [if_neg a, if_neg hne, if_neg a]; exact ⟨rfl, by omega⟩
    by_cases a : i = m
    · by_cases b : j = m
      · omega
      · obtain ⟨h1, h2⟩ := key1 j (by omega) b
        rw [h1, if_neg (by omega), if_pos a] at e
        exact absurd e.symm (hnb _ h2)
    · obtain ⟨h1, h2⟩ := key1 i (by omega) a
      by_cases b : j = m
      · rw [h1, if_neg (by omega : ¬ j < m), if_pos b] at e
        exact absurd e (hnb _ h2)
      · obtain ⟨h3, h4⟩ := key1 j (by omega) b
        rw [h1, h3] at e
        have := hA.2 _ _ h2 h4 e
        split at this <;> split at this <;> omega
  · rw [keysN_ins, keysOf_putAt]
    refine rises_laid hR ?_ (fun hlt he => ?_)
    · obtain ⟨f1, f2, f3⟩ := hf
      exact ⟨f1, fun j hj => by have := f2 j hj; unfold Ahead at this; simpa using this, fun hl => by have := f3 hl; unfold Ahead at this; simpa using this⟩
    · rw [length_keysN] at hlt
      apply hne
      refine ⟨hlt, ?_⟩
      rw [keysOf_at] at he
      exact bytes_ext he
end Go.Proofs.Ytbamohcaamgalaa
