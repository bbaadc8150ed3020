/- A pile of rows in memory; Len, Less, Swap: walked. -/
import Derived.Test.YtacjbgmnoiimbaaWalkC
import Derived.BigRegion
namespace Go.Proofs.Ytacjbgmnoiimbaa
set_option linter.unusedVariables false
set_option linter.unusedSimpArgs false
open Go.RowKit

structure RR where
  a : Option Addr
  kc : Nat
  keys : List ByteArray
instance : Inhabited RR := ⟨⟨none, 0, []⟩⟩
def rowV (x : RR) : Value := .slice x.a x.keys.length x.kc
theorem heap_cell {w : World} {g : Nat} {cs : Array Value} {t : TypeId} (h : w.heap[g]? = some (.cells cs t (0, 0))) (i : Nat) : w.cell? ⟨g, i, none⟩ = cs[i]? := cell_of_row w g i cs t _ h
theorem heap_lt {w : World} {g : Nat} {o : Obj} (h : w.heap[g]? = some o) : g < w.heap.size := (Array.getElem?_eq_some_iff.1 h).1
theorem cell_heap {W W' : World} {b : Nat} (h : W'.heap[b]? = W.heap[b]?) (o : Nat) : W'.cell? ⟨b, o, none⟩ = W.cell? ⟨b, o, none⟩ := by
  simp only [World.cell?, h]
def KeysAt (W : World) (a : Option Addr) (keys : List ByteArray) : Prop := 0 < keys.length → ∃ b off cs, a = some ⟨b, off, none⟩ ∧ W.heap[b]? = some (.cells cs 9 (0, 0)) ∧ ∀ k, k < keys.length → cs[off + k]? = some (.string (keys.getD k ByteArray.empty))
theorem KeysAt.strs {W : World} {a : Option Addr} {keys : List ByteArray} (h : KeysAt W a keys) : IsStrs W a keys := fun h0 => by
  obtain ⟨b, off, cs, ha, hb, hc⟩ := h h0
  exact ⟨b, off, ha, heap_lt hb, fun k hk => (heap_cell hb _).trans (hc k hk)⟩
theorem KeysAt.same {W W' : World} {a : Option Addr} {keys : List ByteArray} (h : KeysAt W a keys) (hs : ∀ (k : Nat) (cs : Array Value), W.heap[k]? = some (.cells cs 9 (0, 0)) → W'.heap[k]? = W.heap[k]?) : KeysAt W' a keys := fun h0 => by
  obtain ⟨b, off, cs, ha, hb, hc⟩ := h h0
  exact ⟨b, off, cs, ha, (hs b cs hb).trans hb, hc⟩
theorem len_any (v : Option Addr) (n c : Nat) (w : World) : Calls Try.prog 40 #[.slice v n c] w fun e w' => e = .returned (.int .i64 (n : Int)) ∧ w' = w := by
  go_enter Try.func40, Try.ntmps40
  go_wp2_with fail
  go_ret
  first | trivial | exact ⟨rfl, rfl⟩
theorem row_set {W : World} {k : Nat} {cs : Array Value} {t : TypeId} (h : W.heap[k]? = some (.cells cs t (0, 0))) (b o : Nat) (x : Value) : ∃ cs' : Array Value, (W.setCell ⟨b, o, none⟩ x).heap[k]? = some (.cells cs' t (0, 0)) ∧ cs'.size = cs.size := by
  by_cases e : k = b
  · subst e
    exact ⟨_, heap_setCell_same W k o cs t x h, by simp⟩
  · exact ⟨cs, (heap_setCell_other W ⟨b, o, none⟩ k x e).trans h, rfl⟩
set_option maxRecDepth 100000 in
theorem less_any (g n c i j bi oi li ci bj oj lj cj : Nat) (x y : ByteArray) (w : World) (hi : i < n) (hj : j < n) (h1 : w.cell? ⟨g, i, none⟩ = some (.slice (some ⟨bi, oi, none⟩) li ci)) (h2 : w.cell? ⟨g, j, none⟩ = some (.slice (some ⟨bj, oj, none⟩) lj cj)) (hli : 0 < li) (hlj : 0 < lj)
    (h3 : w.cell? ⟨bi, oi, none⟩ = some (.string x)) (h4 : w.cell? ⟨bj, oj, none⟩ = some (.string y)) :
    Calls Try.prog 41 #[.slice (some ⟨g, 0, none⟩) n c, .int .i64 i, .int .i64 j] w fun e w' => e = .returned (.bool (decide (x.data.toList < y.data.toList))) ∧ ∃ k, w' = w.drewN k := by
  obtain ⟨r, hr⟩ : ∃ r, r = decide (x.data.toList < y.data.toList) := ⟨_, rfl⟩
  have hlw : Op.bytesLess x.toList y.toList = r := (less_walk x y).trans hr.symm
  rw [← hr]
  clear hr
  have e1 : (i : Int) < (n : Int) := by omega
  have e2 : (j : Int) < (n : Int) := by omega
  have e3 : (0 : Int) < (li : Int) := by omega
  have e4 : (0 : Int) < (lj : Int) := by omega
  go_enter Try.func41, Try.ntmps41
  go_wp2_with (first | go_quiet (fail))
  go_ret
  exact ⟨rfl, _, rfl⟩
def swapR (rs : List RR) (i j : Nat) : List RR := (rs.set i (rs.getD j default)).set j (rs.getD i default)
set_option maxRecDepth 100000 in
theorem swap_any (g n c i j : Nat) (x y : Value) (a1 a2 : Option Addr) (l1 c1 l2 c2 : Nat) (w : World) (cs : Array Value) (hi : i < n) (hj : j < n) (hg : w.heap[g]? = some (.cells cs 26 (0, 0))) (h1 : cs[i]? = some (.slice a1 l1 c1)) (h2 : cs[j]? = some (.slice a2 l2 c2)) :
    Calls Try.prog 42 #[.slice (some ⟨g, 0, none⟩) n c, .int .i64 i, .int .i64 j] w fun e w' => e = .returned (.tuple #[]) ∧ ∃ k, w' = ((w.setCell ⟨g, i, none⟩ (.slice a2 l2 c2)).setCell ⟨g, j, none⟩ (.slice a1 l1 c1)).drewN k := by
  have e1 : (i : Int) < (n : Int) := by omega
  have e2 : (j : Int) < (n : Int) := by omega
  have p1 := (heap_cell hg i).trans h1
  have p2 := (heap_cell hg j).trans h2
  have f1 := frozen_of_row w g i _ _ hg
  have f2 := frozen_of_row w g j _ _ hg
  have q1 : ∃ z, (w.setCell ⟨g, i, none⟩ (.slice a2 l2 c2)).cell? ⟨g, j, none⟩ = some z := by
    obtain ⟨cs', hc, hz⟩ := row_set hg g i (.slice a2 l2 c2)
    have hjl : j < cs'.size := by rw [hz]; exact (Array.getElem?_eq_some_iff.1 h2).1
    exact ⟨cs'[j], by rw [heap_cell hc]; exact Array.getElem?_eq_getElem hjl⟩
  obtain ⟨z, q1⟩ := q1
  obtain ⟨cs', hc', hz'⟩ := row_set hg g i (.slice a2 l2 c2)
  have f3 := frozen_of_row (w.setCell ⟨g, i, none⟩ (.slice a2 l2 c2)) g j _ _ hc'
  clear h1 h2 hc' hz'
  go_enter Try.func42, Try.ntmps42
  go_wp2_with fail
  go_region
  go_end0
  exact ⟨rfl, _, rfl⟩
end Go.Proofs.Ytacjbgmnoiimbaa
