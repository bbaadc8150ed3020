/- unlink, last: walked. -/
import Derived.Test.YtacjbgmnoiimbacPlain
namespace Go.Proofs.Ytacjbgmnoiimbac
set_option linter.unusedVariables false
set_option linter.unusedSimpArgs false
open Go.RowKit

theorem heap_cell {w : World} {g : Nat} {cs : Array Value} {t : TypeId} (h : w.heap[g]? = some (.cells cs t (0, 0))) (i : Nat) : w.cell? ⟨g, i, none⟩ = cs[i]? := cell_of_row w g i cs t _ h
theorem heap_lt {w : World} {g : Nat} {o : Obj} (h : w.heap[g]? = some o) : g < w.heap.size := (Array.getElem?_eq_some_iff.1 h).1
/-- a block of an item's cells -/
def ItemRow (W : World) (b : Nat) : Prop := ∃ cs : Array Value, W.heap[b]? = some (.cells cs 49 (0, 0)) ∧ cs.size = 6
set_option maxRecDepth 100000 in
set_option maxHeartbeats 2000000 in
theorem unlink_any (x p n : Nat) (w : World) (hx : ItemRow w x) (hp : ItemRow w p) (hn : ItemRow w n) (h4 : w.cell? ⟨x, 4, none⟩ = some (ptrV p)) (h5 : w.cell? ⟨x, 5, none⟩ = some (ptrV n)) :
    Calls Try.prog 23 #[.pointer (some ⟨x, 0, none⟩)] w fun e w' => e = .returned (.tuple #[]) ∧ ∃ k, w' = ((w.setCell ⟨p, 5, none⟩ (ptrV n)).setCell ⟨n, 4, none⟩ (ptrV p)).drewN k := by
  obtain ⟨pc, hp1, hp2⟩ := hp
  obtain ⟨nc, hn1, hn2⟩ := hn
  have fp := frozen_of_row w p 5 pc 49 hp1
  have fn := frozen_of_row w n 4 nc 49 hn1
  have cp : w.cell? ⟨p, 5, none⟩ = some (pc[5]'(by omega)) := (heap_cell hp1 5).trans (Array.getElem?_eq_getElem _)
  have cn : w.cell? ⟨n, 4, none⟩ = some (nc[4]'(by omega)) := (heap_cell hn1 4).trans (Array.getElem?_eq_getElem _)
  generalize pc[5]'(by omega) = pv at *
  generalize nc[4]'(by omega) = nv at *
  unfold ptrV at *
  clear hx hp1 hn1
  go_enter Try.func23, Try.ntmps23
  go_wp2_with fail
  go_region
  go_end0
  exact ⟨rfl, 1, rfl⟩
set_option maxRecDepth 100000 in
set_option maxHeartbeats 2000000 in
theorem last_any (g x p rb bm : Nat) (room used : Int) (w : World) (hg : w.heap[g]? = some (.cells #[.int .i64 room, .int .i64 used, .map (some bm), ptrV rb] 52 (0, 0))) (hx : ItemRow w x) (hp : ItemRow w p) (hr : ItemRow w rb) (h4 : w.cell? ⟨rb, 4, none⟩ = some (ptrV p)) (hpx : p ≠ x) (hrx : rb ≠ x) :
    Calls Try.prog 22 #[.pointer (some ⟨g, 0, none⟩), .pointer (some ⟨x, 0, none⟩)] w fun e w' => e = .returned (.tuple #[]) ∧ ∃ k, w' = ((((w.setCell ⟨x, 4, none⟩ (ptrV p)).setCell ⟨x, 5, none⟩ (ptrV rb)).setCell ⟨p, 5, none⟩ (ptrV x)).setCell ⟨rb, 4, none⟩ (ptrV x)).drewN k := by
  obtain ⟨pc, hp1, hp2⟩ := hp
  obtain ⟨xc, hx1, hx2⟩ := hx
  obtain ⟨rc, hr1, hr2⟩ := hr
  have hgx : g ≠ x := by
    rintro rfl
    rw [hg] at hx1; simp at hx1
  have fx4 := frozen_of_row w x 4 xc 49 hx1
  have fx5 := frozen_of_row w x 5 xc 49 hx1
  have fp := frozen_of_row w p 5 pc 49 hp1
  have fr := frozen_of_row w rb 4 rc 49 hr1
  have cx4 : w.cell? ⟨x, 4, none⟩ = some (xc[4]'(by omega)) := (heap_cell hx1 4).trans (Array.getElem?_eq_getElem _)
  have cx5 : w.cell? ⟨x, 5, none⟩ = some (xc[5]'(by omega)) := (heap_cell hx1 5).trans (Array.getElem?_eq_getElem _)
  have cp : w.cell? ⟨p, 5, none⟩ = some (pc[5]'(by omega)) := (heap_cell hp1 5).trans (Array.getElem?_eq_getElem _)
  generalize xc[4]'(by omega) = xv4 at *
  generalize xc[5]'(by omega) = xv5 at *
  generalize pc[5]'(by omega) = pv at *
  have g3 := heap_cell hg 3
  unfold ptrV at *
  simp at g3
  have hpx' : ¬ x = p := fun e => hpx e.symm
  have hrx' : ¬ x = rb := fun e => hrx e.symm
  clear hx1 hp1 hr1 hg
  go_enter Try.func22, Try.ntmps22
  go_wp2_with fail
  go_region
  go_wp2_with fail
  go_region
  go_end0
  exact ⟨rfl, 2, rfl⟩
end Go.Proofs.Ytacjbgmnoiimbac
