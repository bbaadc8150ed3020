/- heap.down: walked. -/
import Derived.Test.YtacjbgmnoiimbaaHeap
namespace Go.Proofs.Ytacjbgmnoiimbaa
set_option linter.unusedVariables false
set_option linter.unusedSimpArgs false
open Go.RowKit

theorem meth_of {i : TypeInfo} (name : String) (f : Nat) (pr : Bool) (hi : Try.prog.info? 46 = some i) (hm : (i.methods.find? (·.name == name)).map (fun m => (m.path, m.func)) = some (#[], some (f, pr))) :
    ∃ m, i.methods.find? (·.name == name) = some m ∧ m.path = #[] ∧ m.func = some (f, pr) := by
  cases h : i.methods.find? (·.name == name) with
  | none => rw [h] at hm; cases hm
  | some m =>
    rw [h] at hm
    simp only [Option.map_some, Option.some.injEq, Prod.mk.injEq] at hm
    exact ⟨m, rfl, hm.1, hm.2⟩
theorem Try.methLen : (Try.prog.info? 46).map (fun i => (i.methods.find? (·.name == "Len")).map (fun m => (m.path, m.func))) = some (some (#[], some (40, false))) := by kernel_rfl
theorem Try.methLess : (Try.prog.info? 46).map (fun i => (i.methods.find? (·.name == "Less")).map (fun m => (m.path, m.func))) = some (some (#[], some (41, false))) := by kernel_rfl
theorem Try.methSwap : (Try.prog.info? 46).map (fun i => (i.methods.find? (·.name == "Swap")).map (fun m => (m.path, m.func))) = some (some (#[], some (42, false))) := by kernel_rfl
theorem Try.methPop : (Try.prog.info? 46).map (fun i => (i.methods.find? (·.name == "Pop")).map (fun m => (m.path, m.func))) = some (some (#[], some (43, true))) := by kernel_rfl
theorem wrap_ptr (t : Array TypeId) (u : TypeId) (a : Addr) (s s2 : ByteArray) (w : World) : (Builtin.ssaWrapNilChk_ t u #[.pointer (some a), .string s, .string s2]).run Try.prog w = .ok (.pointer (some a)) w := rfl
theorem meth_val (fuel : Nat) (name : String) (f : Nat) (h : (Try.prog.info? 46).map (fun i => (i.methods.find? (·.name == name)).map (fun m => (m.path, m.func))) = some (some (#[], some (f, false)))) (m : Nat) (v : Value) (w : World) (hv : w.cell? ⟨m, 0, none⟩ = some v) :
    (method (fuel + 1) 46 (.pointer (some ⟨m, 0, none⟩)) name).run Try.prog w = .ok (f, v) w := by
  obtain ⟨i, hi, hm⟩ : ∃ i, Try.prog.info? 46 = some i ∧ (i.methods.find? (·.name == name)).map (fun m => (m.path, m.func)) = some (#[], some (f, false)) := by
    cases h1 : Try.prog.info? 46 with
    | none => rw [h1] at h; cases h
    | some i => rw [h1] at h; exact ⟨i, rfl, by simpa using h⟩
  obtain ⟨r, h1, h2, h3⟩ := meth_of name f false hi hm
  rw [method]
  simp [typeInfo, hi, h1, h2, h3, follow, receiverAt, run_underlying Try.underlying46, Place.get, wrap_ptr, strVal, hv, go_sem]
theorem meth_ptr (fuel : Nat) (m : Nat) (w : World) : (method (fuel + 1) 46 (.pointer (some ⟨m, 0, none⟩)) "Pop").run Try.prog w = .ok (43, .pointer (some ⟨m, 0, none⟩)) w := by
  have h := Try.methPop
  obtain ⟨i, hi, hm⟩ : ∃ i, Try.prog.info? 46 = some i ∧ (i.methods.find? (·.name == "Pop")).map (fun m => (m.path, m.func)) = some (#[], some (43, true)) := by
    cases h1 : Try.prog.info? 46 with
    | none => rw [h1] at h; cases h
    | some i => rw [h1] at h; exact ⟨i, rfl, by simpa using h⟩
  obtain ⟨r, h1, h2, h3⟩ := meth_of "Pop" 43 true hi hm
  rw [method]
  simp [typeInfo, hi, h1, h2, h3, follow, receiverAt, run_underlying Try.underlying46, Place.get, go_sem]
def DownIs (B m : Nat) (v : Value) (rs : List RR) (n i0 : Nat) (w : World) (e : Ending) (w' : World) : Prop :=
  ∃ b rs', e = .returned (.bool b) ∧ PileAt B w' m v rs' ∧ SameR n rs rs' ∧ HeapFrom rs' n i0 ∧ Below B w w' ∧ KeepM w w'
def DRel (B m : Nat) (v : Value) (rs : List RR) (n i0 : Nat) (w : World) (i : Nat) (wr : World) : Prop :=
  ∃ rs', PileAt B wr m v rs' ∧ SameR n rs rs' ∧ DownInv rs' n i0 i ∧ Below B w wr ∧ KeepM w wr
/-- what a comparison of two rows reads -/
theorem PileAt.two {B : Nat} {W : World} {m g cap : Nat} {rs : List RR} (h : PileAt B W m (.slice (some ⟨g, 0, none⟩) rs.length cap) rs) (i : Nat) (hi : i < rs.length) (h0 : 0 < (at_ rs i).keys.length) :
    ∃ b o l c x, W.cell? ⟨g, i, none⟩ = some (.slice (some ⟨b, o, none⟩) l c) ∧ 0 < l ∧ W.cell? ⟨b, o, none⟩ = some (.string x) ∧ x.data.toList = hd (at_ rs i) := by
  obtain ⟨g', cap', cs, e, h1, h2, h3, h4⟩ := h.rows (by omega)
  simp only [Value.slice.injEq, Option.some.injEq, Addr.mk.injEq, and_true, true_and] at e
  obtain ⟨rfl, rfl⟩ := e
  obtain ⟨b, o, cb, ha, hb, hc⟩ := (h.2.2.2 _ (at_mem hi)).2 h0
  have := h4 i hi
  unfold rowV at this
  rw [ha] at this
  exact ⟨b, o, _, _, _, (heap_cell h2 i).trans this, h0, (heap_cell hb o).trans (by have := hc 0 h0; rwa [Nat.add_zero] at this), rfl⟩
theorem less_at {B : Nat} {W : World} {m g cap : Nat} {rs : List RR} (h : PileAt B W m (.slice (some ⟨g, 0, none⟩) rs.length cap) rs) (i j : Nat) (hi : i < rs.length) (hj : j < rs.length) (h0 : 0 < (at_ rs i).keys.length) (h1 : 0 < (at_ rs j).keys.length) :
    Calls Try.prog 41 #[.slice (some ⟨g, 0, none⟩) rs.length cap, .int .i64 i, .int .i64 j] W fun e w' => e = .returned (.bool (decide (hd (at_ rs i) < hd (at_ rs j)))) ∧ ∃ k, w' = W.drewN k := by
  obtain ⟨b, o, l, c, x, c1, c2, c3, c4⟩ := h.two i hi h0
  obtain ⟨b', o', l', c', x', d1, d2, d3, d4⟩ := h.two j hj h1
  rw [← c4, ← d4]
  exact less_any g rs.length cap i j b o l c b' o' l' c' x x' W hi hj c1 d1 c2 d2 c3 d3
theorem swap_pile {B : Nat} {W : World} {m g cap : Nat} {rs : List RR} (h : PileAt B W m (.slice (some ⟨g, 0, none⟩) rs.length cap) rs) (i j : Nat) (hi : i < rs.length) (hj : j < rs.length) :
    Calls Try.prog 42 #[.slice (some ⟨g, 0, none⟩) rs.length cap, .int .i64 i, .int .i64 j] W fun e w' => e = .returned (.tuple #[]) ∧ PileAt B w' m (.slice (some ⟨g, 0, none⟩) rs.length cap) (swapR rs i j) ∧ Below B W w' ∧ KeepM W w' := by
  obtain ⟨g', cap', cs, e, h1, h2, h3, h4⟩ := h.rows (by omega)
  simp only [Value.slice.injEq, Option.some.injEq, Addr.mk.injEq, and_true, true_and] at e
  obtain ⟨rfl, rfl⟩ := e
  obtain ⟨a1, a2, a3⟩ := h.swap i j hi hj
  refine (swap_any g rs.length cap i j default default _ _ _ _ _ _ W cs hi hj h2 (h4 i hi) (h4 j hj)).mono fun e w' he => ?_
  obtain ⟨rfl, k, rfl⟩ := he
  exact ⟨rfl, a1.drewN k, Below.drewN a2 k, a3.drewN k⟩
end Go.Proofs.Ytacjbgmnoiimbaa
