/- What stands within its like, read: walked (printed by genWireRj.py). -/
import Derived.Test.YtacjbgmnoiimbabGreatRdF
namespace Go.Proofs.YtacjbgmnoiimbabGreat
set_option linter.unusedVariables false
set_option linter.unusedSimpArgs false
open Go.RowKit

/-- two blocks alone may have turned -/
structure Two (g y : Nat) (W W' : World) : Prop where
  os : W'.os = W.os
  tape : W'.tape = W.tape
  output : W'.output = W.output
  size : W.heap.size ≤ W'.heap.size
  block : ∀ k, k < W.heap.size → k ≠ g → k ≠ y → W'.heap[k]? = W.heap[k]?
theorem Two.ofg {g y : Nat} {W W' : World} (h : W.grownBy W' (some g)) : Two g y W W' := ⟨h.os, h.tape, h.output, h.size, fun k hk h1 _ => h.block k hk (fun e => h1 (by cases e; rfl))⟩
theorem Two.ofy {g y : Nat} {W W' : World} (h : W.grownBy W' (some y)) : Two g y W W' := ⟨h.os, h.tape, h.output, h.size, fun k hk _ h1 => h.block k hk (fun e => h1 (by cases e; rfl))⟩
theorem Two.trans {g y : Nat} {a b c : World} (h : Two g y a b) (k : Two g y b c) : Two g y a c :=
  ⟨k.os.trans h.os, k.tape.trans h.tape, k.output.trans h.output, Nat.le_trans h.size k.size, fun i hi h1 h2 => (k.block i (Nat.lt_of_lt_of_le hi h.size) h1 h2).trans (h.block i hi h1 h2)⟩
theorem Two.keep {g y : Nat} {W W' : World} (h : Two g y W W') {k : Nat} {o : Obj} (hk : W.heap[k]? = some o) (h1 : k ≠ g) (h2 : k ≠ y) : W'.heap[k]? = some o := (h.block k (heap_lt hk) h1 h2).trans hk
theorem rat_deep {W : World} {g bb : Nat} {l : List UInt8} {d : Nat} {odd : Bool} (h : RAt W g bb l d odd) (d' : Nat) : RAt (W.setCell ⟨g, 1, none⟩ (.int .i64 (d' : Int))) g bb l d' odd := by
  obtain ⟨a, c, h1, h2, h3, h4, h5, h6⟩ := h
  exact ⟨a, c, heap_setCell_same W g 1 _ 168 _ h1, h2, isbytes_cell h3 h4 h5, h4, h5, Nat.lt_of_lt_of_le h6 (grown_cell W g 1 _).size⟩
theorem rat_cells {W : World} {g bb : Nat} {l : List UInt8} {d : Nat} {odd : Bool} (h : RAt W g bb l d odd) : W.cell? ⟨g, 1, none⟩ = some (.int .i64 (d : Int)) ∧ W.frozen? ⟨g, 1, none⟩ = false ∧ W.cell? ⟨g, 2, none⟩ = some (.bool odd) ∧ W.frozen? ⟨g, 2, none⟩ = false := by
  obtain ⟨a, c, h1, _⟩ := h
  have p1 := heap_cell h1 1
  have p2 := heap_cell h1 2
  simp at p1 p2
  exact ⟨p1, frozen_of_row W g 1 _ _ h1, p2, frozen_of_row W g 2 _ _ h1⟩
/-- what reading a list within its like does: the list lies in the block at y -/
def NRR (g bb y : Nat) (kk : Int) (A B : ByteArray) (m : Nat) (bd : List PR → Nat → Prop) (l : List UInt8) (d : Nat) (odd : Bool) (W : World) (e : Ending) (W' : World) : Prop :=
  e = .returned (.tuple #[]) ∧ Two g y W W' ∧ ∃ (t : LS RE) (l' : List UInt8) (odd' : Bool), W'.heap[y]? = some (.cells #[.int .i64 kk, .string A, .string B, .slice t.a t.xs.length t.c] 71 (0, 0)) ∧ RAt W' g bb l' d odd' ∧ t.xs.length ≤ t.c ∧ RMem (fun b => W.heap.size ≤ b) m W' t.a (t.xs.map RE.plain) ∧
    RSt (listE encR) (lok okR) bd l d odd (t.xs.map RE.plain) l' odd'
set_option maxRecDepth 100000 in
set_option maxHeartbeats 1000000 in
theorem rnestedR_any (g bb p y : Nat) (kk : Int) (A B : ByteArray) (m : Nat) (l : List UInt8) (d : Nat) (odd : Bool) (W : World) (h : RAt W g bb l d odd) (hdm : d + m = 64) (hyg : y ≠ g) (hyb : y ≠ bb) (hy : W.heap[y]? = some (.cells #[.int .i64 kk, .string A, .string B, .slice none 0 0] 71 (0, 0)))
    (hcall : ∀ (W1 : World) (k : Nat), m = k + 1 → W.grownBy W1 (some g) → RAt W1 g bb l (d + 1) false → Calls Tryz.prog 113 #[.pointer (some ⟨p, 0, none⟩), .pointer (some ⟨y, 0, none⟩)] W1 (NRR g bb y kk A B m (fun ps d => ∃ x ∈ ps, badR x d) l (d + 1) false W1)) :
    Calls Tryz.prog 105 #[.pointer (some ⟨g, 0, none⟩), .func (.func 113) #[] #[.pointer (some ⟨p, 0, none⟩), .pointer (some ⟨y, 0, none⟩)]] W (NRR g bb y kk A B m (fun ps d => 64 ≤ d ∨ ∃ x ∈ ps, badR x (d + 1)) l d odd W) := by
  obtain ⟨p1, f1, p2, f2⟩ := rat_cells h
  have hgl := h.lt
  have hw : IntKind.i64.wrap ((d : Int) + 1) = (d : Int) + 1 := by rw [IntKind.wrap_i64]; omega
  have hw2 : IntKind.i64.wrap ((d : Int) + 1 - 1) = (d : Int) := by rw [IntKind.wrap_i64]; omega
  have hw3 : (d : Int) + 1 - 1 = (d : Int) := by omega
  have hS1 := rat_deep h (d + 1)
  have e1 : (((d + 1 : Nat)) : Int) = (d : Int) + 1 := by omega
  rw [e1] at hS1
  have hG1 := grown_cell W g 1 (.int .i64 ((d : Int) + 1))
  obtain ⟨q1, g1, q2, g2⟩ := rat_cells hS1
  rw [e1] at q1
  by_cases h64 : 64 ≤ d
  · have d64 : decide ((64 : Int) < (d : Int) + 1) = true := decide_eq_true (by omega)
    obtain rfl : m = 0 := by omega
    have hS2 := rat_set hS1 true
    have hG2 := grownBy_trans hG1 (grown_cell _ g 2 (.bool true))
    obtain ⟨r1, k1, r2, k2⟩ := rat_cells hS2
    rw [e1] at r1
    have hS3 := rat_deep hS2 d
    have hG3 := grownBy_trans hG2 (grown_cell _ g 1 (.int .i64 (d : Int)))
    have HE : Hid (NRR g bb y kk A B 0 (fun ps d => 64 ≤ d ∨ ∃ x ∈ ps, badR x (d + 1)) l d odd W (.returned (.tuple #[])) (((W.setCell ⟨g, 1, none⟩ (.int .i64 ((d : Int) + 1))).setCell ⟨g, 2, none⟩ (.bool true)).setCell ⟨g, 1, none⟩ (.int .i64 (d : Int)))) :=
      ⟨rfl, Two.ofg hG3, ⟨none, 0, []⟩, l, true, grown_block hG3 hy hyg, hS3, Nat.le_refl _, rfl, rst_refused [] h64⟩
    clear h hS1 hS2 hG1 hcall hy hG2 hG3 hS3
    go_enter Tryz.func105, Tryz.ntmps105
    go_wp2_with fail
    go_end0
    exact HE.out
  · have d64 : decide ((64 : Int) < (d : Int) + 1) = false := decide_eq_false (by omega)
    cases odd with
    | true =>
      have hS3 := rat_deep hS1 d
      have hG3 := grownBy_trans hG1 (grown_cell _ g 1 (.int .i64 (d : Int)))
      have hmm : RMem (fun b => W.heap.size ≤ b) m ((W.setCell ⟨g, 1, none⟩ (.int .i64 ((d : Int) + 1))).setCell ⟨g, 1, none⟩ (.int .i64 (d : Int))) none (([] : List RE).map RE.plain) := by
        cases m with
        | zero => exact rfl
        | succ k => exact ⟨[], rfl, (fun h => absurd h (Nat.lt_irrefl 0)), (fun h => absurd h (Nat.lt_irrefl 0)), (fun x hx => by cases hx)⟩
      have HE : Hid (NRR g bb y kk A B m (fun ps d => 64 ≤ d ∨ ∃ x ∈ ps, badR x (d + 1)) l d true W (.returned (.tuple #[])) ((W.setCell ⟨g, 1, none⟩ (.int .i64 ((d : Int) + 1))).setCell ⟨g, 1, none⟩ (.int .i64 (d : Int)))) :=
        ⟨rfl, Two.ofg hG3, ⟨none, 0, []⟩, l, true, grown_block hG3 hy hyg, hS3, Nat.le_refl _, hmm, rst_skip []⟩
      clear h hS1 hG1 hcall hy hG3 hS3 hmm
      go_enter Tryz.func105, Tryz.ntmps105
      go_wp2_with fail
      go_end0
      exact HE.out
    | false =>
      have HCall := Lib.hid (hcall _ (m - 1) (by omega) hG1 hS1)
      have HG1 := Lib.hid hG1
      clear h hS1 hG1 hcall hy
      go_enter Tryz.func105, Tryz.ntmps105
      go_wp2_with fail
      refine HCall.out.mono ?_
      clear HCall
      rintro e W2 ⟨rfl, h2, t, l2, o2, hy2, hr2, hc2, hm2, st2⟩
      obtain ⟨r1, k1, _, _⟩ := rat_cells hr2
      rw [e1] at r1
      have hS3 := rat_deep hr2 d
      have hG3 := grown_cell W2 g 1 (.int .i64 (d : Int))
      have HE : Hid (NRR g bb y kk A B m (fun ps d => 64 ≤ d ∨ ∃ x ∈ ps, badR x (d + 1)) l d false W (.returned (.tuple #[])) (W2.setCell ⟨g, 1, none⟩ (.int .i64 (d : Int)))) :=
        ⟨rfl, (Two.ofg HG1.out).trans (h2.trans (Two.ofg hG3)), t, l2, o2, grown_block hG3 hy2 hyg, hS3, hc2, (hm2.weak (fun b hb => Nat.le_trans HG1.out.size hb)).stays ⟨hG3.size, fun b hb hlt => hG3.block b hlt (fun e => by cases e; exact absurd hgl (Nat.not_lt.2 hb))⟩, rst_deep (by omega) st2⟩
      clear h2 hy2 hr2 hm2 st2 hS3 hG3
      go_wp2_with fail
      go_end0
      exact HE.out
/-- what reading a list within its like does: the list lies in the block at y -/
def NRN (g bb y : Nat) (kk : Int) (t0 i0 r0 : ByteArray) (sa : Option Addr) (sn sc : Nat) (m : Nat) (bd : List PN → Nat → Prop) (l : List UInt8) (d : Nat) (odd : Bool) (W : World) (e : Ending) (W' : World) : Prop :=
  e = .returned (.tuple #[]) ∧ Two g y W W' ∧ ∃ (t : LS NE) (l' : List UInt8) (odd' : Bool), W'.heap[y]? = some (.cells #[.int .i64 kk, .string t0, .string i0, .string r0, .slice sa sn sc, .slice t.a t.xs.length t.c] 34 (0, 0)) ∧ RAt W' g bb l' d odd' ∧ t.xs.length ≤ t.c ∧ NMem (fun b => W.heap.size ≤ b) m W' t.a (t.xs.map NE.plain) ∧
    RSt (listE encN) (lok okN) bd l d odd (t.xs.map NE.plain) l' odd'
set_option maxRecDepth 100000 in
set_option maxHeartbeats 1000000 in
theorem rnestedN_any (g bb p y : Nat) (kk : Int) (t0 i0 r0 : ByteArray) (sa : Option Addr) (sn sc : Nat) (m : Nat) (l : List UInt8) (d : Nat) (odd : Bool) (W : World) (h : RAt W g bb l d odd) (hdm : d + m = 64) (hyg : y ≠ g) (hyb : y ≠ bb) (hy : W.heap[y]? = some (.cells #[.int .i64 kk, .string t0, .string i0, .string r0, .slice sa sn sc, .slice none 0 0] 34 (0, 0)))
    (hcall : ∀ (W1 : World) (k : Nat), m = k + 1 → W.grownBy W1 (some g) → RAt W1 g bb l (d + 1) false → Calls Tryz.prog 106 #[.pointer (some ⟨p, 0, none⟩), .pointer (some ⟨y, 0, none⟩)] W1 (NRN g bb y kk t0 i0 r0 sa sn sc m (fun ps d => ∃ x ∈ ps, badN x d) l (d + 1) false W1)) :
    Calls Tryz.prog 105 #[.pointer (some ⟨g, 0, none⟩), .func (.func 106) #[] #[.pointer (some ⟨p, 0, none⟩), .pointer (some ⟨y, 0, none⟩)]] W (NRN g bb y kk t0 i0 r0 sa sn sc m (fun ps d => 64 ≤ d ∨ ∃ x ∈ ps, badN x (d + 1)) l d odd W) := by
  obtain ⟨p1, f1, p2, f2⟩ := rat_cells h
  have hgl := h.lt
  have hw : IntKind.i64.wrap ((d : Int) + 1) = (d : Int) + 1 := by rw [IntKind.wrap_i64]; omega
  have hw2 : IntKind.i64.wrap ((d : Int) + 1 - 1) = (d : Int) := by rw [IntKind.wrap_i64]; omega
  have hw3 : (d : Int) + 1 - 1 = (d : Int) := by omega
  have hS1 := rat_deep h (d + 1)
  have e1 : (((d + 1 : Nat)) : Int) = (d : Int) + 1 := by omega
  rw [e1] at hS1
  have hG1 := grown_cell W g 1 (.int .i64 ((d : Int) + 1))
  obtain ⟨q1, g1, q2, g2⟩ := rat_cells hS1
  rw [e1] at q1
  by_cases h64 : 64 ≤ d
  · have d64 : decide ((64 : Int) < (d : Int) + 1) = true := decide_eq_true (by omega)
    obtain rfl : m = 0 := by omega
    have hS2 := rat_set hS1 true
    have hG2 := grownBy_trans hG1 (grown_cell _ g 2 (.bool true))
    obtain ⟨r1, k1, r2, k2⟩ := rat_cells hS2
    rw [e1] at r1
    have hS3 := rat_deep hS2 d
    have hG3 := grownBy_trans hG2 (grown_cell _ g 1 (.int .i64 (d : Int)))
    have HE : Hid (NRN g bb y kk t0 i0 r0 sa sn sc 0 (fun ps d => 64 ≤ d ∨ ∃ x ∈ ps, badN x (d + 1)) l d odd W (.returned (.tuple #[])) (((W.setCell ⟨g, 1, none⟩ (.int .i64 ((d : Int) + 1))).setCell ⟨g, 2, none⟩ (.bool true)).setCell ⟨g, 1, none⟩ (.int .i64 (d : Int)))) :=
      ⟨rfl, Two.ofg hG3, ⟨none, 0, []⟩, l, true, grown_block hG3 hy hyg, hS3, Nat.le_refl _, rfl, rst_refused [] h64⟩
    clear h hS1 hS2 hG1 hcall hy hG2 hG3 hS3
    go_enter Tryz.func105, Tryz.ntmps105
    go_wp2_with fail
    go_end0
    exact HE.out
  · have d64 : decide ((64 : Int) < (d : Int) + 1) = false := decide_eq_false (by omega)
    cases odd with
    | true =>
      have hS3 := rat_deep hS1 d
      have hG3 := grownBy_trans hG1 (grown_cell _ g 1 (.int .i64 (d : Int)))
      have hmm : NMem (fun b => W.heap.size ≤ b) m ((W.setCell ⟨g, 1, none⟩ (.int .i64 ((d : Int) + 1))).setCell ⟨g, 1, none⟩ (.int .i64 (d : Int))) none (([] : List NE).map NE.plain) := by
        cases m with
        | zero => exact rfl
        | succ k => exact ⟨[], rfl, (fun h => absurd h (Nat.lt_irrefl 0)), (fun h => absurd h (Nat.lt_irrefl 0)), (fun x hx => by cases hx)⟩
      have HE : Hid (NRN g bb y kk t0 i0 r0 sa sn sc m (fun ps d => 64 ≤ d ∨ ∃ x ∈ ps, badN x (d + 1)) l d true W (.returned (.tuple #[])) ((W.setCell ⟨g, 1, none⟩ (.int .i64 ((d : Int) + 1))).setCell ⟨g, 1, none⟩ (.int .i64 (d : Int)))) :=
        ⟨rfl, Two.ofg hG3, ⟨none, 0, []⟩, l, true, grown_block hG3 hy hyg, hS3, Nat.le_refl _, hmm, rst_skip []⟩
      clear h hS1 hG1 hcall hy hG3 hS3 hmm
      go_enter Tryz.func105, Tryz.ntmps105
      go_wp2_with fail
      go_end0
      exact HE.out
    | false =>
      have HCall := Lib.hid (hcall _ (m - 1) (by omega) hG1 hS1)
      have HG1 := Lib.hid hG1
      clear h hS1 hG1 hcall hy
      go_enter Tryz.func105, Tryz.ntmps105
      go_wp2_with fail
      refine HCall.out.mono ?_
      clear HCall
      rintro e W2 ⟨rfl, h2, t, l2, o2, hy2, hr2, hc2, hm2, st2⟩
      obtain ⟨r1, k1, _, _⟩ := rat_cells hr2
      rw [e1] at r1
      have hS3 := rat_deep hr2 d
      have hG3 := grown_cell W2 g 1 (.int .i64 (d : Int))
      have HE : Hid (NRN g bb y kk t0 i0 r0 sa sn sc m (fun ps d => 64 ≤ d ∨ ∃ x ∈ ps, badN x (d + 1)) l d false W (.returned (.tuple #[])) (W2.setCell ⟨g, 1, none⟩ (.int .i64 (d : Int)))) :=
        ⟨rfl, (Two.ofg HG1.out).trans (h2.trans (Two.ofg hG3)), t, l2, o2, grown_block hG3 hy2 hyg, hS3, hc2, (hm2.weak (fun b hb => Nat.le_trans HG1.out.size hb)).stays ⟨hG3.size, fun b hb hlt => hG3.block b hlt (fun e => by cases e; exact absurd hgl (Nat.not_lt.2 hb))⟩, rst_deep (by omega) st2⟩
      clear h2 hy2 hr2 hm2 st2 hS3 hG3
      go_wp2_with fail
      go_end0
      exact HE.out
end Go.Proofs.YtacjbgmnoiimbabGreat
