/- What stands within its like, written: walked. -/
import Derived.Test.YtacjbgmnoiimbabGreatLsA
import Derived.Test.YtacjbgmnoiimbabGreatCod
namespace Go.Proofs.YtacjbgmnoiimbabGreat
set_option linter.unusedVariables false
set_option linter.unusedSimpArgs false
open Go.RowKit

theorem st_deep {t : TypeId} {W : World} {g : Nat} {l : List UInt8} {d : Nat} {odd : Bool} (h : SAt t W g l d odd) (d' : Nat) : SAt t (W.setCell ⟨g, 1, none⟩ (.int .i64 (d' : Int))) g l d' odd := by
  obtain ⟨a, c, h1, h2, h3, h4⟩ := h
  exact ⟨a, c, heap_setCell_same W g 1 _ t _ h1, h2, bytes_grown h3 h4 (grown_cell _ _ _ _), h4⟩
theorem st_odd {t : TypeId} {W : World} {g : Nat} {l : List UInt8} {d : Nat} {odd : Bool} (h : SAt t W g l d odd) (o' : Bool) : SAt t (W.setCell ⟨g, 2, none⟩ (.bool o')) g l d o' := by
  obtain ⟨a, c, h1, h2, h3, h4⟩ := h
  exact ⟨a, c, heap_setCell_same W g 2 _ t _ h1, h2, bytes_grown h3 h4 (grown_cell _ _ _ _), h4⟩
theorem st_cells {t : TypeId} {W : World} {g : Nat} {l : List UInt8} {d : Nat} {odd : Bool} (h : SAt t W g l d odd) : W.cell? ⟨g, 1, none⟩ = some (.int .i64 (d : Int)) ∧ W.frozen? ⟨g, 1, none⟩ = false ∧ W.cell? ⟨g, 2, none⟩ = some (.bool odd) ∧ W.frozen? ⟨g, 2, none⟩ = false := by
  obtain ⟨a, c, h1, _⟩ := h
  have p1 := heap_cell h1 1
  have p2 := heap_cell h1 2
  simp at p1 p2
  exact ⟨p1, frozen_of_row W g 1 _ _ h1, p2, frozen_of_row W g 2 _ _ h1⟩
set_option maxRecDepth 100000 in
theorem wnestedR_any (g x2 x3 : Nat) (en : List UInt8) (badp : Nat → Prop) (l : List UInt8) (d : Nat) (odd : Bool) (W : World) (h : SAt 78 W g l d odd) (hd : d ≤ 2000000000) (hen : 1 ≤ en.length) (hel : en.length ≤ 1000000000)
    (hcall : ∀ W1, W.grownBy W1 (some g) → SAt 78 W1 g l (d + 1) odd → Calls Tryz.prog 110 #[.pointer (some ⟨x2, 0, none⟩), .pointer (some ⟨x3, 0, none⟩)] W1 (WD g l (d + 1) odd en badp W1)) :
    Calls Tryz.prog 92 #[.pointer (some ⟨g, 0, none⟩), .func (.func 110) #[] #[.pointer (some ⟨x2, 0, none⟩), .pointer (some ⟨x3, 0, none⟩)]] W (WD g l d odd en (fun d => 64 ≤ d ∨ badp (d + 1)) W) := by
  obtain ⟨p1, f1, _, _⟩ := st_cells h
  have hw : IntKind.i64.wrap ((d : Int) + 1) = (d : Int) + 1 := by rw [IntKind.wrap_i64]; omega
  have hS1 := st_deep h (d + 1)
  have e1 : (((d + 1 : Nat)) : Int) = (d : Int) + 1 := by omega
  rw [e1] at hS1
  have hG1 := grown_cell W g 1 (.int .i64 ((d : Int) + 1))
  obtain ⟨q1, g1, q2, g2⟩ := st_cells hS1
  rw [e1] at q1
  by_cases h64 : 64 ≤ d
  · have d64 : decide ((64 : Int) < (d : Int) + 1) = true := decide_eq_true (by omega)
    have hS2 := st_odd hS1 true
    have HE : Hid (WD g l d odd en (fun d => 64 ≤ d ∨ badp (d + 1)) W (.returned (.tuple #[])) ((W.setCell ⟨g, 1, none⟩ (.int .i64 ((d : Int) + 1))).setCell ⟨g, 2, none⟩ (.bool true))) := ⟨rfl, grownBy_trans hG1 (grown_cell _ _ _ _), l, d + 1, true, hS2, by omega, by omega, fun _ => rfl, fun _ hn => absurd (.inl h64) hn, fun _ _ => rfl⟩
    clear h hS1 hS2 hG1 hcall
    go_enter Tryz.func92, Tryz.ntmps92
    go_wp2_with fail
    go_end0
    exact HE.out
  · have d64 : decide ((64 : Int) < (d : Int) + 1) = false := decide_eq_false (by omega)
    have HCall := Lib.hid (hcall _ hG1 hS1)
    have HG1 := Lib.hid hG1
    clear h hS1 hG1 hcall
    go_enter Tryz.func92, Tryz.ntmps92
    go_wp2_with fail
    refine HCall.out.mono ?_
    clear HCall
    rintro e W2 ⟨rfl, hg2, l2, d2, o2, hs2, st2⟩
    obtain ⟨r1, k1, _, _⟩ := st_cells hs2
    have hd2 := st2.2.1
    obtain ⟨d3, hd3⟩ : ∃ d3, d2 = d3 + 1 := ⟨d2 - 1, by omega⟩
    have hw2 : IntKind.i64.wrap ((d2 : Int) - 1) = (d3 : Int) := by rw [IntKind.wrap_i64]; omega
    have hw3 : (d2 : Int) - 1 = (d3 : Int) := by omega
    have hS3 := st_deep hs2 d3
    have HE : Hid (WD g l d odd en (fun d => 64 ≤ d ∨ badp (d + 1)) W (.returned (.tuple #[])) (W2.setCell ⟨g, 1, none⟩ (.int .i64 (d3 : Int)))) := by
      obtain ⟨t1, t2, t3, t4, t5⟩ := st2
      refine ⟨rfl, grownBy_trans HG1.out (grownBy_trans hg2 (grown_cell _ _ _ _)), l2, d3, o2, hS3, t1, by omega, t3, fun ho hn => ?_, fun ho hb => t5 ho (hb.resolve_left h64)⟩
      obtain ⟨u1, u2, u3⟩ := t4 ho (fun hb => hn (.inr hb))
      exact ⟨u1, by omega, u3⟩
    clear hg2 hs2 st2 hS3 hd3
    go_wp2_with fail
    go_end0
    exact HE.out
set_option maxRecDepth 100000 in
theorem wnestedN_any (g x2 x3 : Nat) (en : List UInt8) (badp : Nat → Prop) (l : List UInt8) (d : Nat) (odd : Bool) (W : World) (h : SAt 78 W g l d odd) (hd : d ≤ 2000000000) (hen : 1 ≤ en.length) (hel : en.length ≤ 1000000000)
    (hcall : ∀ W1, W.grownBy W1 (some g) → SAt 78 W1 g l (d + 1) odd → Calls Tryz.prog 93 #[.pointer (some ⟨x2, 0, none⟩), .pointer (some ⟨x3, 0, none⟩)] W1 (WD g l (d + 1) odd en badp W1)) :
    Calls Tryz.prog 92 #[.pointer (some ⟨g, 0, none⟩), .func (.func 93) #[] #[.pointer (some ⟨x2, 0, none⟩), .pointer (some ⟨x3, 0, none⟩)]] W (WD g l d odd en (fun d => 64 ≤ d ∨ badp (d + 1)) W) := by
  obtain ⟨p1, f1, _, _⟩ := st_cells h
  have hw : IntKind.i64.wrap ((d : Int) + 1) = (d : Int) + 1 := by rw [IntKind.wrap_i64]; omega
  have hS1 := st_deep h (d + 1)
  have e1 : (((d + 1 : Nat)) : Int) = (d : Int) + 1 := by omega
  rw [e1] at hS1
  have hG1 := grown_cell W g 1 (.int .i64 ((d : Int) + 1))
  obtain ⟨q1, g1, q2, g2⟩ := st_cells hS1
  rw [e1] at q1
  by_cases h64 : 64 ≤ d
  · have d64 : decide ((64 : Int) < (d : Int) + 1) = true := decide_eq_true (by omega)
    have hS2 := st_odd hS1 true
    have HE : Hid (WD g l d odd en (fun d => 64 ≤ d ∨ badp (d + 1)) W (.returned (.tuple #[])) ((W.setCell ⟨g, 1, none⟩ (.int .i64 ((d : Int) + 1))).setCell ⟨g, 2, none⟩ (.bool true))) := ⟨rfl, grownBy_trans hG1 (grown_cell _ _ _ _), l, d + 1, true, hS2, by omega, by omega, fun _ => rfl, fun _ hn => absurd (.inl h64) hn, fun _ _ => rfl⟩
    clear h hS1 hS2 hG1 hcall
    go_enter Tryz.func92, Tryz.ntmps92
    go_wp2_with fail
    go_end0
    exact HE.out
  · have d64 : decide ((64 : Int) < (d : Int) + 1) = false := decide_eq_false (by omega)
    have HCall := Lib.hid (hcall _ hG1 hS1)
    have HG1 := Lib.hid hG1
    clear h hS1 hG1 hcall
    go_enter Tryz.func92, Tryz.ntmps92
    go_wp2_with fail
    refine HCall.out.mono ?_
    clear HCall
    rintro e W2 ⟨rfl, hg2, l2, d2, o2, hs2, st2⟩
    obtain ⟨r1, k1, _, _⟩ := st_cells hs2
    have hd2 := st2.2.1
    obtain ⟨d3, hd3⟩ : ∃ d3, d2 = d3 + 1 := ⟨d2 - 1, by omega⟩
    have hw2 : IntKind.i64.wrap ((d2 : Int) - 1) = (d3 : Int) := by rw [IntKind.wrap_i64]; omega
    have hw3 : (d2 : Int) - 1 = (d3 : Int) := by omega
    have hS3 := st_deep hs2 d3
    have HE : Hid (WD g l d odd en (fun d => 64 ≤ d ∨ badp (d + 1)) W (.returned (.tuple #[])) (W2.setCell ⟨g, 1, none⟩ (.int .i64 (d3 : Int)))) := by
      obtain ⟨t1, t2, t3, t4, t5⟩ := st2
      refine ⟨rfl, grownBy_trans HG1.out (grownBy_trans hg2 (grown_cell _ _ _ _)), l2, d3, o2, hS3, t1, by omega, t3, fun ho hn => ?_, fun ho hb => t5 ho (hb.resolve_left h64)⟩
      obtain ⟨u1, u2, u3⟩ := t4 ho (fun hb => hn (.inr hb))
      exact ⟨u1, by omega, u3⟩
    clear hg2 hs2 st2 hS3 hd3
    go_wp2_with fail
    go_end0
    exact HE.out
end Go.Proofs.YtacjbgmnoiimbabGreat
