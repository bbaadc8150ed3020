/- Whole numbers, yes or no read: walked. -/
import Derived.Test.YtacjbgmnoiimbabGreatRdA
namespace Go.Proofs.YtacjbgmnoiimbabGreat
set_option linter.unusedVariables false
set_option linter.unusedSimpArgs false
open Go.RowKit

theorem xor_i64_ones (x : Nat) (hx : x < 9223372036854775808) : bits .xor .i64 (x : Int) (-1) = -(x : Int) - 1 := by
  show IntKind.i64.wrap ((BitVec.ofInt 64 (x : Int) ^^^ BitVec.ofInt 64 (-1)).toNat : Int) = _
  have h1 : (BitVec.ofInt 64 (-1)).toNat = 18446744073709551615 := by decide
  have h2 : (BitVec.ofInt 64 (x : Int)).toNat = x := by
    rw [BitVec.ofInt_natCast, BitVec.toNat_ofNat]; exact Nat.mod_eq_of_lt (by omega)
  rw [BitVec.toNat_xor, h1, h2, xor_ones x (by omega), IntKind.wrap_i64]
  omega
theorem xor_i64_zero (x : Nat) (hx : x < 9223372036854775808) : bits .xor .i64 (x : Int) 0 = (x : Int) := by
  show IntKind.i64.wrap ((BitVec.ofInt 64 (x : Int) ^^^ BitVec.ofInt 64 0).toNat : Int) = _
  have h1 : (BitVec.ofInt 64 0).toNat = 0 := by decide
  have h2 : (BitVec.ofInt 64 (x : Int)).toNat = x := by
    rw [BitVec.ofInt_natCast, BitVec.toNat_ofNat]; exact Nat.mod_eq_of_lt (by omega)
  rw [BitVec.toNat_xor, h1, h2, Nat.xor_zero, IntKind.wrap_i64]
  omega
theorem and_one64 (v : Nat) (h : v < 18446744073709551616) : bits BinOp.and IntKind.u64 (v : Int) 1 = ((v % 2 : Nat) : Int) := by
  have h := u64_and_nat v 1 h (by decide)
  rw [Nat.and_one_is_mod] at h
  exact h
theorem zag_bits (v : Nat) (h : v < 18446744073709551616) : bits BinOp.xor IntKind.i64 (wrap64 ((v : Int) / 2)) (wrap64 (-wrap64 (bits BinOp.and IntKind.u64 (v : Int) 1))) = zag v := by
  rw [and_one64 v h]
  have e1 : wrap64 ((v : Int) / 2) = ((v / 2 : Nat) : Int) := by unfold wrap64; omega
  rw [e1]
  rcases Nat.mod_two_eq_zero_or_one v with hm | hm
  · rw [hm]
    have e2 : wrap64 (-wrap64 ((0 : Nat) : Int)) = 0 := by unfold wrap64; omega
    rw [e2, xor_i64_zero _ (by omega)]
    unfold zag
    rw [if_pos hm]
  · rw [hm]
    have e2 : wrap64 (-wrap64 ((1 : Nat) : Int)) = -1 := by unfold wrap64; omega
    rw [e2, xor_i64_ones _ (by omega)]
    unfold zag
    rw [if_neg (by omega)]
set_option maxRecDepth 100000 in
theorem rwh_any (g bb : Nat) (W : World) (l : List UInt8) (d : Nat) (odd : Bool) (hl : l.length ≤ 1000000000) (h : RAt W g bb l d odd) :
    Calls Tryz.prog 98 #[.pointer (some ⟨g, 0, none⟩)] W (RDi g bb intV l d odd W) := by
  have HC := Lib.hid (rnum_any g bb W l d odd hl h)
  clear h
  go_enter Tryz.func98, Tryz.ntmps98
  go_wp2_with fail
  refine HC.out.mono ?_
  clear HC
  rintro e W1 ⟨v, l1, o1, rfl, hg, hr, hv, st⟩
  have HE : Hid (RDi g bb intV l d odd W (.returned (intV (zag v))) W1) := ⟨zag v, l1, o1, rfl, hg, hr, (zag_ok v).2 hv, rst_int st⟩
  have HZ := Lib.hid (zag_bits v hv)
  clear hg hr st hv
  simp only [numV]
  go_wp2_with fail
  go_ret
  have := HE.out
  unfold intV at this
  rw [← HZ.out] at this
  exact this
theorem rint_any (g bb : Nat) (W : World) (l : List UInt8) (d : Nat) (odd : Bool) (hl : l.length ≤ 1000000000) (h : RAt W g bb l d odd) :
    Calls Tryz.prog 36 #[.pointer (some ⟨g, 0, none⟩)] W (RDi g bb intV l d odd W) := by
  have HC := Lib.hid (rwh_any g bb W l d odd hl h)
  clear h
  go_enter Tryz.func36, Tryz.ntmps36
  go_wp2_with fail
  refine HC.out.mono ?_
  clear HC
  rintro e W1 ⟨v, l1, o1, rfl, hg, hr, hv, st⟩
  have HE : Hid (RDi g bb intV l d odd W (.returned (intV v)) W1) := ⟨v, l1, o1, rfl, hg, hr, hv, st⟩
  clear hg hr st hv
  simp only [intV]
  go_wp2_with fail
  go_ret
  exact HE.out
theorem rat_set {W : World} {g bb : Nat} {l : List UInt8} {d : Nat} {odd : Bool} (h : RAt W g bb l d odd) (o2 : Bool) : RAt (W.setCell ⟨g, 2, none⟩ (.bool o2)) g bb l d o2 := by
  obtain ⟨a, c, h1, h2, h3, h4, h5, h6⟩ := h
  exact ⟨a, c, rat_odd h1 o2, h2, isbytes_cell h3 h4 h5, h4, h5, Nat.lt_of_lt_of_le h6 (grown_cell W g 2 _).size⟩
set_option maxRecDepth 100000 in
theorem rtru_any (g bb : Nat) (W : World) (l : List UInt8) (d : Nat) (odd : Bool) (hl : l.length ≤ 1000000000) (h : RAt W g bb l d odd) :
    Calls Tryz.prog 39 #[.pointer (some ⟨g, 0, none⟩)] W (RDf g bb boolE (fun _ => True) boolV l d odd W) := by
  have HC := Lib.hid (rnum_any g bb W l d odd hl h)
  clear h
  go_enter Tryz.func39, Tryz.ntmps39
  go_wp2_with fail
  refine HC.out.mono ?_
  clear HC
  rintro e W1 ⟨v, l1, o1, rfl, hg, hr, hv, st⟩
  obtain ⟨a, c, hh, _⟩ := id hr
  have c2 := heap_cell hh 2
  simp at c2
  have f2 := frozen_of_row W1 g 2 _ _ hh
  have hb : ((v : Int) == 1) = (v == 1) := by
    by_cases h : v = 1
    · subst h; rfl
    · rw [beq_eq_false_iff_ne.2 h, beq_eq_false_iff_ne]; omega
  have hdv : decide (1 < (v : Int)) = decide (1 < v) := by
    by_cases h : 1 < v
    · rw [decide_eq_true h]; exact decide_eq_true (by omega)
    · rw [decide_eq_false h]; exact decide_eq_false (by omega)
  have HE : Hid (RDf g bb boolE (fun _ => True) boolV l d odd W (.returned (boolV ((v : Int) == 1))) (W1.setCell ⟨g, 2, none⟩ (.bool (o1 || decide (1 < (v : Int)))))) := by
    rw [hb, hdv]
    exact ⟨v == 1, l1, _, rfl, grownBy_trans hg (grown_cell W1 g 2 _), rat_set hr _, trivial, rst_bool st⟩
  clear hg hr st hv hh hb hdv
  simp only [numV]
  cases o1 with
  | true =>
    go_wp2_with fail
    go_ret
    exact HE.out
  | false =>
    have e1 : (false || decide (1 < (v : Int))) = decide (1 < (v : Int)) := Bool.false_or _
    rw [e1] at HE
    clear e1
    generalize hq : decide (1 < (v : Int)) = q at *
    generalize hq2 : ((v : Int) == 1) = q2 at *
    go_wp2_with fail
    go_ret
    exact HE.out
end Go.Proofs.YtacjbgmnoiimbabGreat
