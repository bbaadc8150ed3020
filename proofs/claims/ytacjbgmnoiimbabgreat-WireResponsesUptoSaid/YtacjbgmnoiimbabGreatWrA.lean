/- Whole numbers, yes or no written: walked. -/
import Derived.Test.YtacjbgmnoiimbabGreatSt
namespace Go.Proofs.YtacjbgmnoiimbabGreat
set_option linter.unusedVariables false
set_option linter.unusedSimpArgs false
open Go.RowKit

theorem xor_ones (a : Nat) (h : a < 18446744073709551616) : a ^^^ 18446744073709551615 = 18446744073709551615 - a := by
  apply Nat.eq_of_testBit_eq
  intro i
  have e1 : (18446744073709551615 : Nat) = 2 ^ 64 - 1 := by decide
  have e2 : 18446744073709551615 - a = 2 ^ 64 - (a + 1) := by omega
  rw [e2, Nat.testBit_two_pow_sub_succ (by omega), Nat.testBit_xor, e1, Nat.testBit_two_pow_sub_one]
  by_cases hi : i < 64
  · simp [hi]
  · have : a.testBit i = false := Nat.testBit_lt_two_pow (Nat.lt_of_lt_of_le (show a < 2 ^ 64 by omega) (Nat.pow_le_pow_right (by decide) (by omega)))
    simp [hi, this]
theorem zig_bits {n : Int} (h : iok n) : bits BinOp.xor IntKind.u64 (IntKind.u64.wrap (IntKind.u64.wrap n * 2)) (IntKind.u64.wrap (n / 9223372036854775808)) = ((zig n : Nat) : Int) := by
  unfold iok at h
  by_cases h0 : n < 0
  · have e1 : n / 9223372036854775808 = -1 := by omega
    have e2 : IntKind.u64.wrap n = ((n + 18446744073709551616).toNat : Int) := by rw [IntKind.wrap_u64]; omega
    have e3 : IntKind.u64.wrap (((n + 18446744073709551616).toNat : Int) * 2) = ((2 * n + 18446744073709551616).toNat : Int) := by rw [IntKind.wrap_u64]; omega
    have e4 : IntKind.u64.wrap (-1) = ((18446744073709551615 : Nat) : Int) := by rw [IntKind.wrap_u64]; decide
    rw [e1, e2, e3, e4, bits_xor_u64_nat _ _ (by omega) (by omega), xor_ones _ (by omega)]
    unfold zig
    rw [if_pos h0]
    omega
  · have e1 : n / 9223372036854775808 = 0 := by omega
    have e2 : IntKind.u64.wrap n = (n.toNat : Int) := by rw [IntKind.wrap_u64]; omega
    have e3 : IntKind.u64.wrap ((n.toNat : Int) * 2) = ((2 * n.toNat : Nat) : Int) := by rw [IntKind.wrap_u64]; omega
    have e4 : IntKind.u64.wrap 0 = ((0 : Nat) : Int) := by rw [IntKind.wrap_u64]; decide
    rw [e1, e2, e3, e4, bits_xor_u64_nat _ _ (by omega) (by omega), Nat.xor_zero]
    unfold zig
    rw [if_neg h0]
set_option maxRecDepth 100000 in
theorem wwhole_any (g : Nat) (n : Int) (l : List UInt8) (d : Nat) (odd : Bool) (W : World) (h : SAt 78 W g l d odd) (hn : iok n) (hl : l.length + (intE n).length ≤ 1000000000) :
    Calls Tryz.prog 85 #[.pointer (some ⟨g, 0, none⟩), .int .i64 n] W (WD g l d odd (intE n) (fun _ => False) W) := by
  have HN := Lib.hid (wnum_any g (zig n) l d odd W h (zig_lt hn) hl)
  clear h
  have HZ := Lib.hid (zig_bits hn)
  go_enter Tryz.func85, Tryz.ntmps85
  go_wp2_with fail
  rw [HZ.out]
  refine HN.out.mono ?_
  clear HN
  rintro e W1 ⟨rfl, h2⟩
  have HE := Lib.hid h2
  clear h2
  go_wp2_with fail
  go_end0
  exact ⟨rfl, HE.out⟩
theorem wint_any (g : Nat) (n : Int) (l : List UInt8) (d : Nat) (odd : Bool) (W : World) (h : SAt 78 W g l d odd) (hn : iok n) (hl : l.length + (intE n).length ≤ 1000000000) :
    Calls Tryz.prog 18 #[.pointer (some ⟨g, 0, none⟩), .int .i64 n] W (WD g l d odd (intE n) (fun _ => False) W) := by
  have HN := Lib.hid (wwhole_any g n l d odd W h hn hl)
  clear h
  go_enter Tryz.func18, Tryz.ntmps18
  go_wp2_with fail
  refine HN.out.mono ?_
  clear HN
  rintro e W1 ⟨rfl, h2⟩
  have HE := Lib.hid h2
  clear h2
  go_wp2_with fail
  go_end0
  exact ⟨rfl, HE.out⟩
theorem wtruth_any (g : Nat) (b : Bool) (l : List UInt8) (d : Nat) (odd : Bool) (W : World) (h : SAt 78 W g l d odd) (hl : l.length + (boolE b).length ≤ 1000000000) :
    Calls Tryz.prog 21 #[.pointer (some ⟨g, 0, none⟩), .bool b] W (WD g l d odd (boolE b) (fun _ => False) W) := by
  have HN := Lib.hid (wnum_any g (if b then 1 else 0) l d odd W h (by split <;> omega) hl)
  clear h
  cases b with
  | true =>
    go_enter Tryz.func21, Tryz.ntmps21
    go_wp2_with fail
    refine HN.out.mono ?_
    clear HN
    rintro e W1 ⟨rfl, h2⟩
    have HE := Lib.hid h2
    clear h2
    go_wp2_with fail
    go_end0
    exact ⟨rfl, HE.out⟩
  | false =>
    go_enter Tryz.func21, Tryz.ntmps21
    go_wp2_with fail
    refine HN.out.mono ?_
    clear HN
    rintro e W1 ⟨rfl, h2⟩
    have HE := Lib.hid h2
    clear h2
    go_wp2_with fail
    go_end0
    exact ⟨rfl, HE.out⟩
end Go.Proofs.YtacjbgmnoiimbabGreat
