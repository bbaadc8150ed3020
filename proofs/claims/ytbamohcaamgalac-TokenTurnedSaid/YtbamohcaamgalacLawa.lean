/- TokenMakes, TokenReads, TokenChooses: walked. -/
import Derived.Test.YtbamohcaamgalacWalkL
namespace Go.Proofs.Ytbamohcaamgalac
set_option linter.unusedVariables false
set_option linter.unusedSimpArgs false
open Go.RowKit

set_option maxRecDepth 100000 in
set_option maxHeartbeats 2000000 in
theorem lawMakes (id rev : Nat) (w : World) (hid : id < 4294967296) (hrev : rev < 18446744073709551616) :
    Calls Try.prog 3 #[.int .u32 id, .int .u64 rev] w fun e w' => e = .returned (.bool true) ∧ Below w.heap.size w w' := by
  have HM := Lib.hid (fun w => make_any id rev w hid hrev)
  have HR := Lib.hid (fun w => read_of_made id rev w hid hrev)
  have HF := Lib.hid (fun w => refmake_any id rev w hid hrev)
  generalize (ByteArray.mk (text (made id rev)).toArray) = s at *
  clear hid hrev
  go_enter Try.func3, Try.ntmps3
  go_wp2_with fail
  refine (fixed_any _).mono ?_
  rintro e w0 ⟨rfl, hb0⟩
  go_wp2_with fail
  refine (HM.out _).mono ?_
  rintro e w1 ⟨rfl, hb1⟩
  have hB1 := hb0.trans (hb1.mono hb0.size)
  go_wp2_with fail
  refine (HR.out _).mono ?_
  rintro e w2 ⟨rfl, hb2⟩
  have hB2 := hB1.trans (hb2.mono hB1.size)
  go_wp2_with fail
  refine (HF.out _).mono ?_
  rintro e w3 ⟨rfl, hb3⟩
  have hB3 := hB2.trans (hb3.mono hB2.size)
  go_wp2_with fail
  go_ret
  exact ⟨rfl, hB3⟩
set_option maxRecDepth 100000 in
set_option maxHeartbeats 2000000 in
theorem lawReads (s : ByteArray) (id : Nat) (how : Int) (floor head : Nat) (w : World) (hs : s.size ≤ 9223372036854775807) :
    Calls Try.prog 4 #[.string s, .int .u32 id, .int .i64 how, .int .u64 floor, .int .u64 head] w fun e w' => e = .returned (.bool true) ∧ Below w.heap.size w w' := by
  have HR := Lib.hid (fun w => read_any s w hs)
  have HF := Lib.hid (fun w => refread_any s w hs)
  have HC := Lib.hid (fun w => choose_any id s how floor head w hs)
  have HD := Lib.hid (fun w => refchoose_any id s how floor head w hs)
  by_cases hlt : 200 < s.size
  · go_enter Try.func4, Try.ntmps4
    go_wp2_with fail
    refine (fixed_any _).mono ?_
    rintro e w0 ⟨rfl, hb0⟩
    go_wp2_with fail
    go_ret
    exact ⟨rfl, hb0⟩
  · go_enter Try.func4, Try.ntmps4
    go_wp2_with fail
    refine (fixed_any _).mono ?_
    rintro e w0 ⟨rfl, hb0⟩
    go_wp2_with fail
    refine (HR.out _).mono ?_
    rintro e w1 ⟨rfl, hb1⟩
    have hB1 := hb0.trans (hb1.mono hb0.size)
    go_wp2_with fail
    refine (HF.out _).mono ?_
    rintro e w2 ⟨rfl, hb2⟩
    have hB2 := hB1.trans (hb2.mono hB1.size)
    go_wp2_with fail
    refine (HC.out _).mono ?_
    rintro e w3 ⟨rfl, hb3⟩
    have hB3 := hB2.trans (hb3.mono hB2.size)
    go_wp2_with fail
    refine (HD.out _).mono ?_
    rintro e w4 ⟨rfl, hb4⟩
    have hB4 := hB3.trans (hb4.mono hB3.size)
    generalize (choice id (readE s.data.toList) (rid s.data.toList) (rrev s.data.toList) how floor head).1 = A at *
    generalize (choice id (readE s.data.toList) (rid s.data.toList) (rrev s.data.toList) how floor head).2 = B at *
    generalize readE s.data.toList = E at *
    generalize rid s.data.toList = I at *
    generalize rrev s.data.toList = R at *
    go_wp2_with fail
    go_ret
    exact ⟨rfl, hB4⟩
end Go.Proofs.Ytbamohcaamgalac
