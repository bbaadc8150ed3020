/- TokenChooses, walked. -/
import Derived.Test.YtbamohcaamgalacLawb
namespace Go.Proofs.Ytbamohcaamgalac
set_option linter.unusedVariables false
set_option linter.unusedSimpArgs false
open Go.RowKit

theorem choose_made (id rev id' : Nat) (how : Int) (floor head a b : Nat) (hid : id < 4294967296) (hrev : rev < 18446744073709551616) (h : choice id' 0 id rev how floor head = (a, b)) (w : World) :
    Calls Try.prog 12 #[.int .u32 id', .string ⟨(text (made id rev)).toArray⟩, .int .i64 how, .int .u64 floor, .int .u64 head] w fun e w' => e = .returned (.tuple #[.int .u64 a, .int .i64 b]) ∧ Below w.heap.size w w' := by
  refine (choose_any id' _ how floor head w (by rw [size_text]; omega)).mono ?_
  rintro e w' ⟨rfl, hb⟩
  obtain ⟨h1, h2, h3⟩ := read_made id rev hid hrev
  rw [toList_text, h1, h2, h3, h]
  exact ⟨rfl, hb⟩
theorem choose_other_id (id rev : Nat) (z : Int) (floor head : Nat) (hid : id < 4294967296) (hrev : rev < 18446744073709551616) (hz : 0 ≤ z) (hne : z ≠ id) (w : World) :
    Calls Try.prog 12 #[.int .u32 z, .string ⟨(text (made id rev)).toArray⟩, .int .i64 3, .int .u64 floor, .int .u64 head] w fun e w' => e = .returned (.tuple #[.int .u64 0, .int .i64 1]) ∧ Below w.heap.size w w' := by
  obtain ⟨n, rfl⟩ : ∃ n : Nat, z = n := ⟨z.toNat, by omega⟩
  exact choose_made id rev n 3 floor head 0 1 hid hrev (by simp [choice]; omega) w
set_option maxRecDepth 100000 in
set_option maxHeartbeats 2000000 in
theorem lawChooses_at (id rev floor head a b c d : Nat) (w : World) (hid : id < 4294967296) (hrev : rev < 18446744073709551616) (hfh : floor ≤ head)
    (h2 : choice id 0 id rev 2 floor head = (a, b)) (h3 : choice id 0 id rev 3 floor head = (c, d))
    (hcase : (head < rev ∧ b = 12 ∧ d = 12) ∨ (rev ≤ head ∧ b = 0 ∧ a = head ∧ floor ≤ rev ∧ d = 0 ∧ c = rev) ∨ (rev ≤ head ∧ b = 0 ∧ a = head ∧ rev < floor ∧ d = 12)) :
    Calls Try.prog 6 #[.int .u32 id, .int .u64 rev, .int .u64 floor, .int .u64 head] w fun e w' => e = .returned (.bool true) ∧ Below w.heap.size w w' := by
  have HM := Lib.hid (fun w => make_any id rev w hid hrev)
  have H2 := Lib.hid (fun w => choose_made id rev id 2 floor head a b hid hrev h2 w)
  have H3 := Lib.hid (fun w => choose_made id rev id 3 floor head c d hid hrev h3 w)
  have H4 := Lib.hid (fun (z : Int) hz hne w => choose_other_id id rev z floor head hid hrev hz hne w)
  generalize (ByteArray.mk (text (made id rev)).toArray) = s at *
  clear h2 h3
  clear hrev
  rcases hcase with ⟨g1, rfl, rfl⟩ | ⟨g1, rfl, rfl, g2, rfl, rfl⟩ | ⟨g1, rfl, rfl, g2, rfl⟩
  all_goals
    go_enter Try.func6, Try.ntmps6
    go_wp2_with fail
    refine (fixed_any _).mono ?_
    rintro e w0 ⟨rfl, hb0⟩
    go_wp2_with fail
    refine (HM.out _).mono ?_
    rintro e w1 ⟨rfl, hb1⟩
    have hB1 := hb0.trans (hb1.mono hb0.size)
    go_wp2_with fail
    refine (H2.out _).mono ?_
    rintro e w2 ⟨rfl, hb2⟩
    have hB2 := hB1.trans (hb2.mono hB1.size)
    go_wp2_with fail
    refine (H3.out _).mono ?_
    rintro e w3 ⟨rfl, hb3⟩
    have hB3 := hB2.trans (hb3.mono hB2.size)
    go_wp2_with fail
    refine (H4.out _ (by omega) (by omega) _).mono ?_
    rintro e w4 ⟨rfl, hb4⟩
    have hB4 := hB3.trans (hb4.mono hB3.size)
    go_wp2_with fail
    go_ret
    exact ⟨rfl, hB4⟩
end Go.Proofs.Ytbamohcaamgalac
