/- TokenChooses, TokenTurned, at any integers of their types. -/
import Derived.Test.YtbamohcaamgalacLawc
import Derived.Test.YtbamohcaamgalacLawd
namespace Go.Proofs.Ytbamohcaamgalac
set_option linter.unusedVariables false
set_option linter.unusedSimpArgs false
open Go.RowKit

theorem lawTurnedI (n0 n1 n2 n3 : Int) (w : World) (h0 : (Lit.int .u32 n0).wf = true) (h1 : (Lit.int .u64 n1).wf = true) (h2 : (Lit.int .u8 n2).wf = true) (h3 : (Lit.int .u32 n3).wf = true) :
    Calls Try.prog 5 #[.int .u32 n0, .int .u64 n1, .int .u8 n2, .int .u32 n3] w fun e w' => e = .returned (.bool true) ∧ Below w.heap.size w w' := by
  obtain ⟨A, rfl, hA⟩ := nat_of_u32 h0
  obtain ⟨B, rfl, hB⟩ := nat_of_u64 h1
  obtain ⟨C, rfl, hC⟩ := nat_of_u8 h2
  obtain ⟨D, rfl, hD⟩ := nat_of_u32 h3
  exact lawTurned A B C D w hA hB hC hD
set_option maxRecDepth 100000 in
set_option maxHeartbeats 2000000 in
theorem lawChooses_over (id rev floor head : Nat) (w : World) (h : head < floor) :
    Calls Try.prog 6 #[.int .u32 id, .int .u64 rev, .int .u64 floor, .int .u64 head] w fun e w' => e = .returned (.bool true) ∧ Below w.heap.size w w' := by
  go_enter Try.func6, Try.ntmps6
  go_wp2_with fail
  refine (fixed_any _).mono ?_
  rintro e w0 ⟨rfl, hb0⟩
  go_wp2_with fail
  go_ret
  exact ⟨rfl, hb0⟩
theorem lawChoosesI (n0 n1 n2 n3 : Int) (w : World) (h0 : (Lit.int .u32 n0).wf = true) (h1 : (Lit.int .u64 n1).wf = true) (h2 : (Lit.int .u64 n2).wf = true) (h3 : (Lit.int .u64 n3).wf = true) :
    Calls Try.prog 6 #[.int .u32 n0, .int .u64 n1, .int .u64 n2, .int .u64 n3] w fun e w' => e = .returned (.bool true) ∧ Below w.heap.size w w' := by
  obtain ⟨id, rfl, hid⟩ := nat_of_u32 h0
  obtain ⟨rev, rfl, hrev⟩ := nat_of_u64 h1
  obtain ⟨floor, rfl, _⟩ := nat_of_u64 h2
  obtain ⟨head, rfl, _⟩ := nat_of_u64 h3
  by_cases hf : head < floor
  · exact lawChooses_over id rev floor head w hf
  · by_cases hr : rev ≤ head
    · by_cases hg : floor ≤ rev
      · exact lawChooses_at id rev floor head head 0 rev 0 w hid hrev (by omega) (by simp [choice, hr]) (by simp [choice, hr, hg]) (Or.inr (Or.inl ⟨hr, rfl, rfl, hg, rfl, rfl⟩))
      · exact lawChooses_at id rev floor head head 0 0 12 w hid hrev (by omega) (by simp [choice, hr]) (by simp [choice, hg]) (Or.inr (Or.inr ⟨hr, rfl, rfl, by omega, rfl⟩))
    · exact lawChooses_at id rev floor head 0 12 0 12 w hid hrev (by omega) (by simp [choice, hr]) (by simp [choice, hr]) (Or.inl ⟨by omega, rfl, rfl⟩)
end Go.Proofs.Ytbamohcaamgalac
