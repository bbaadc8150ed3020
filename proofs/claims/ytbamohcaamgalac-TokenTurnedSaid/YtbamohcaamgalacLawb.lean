/- TokenMakes, TokenReads, at any integers of their types. -/
import Derived.Test.YtbamohcaamgalacLawa
import Derived.Test.YtbamohcaamgalacOpen
namespace Go.Proofs.Ytbamohcaamgalac
set_option linter.unusedVariables false
set_option linter.unusedSimpArgs false
open Go.RowKit

theorem lawMakesI (n0 n1 : Int) (w : World) (h0 : (Lit.int .u32 n0).wf = true) (h1 : (Lit.int .u64 n1).wf = true) :
    Calls Try.prog 3 #[.int .u32 n0, .int .u64 n1] w fun e w' => e = .returned (.bool true) ∧ Below w.heap.size w w' := by
  obtain ⟨A, rfl, hA⟩ := nat_of_u32 h0
  obtain ⟨D, rfl, hD⟩ := nat_of_u64 h1
  exact lawMakes A D w hA hD
theorem lawReadsI (s : ByteArray) (n1 n2 n3 n4 : Int) (w : World) (hs : s.size ≤ 9223372036854775807) (h1 : (Lit.int .u32 n1).wf = true) (h3 : (Lit.int .u64 n3).wf = true) (h4 : (Lit.int .u64 n4).wf = true) :
    Calls Try.prog 4 #[.string s, .int .u32 n1, .int .i64 n2, .int .u64 n3, .int .u64 n4] w fun e w' => e = .returned (.bool true) ∧ Below w.heap.size w w' := by
  obtain ⟨A, rfl, hA⟩ := nat_of_u32 h1
  obtain ⟨B, rfl, hB⟩ := nat_of_u64 h3
  obtain ⟨C, rfl, hC⟩ := nat_of_u64 h4
  exact lawReads s A n2 B C w hs
end Go.Proofs.Ytbamohcaamgalac
