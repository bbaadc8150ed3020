/- MergeNil at any integer that a uint8 can be. -/
import Derived.Test.YtacjbgmnoiimbaaFixed
import Derived.Test.YtacjbgmnoiimbaaOpen
namespace Go.Proofs.Ytacjbgmnoiimbaa
open Go.RowKit

theorem lawNilI (n : Int) (w : World) (hw : (Lit.int .u8 n).wf = true) : Calls Try.prog 6 #[.int .u8 n] w fun e w' => e = .returned (.bool true) ∧ Below w.heap.size w w' := by
  obtain ⟨k, rfl, hk⟩ := nat_of_u8 hw
  exact lawNil k w hk
end Go.Proofs.Ytacjbgmnoiimbaa
