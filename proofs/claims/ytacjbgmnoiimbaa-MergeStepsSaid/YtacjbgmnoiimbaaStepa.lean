/- MergeSteps at any integer that a uint8 can be. -/
import Derived.Test.YtacjbgmnoiimbaaLawb
import Derived.Test.YtacjbgmnoiimbaaOpen
namespace Go.Proofs.Ytacjbgmnoiimbaa
open Go.RowKit

theorem lawStepsI (a : Option Addr) (cap : Nat) (L : List RR) (n : Int) (w : World) (hw : (Lit.int .u8 n).wf = true) (hL : L.length ≤ 9223372036854775807) (h : IsRows w a L) (hsz : ∀ i, i < L.length → RowSz (at_ L i)) :
    Calls Try.prog 4 #[.slice a L.length cap, .int .u8 n] w fun e w' => e = .returned (.bool true) ∧ Below w.heap.size w w' := by
  obtain ⟨k, rfl, hk⟩ := nat_of_u8 hw
  exact lawSteps a cap L k w hk hL h hsz
end Go.Proofs.Ytacjbgmnoiimbaa
