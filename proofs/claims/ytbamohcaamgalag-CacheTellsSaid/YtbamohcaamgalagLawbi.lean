/- CacheTells at any integer that a uint16 can be. -/
import Derived.Test.YtbamohcaamgalagLawb
namespace Go.Proofs.Ytbamohcaamgalag
open Go.RowKit

theorem lawTellsI (n0 : Int) (a : Option Addr) (cap : Nat) (l : List AA) (w : World) (hw : (Lit.int .u16 n0).wf = true) (hl : l.length ≤ 9223372036854775807) (h : IsActs w a l) :
    Calls Try.prog 3 #[.int .u16 n0, .slice a l.length cap] w fun e w' => e = .returned (.bool true) ∧ Below w.heap.size w w' := by
  obtain ⟨k, rfl, hk⟩ := nat_of_u16 hw
  exact lawTells k a cap l w hk hl h
end Go.Proofs.Ytbamohcaamgalag
