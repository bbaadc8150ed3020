/- FrameTurned, at any integers of its types. -/
import Derived.Test.YtlhgjecbjfiljabLawc
import Derived.Test.YtlhgjecbjfiljabOpen
namespace Go.Proofs.Ytlhgjecbjfiljab
set_option linter.unusedVariables false
set_option linter.unusedSimpArgs false
open Go.RowKit

theorem lawTurnedI (a0 : Option Addr) (cap0 : Nat) (l : List UInt8) (n1 n2 : Int) (sm : Bool) (w : World) (hl : l.length ≤ 9223372036854775807) (h1 : (Lit.int .u16 n1).wf = true) (h2 : (Lit.int .u32 n2).wf = true) (h : IsBytes w a0 l) :
    Calls Try.prog 4 #[.slice a0 l.length cap0, .int .u16 n1, .int .u32 n2, .bool sm] w fun e w' => e = .returned (.bool true) ∧ Below w.heap.size w w' := by
  obtain ⟨A, rfl, hA⟩ := nat_of_u16 h1
  obtain ⟨D, rfl, hD⟩ := nat_of_u32 h2
  exact lawTurned a0 cap0 l A D sm w hl hA hD h
end Go.Proofs.Ytlhgjecbjfiljab
