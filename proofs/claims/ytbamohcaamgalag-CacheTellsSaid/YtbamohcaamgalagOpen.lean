/- Facts of the program, for the rows. -/
import Derived.Test.YtbamohcaamgalagRows
import Derived.Test.YtbamohcaamgalagKit
namespace Go.Proofs.Ytbamohcaamgalag
open Go.RowKit

theorem own : ownKnob Try.prog.godebug = none := by kernel_rfl
theorem laidOut : laidOutB Try.prog = true := by kernel_rfl
end Go.Proofs.Ytbamohcaamgalag
