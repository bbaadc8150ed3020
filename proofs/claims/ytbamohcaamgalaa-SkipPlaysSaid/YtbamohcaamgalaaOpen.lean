/- Facts of the program, for the rows. -/
import Derived.Test.YtbamohcaamgalaaRows
import Derived.Test.YtbamohcaamgalaaKit
namespace Go.Proofs.Ytbamohcaamgalaa
open Go.RowKit

theorem own : ownKnob Try.prog.godebug = none := by kernel_rfl
theorem laidOut : laidOutB Try.prog = true := by kernel_rfl
end Go.Proofs.Ytbamohcaamgalaa
