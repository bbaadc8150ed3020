/- Facts of the program, for the rows. -/
import Derived.Test.YtacjbgmnoiimbacRows
import Derived.Test.YtacjbgmnoiimbacKit
namespace Go.Proofs.Ytacjbgmnoiimbac
open Go.RowKit

theorem own : ownKnob Try.prog.godebug = none := by kernel_rfl
theorem laidOut : laidOutB Try.prog = true := by kernel_rfl
end Go.Proofs.Ytacjbgmnoiimbac
