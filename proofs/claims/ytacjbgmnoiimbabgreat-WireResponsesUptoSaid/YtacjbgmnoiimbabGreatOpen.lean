/- Facts of the program, for the rows. -/
import Derived.Test.YtacjbgmnoiimbabGreatRows
import Derived.Test.YtacjbgmnoiimbabGreatKit
namespace Go.Proofs.YtacjbgmnoiimbabGreat
open Go.RowKit

theorem own : ownKnob Tryz.prog.godebug = none := by kernel_rfl
theorem laidOut : laidOutB Tryz.prog = true := by kernel_rfl
end Go.Proofs.YtacjbgmnoiimbabGreat
