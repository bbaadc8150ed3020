/- Facts of the program, for the rows. -/
import Derived.Test.YtacjbgmnoiimbabRows
import Derived.Test.YtacjbgmnoiimbabKit
namespace Go.Proofs.Ytacjbgmnoiimbab
open Go.RowKit

theorem own : ownKnob Try.prog.godebug = none := by kernel_rfl
theorem laidOut : laidOutB Try.prog = true := by kernel_rfl
end Go.Proofs.Ytacjbgmnoiimbab
