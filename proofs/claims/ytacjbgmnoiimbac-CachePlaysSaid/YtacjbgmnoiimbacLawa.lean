/- CacheNil at any integers. -/
import Derived.Test.YtacjbgmnoiimbacWalkG
namespace Go.Proofs.Ytacjbgmnoiimbac
open Go.RowKit
theorem lawNilI (n0 n1 : Int) (w : World) : Calls Try.prog 5 #[.int .i64 n0, .int .i64 n1] w fun e w' => e = .returned (.bool true) ∧ Below w.heap.size w w' := lawNil n0 n1 w
end Go.Proofs.Ytacjbgmnoiimbac
