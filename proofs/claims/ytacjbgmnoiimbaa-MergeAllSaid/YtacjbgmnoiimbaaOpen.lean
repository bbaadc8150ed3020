/- Facts of the program, for the rows. -/
import Derived.Test.YtacjbgmnoiimbaaRows
import Derived.Test.YtacjbgmnoiimbaaKit
import Derived.SizedLaws
namespace Go.Proofs.Ytacjbgmnoiimbaa
open Go.RowKit

theorem own : ownKnob Try.prog.godebug = none := by kernel_rfl
theorem laidOut : laidOutB Try.prog = true := by kernel_rfl
theorem nat_of_u8 {n : Int} (h : (Lit.int .u8 n).wf = true) : ∃ k : Nat, n = k ∧ k < 256 := by
  have := bounds_u8 h
  exact ⟨n.toNat, by omega, by omega⟩
end Go.Proofs.Ytacjbgmnoiimbaa
