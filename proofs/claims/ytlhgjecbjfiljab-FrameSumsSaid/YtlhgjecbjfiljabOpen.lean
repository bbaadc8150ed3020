/- Facts of the program, for the rows. -/
import Derived.Test.YtlhgjecbjfiljabRows
import Derived.Test.YtlhgjecbjfiljabKit
namespace Go.Proofs.Ytlhgjecbjfiljab
open Go.RowKit

theorem own : ownKnob Try.prog.godebug = none := by kernel_rfl
theorem laidOut : laidOutB Try.prog = true := by kernel_rfl
theorem nat_of_u16 {n : Int} (h : (Lit.int .u16 n).wf = true) : ∃ k : Nat, n = k ∧ k < 65536 := by
  have := bounds_u16 h
  exact ⟨n.toNat, by omega, by omega⟩
theorem nat_of_u32 {n : Int} (h : (Lit.int .u32 n).wf = true) : ∃ k : Nat, n = k ∧ k < 4294967296 := by
  have := bounds_u32 h
  exact ⟨n.toNat, by omega, by omega⟩
end Go.Proofs.Ytlhgjecbjfiljab
