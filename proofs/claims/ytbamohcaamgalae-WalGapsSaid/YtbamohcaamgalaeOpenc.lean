/- WalGaps at any integers. -/
import Derived.Test.YtbamohcaamgalaeLawd
namespace Go.Proofs.Ytbamohcaamgalae
open Go.RowKit Go.ChangeShapes

theorem lawGapsI (n0 : Int) (a1 : Option Addr) (cap1 : Nat) (ls : List SL) (n2 n3 : Int) (w : World) (h0 : (Lit.int .u64 n0).wf = true) (hl : ls.length ≤ 9223372036854775807) (h2 : (Lit.int .u8 n2).wf = true) (h3 : (Lit.int .u64 n3).wf = true) (h : IsSls w a1 ls) :
    Calls Try.prog 6 #[.int .u64 n0, .slice a1 ls.length cap1, .int .u8 n2, .int .u64 n3] w fun e w' => e = .returned (.bool true) ∧ Below w.heap.size w w' := by
  obtain ⟨A, rfl, hA⟩ := nat_of_u64 h0
  obtain ⟨B, rfl, hB⟩ := nat_of_u8 h2
  obtain ⟨C, rfl, hC⟩ := nat_of_u64 h3
  exact lawGaps A a1 cap1 ls B C w hA hl hB hC h
end Go.Proofs.Ytbamohcaamgalae
