/- WalCuts at any integers. -/
import Derived.Test.YtbamohcaamgalaeLawc
namespace Go.Proofs.Ytbamohcaamgalae
open Go.RowKit Go.ChangeShapes

theorem nat_of_u16 {n : Int} (h : (Lit.int .u16 n).wf = true) : ∃ k : Nat, n = k ∧ k < 65536 := by
  have := bounds_u16 h
  exact ⟨n.toNat, by omega, by omega⟩
theorem nat_of_u8 {n : Int} (h : (Lit.int .u8 n).wf = true) : ∃ k : Nat, n = k ∧ k < 256 := by
  have := bounds_u8 h
  exact ⟨n.toNat, by omega, by omega⟩
theorem lawCutsI (n0 : Int) (a1 : Option Addr) (cap1 : Nat) (ls : List SL) (n2 : Int) (w : World) (h0 : (Lit.int .u64 n0).wf = true) (hl : ls.length ≤ 9223372036854775807) (h2 : (Lit.int .u16 n2).wf = true) (h : IsSls w a1 ls) :
    Calls Try.prog 5 #[.int .u64 n0, .slice a1 ls.length cap1, .int .u16 n2] w fun e w' => e = .returned (.bool true) ∧ Below w.heap.size w w' := by
  obtain ⟨A, rfl, hA⟩ := nat_of_u64 h0
  obtain ⟨B, rfl, hB⟩ := nat_of_u16 h2
  exact lawCuts A a1 cap1 ls B w hA hl hB h
end Go.Proofs.Ytbamohcaamgalae
