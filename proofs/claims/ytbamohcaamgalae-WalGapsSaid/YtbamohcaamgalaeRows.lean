/-
  No cell of these rows narrows 'for every input' (looked for: loops, veiled, ifaces, maps, wideKeys, modest, calm, conditions, laid).
  DERIVED. THE GIVEN ROWS OF THIS SEAT. 4 by the template 'for every input the law returns true; each argument reads behind the call as it read before'; 0 by the template 'total and deterministic' (their statements: YtbamohcaamgalaeTotals.lean).
  GIVEN WITH THE SEED: the statements are not yours to turn. If you find one false, say at which input.
  Laid BY PROGRAM, IN A SANDBOX (cutbox-rows.mjs): the forced cells as the released guide's own fill.sh prints them over the translation 8ddd4c4590edaf65… (all of the seat's roots in one cut). By AI agents, Wed Nov 11 2026. No macro, syntax, notation, axiom, sorry.
-/
import Derived.Test.YtbamohcaamgalaeChecked
import GoSem.Claim
import GoSem.ClaimJoined
import GoSem.ClaimMapViews
import Derived.JoinedTies
import Derived.KernelRfl
namespace Go.Proofs.Ytbamohcaamgalae
/- THE CELL 'sum', in the pinned program and in every row, IS THE sha256 OF THE DUMP (.gsa) THAT YtbamohcaamgalaeProg.lean LOADS. Nothing in Lean hashes anything: it is a label: what it is worth is what the hold of that sum in a sandbox is worth. -/
noncomputable def Try.pinned : Pinned := { name := "ytbamohcaamgalae", sum := "8ddd4c4590edaf65aea13b1bee89a7f90956ff194f377d32848ab1b7ff1ab954", checked := Try.checked }
namespace Rows
def none {H : Type} : Left H := { results := [], args := [] }

/-- 'sentrylaw20.WalEncodes': WHATEVER THE INPUT: true; the input reads as it did. -/
def walEncodesSpec : ChangeSpec := { name := "walEncodes", fn := fun _ => fun
  | [d] => { results := [.lit (.bool true)], args := [d] }
  | _ => none }
def walEncodesRow : OpenClaim := { program := "ytbamohcaamgalae", sum := "8ddd4c4590edaf65aea13b1bee89a7f90956ff194f377d32848ab1b7ff1ab954", func := "sentry/sentrylaw20.WalEncodes", spec := "walEncodes", unfollowed := true, recurses := true, apart := false }
def WalEncodesSaid : Prop := walEncodesRow.holds Try.pinned (OpenSpec.ofChange walEncodesSpec)

/-- ITS FALSE NEIGHBOUR: 'it returns false'. Refute it at one input. -/
def walEncodesWrong : ChangeSpec := { name := "walEncodes", fn := fun _ => fun
  | [d] => { results := [.lit (.bool false)], args := [d] }
  | _ => none }
def WalEncodesWrongFalsely : Prop := walEncodesRow.holds Try.pinned (OpenSpec.ofChange walEncodesWrong)

/-- 'sentrylaw20.WalReads': WHATEVER THE INPUT: true; the input reads as it did. -/
def walReadsSpec : ChangeSpec := { name := "walReads", fn := fun _ => fun
  | [d] => { results := [.lit (.bool true)], args := [d] }
  | _ => none }
def walReadsRow : OpenClaim := { program := "ytbamohcaamgalae", sum := "8ddd4c4590edaf65aea13b1bee89a7f90956ff194f377d32848ab1b7ff1ab954", func := "sentry/sentrylaw20.WalReads", spec := "walReads", unfollowed := true, recurses := true, apart := false }
def WalReadsSaid : Prop := walReadsRow.holds Try.pinned (OpenSpec.ofChange walReadsSpec)

/-- ITS FALSE NEIGHBOUR: 'it returns false'. Refute it at one input. -/
def walReadsWrong : ChangeSpec := { name := "walReads", fn := fun _ => fun
  | [d] => { results := [.lit (.bool false)], args := [d] }
  | _ => none }
def WalReadsWrongFalsely : Prop := walReadsRow.holds Try.pinned (OpenSpec.ofChange walReadsWrong)

/-- 'sentrylaw20.WalCuts': WHATEVER THE INPUT: true; the input reads as it did. -/
def walCutsSpec : ChangeSpec := { name := "walCuts", fn := fun _ => fun
  | [d1, d2, d3] => { results := [.lit (.bool true)], args := [d1, d2, d3] }
  | _ => none }
def walCutsRow : OpenClaim := { program := "ytbamohcaamgalae", sum := "8ddd4c4590edaf65aea13b1bee89a7f90956ff194f377d32848ab1b7ff1ab954", func := "sentry/sentrylaw20.WalCuts", spec := "walCuts", unfollowed := true, recurses := true, apart := false }
def WalCutsSaid : Prop := walCutsRow.holds Try.pinned (OpenSpec.ofChange walCutsSpec)

/-- ITS FALSE NEIGHBOUR: 'it returns false'. Refute it at one input. -/
def walCutsWrong : ChangeSpec := { name := "walCuts", fn := fun _ => fun
  | [d1, d2, d3] => { results := [.lit (.bool false)], args := [d1, d2, d3] }
  | _ => none }
def WalCutsWrongFalsely : Prop := walCutsRow.holds Try.pinned (OpenSpec.ofChange walCutsWrong)

/-- 'sentrylaw20.WalGaps': WHATEVER THE INPUT: true; the input reads as it did. -/
def walGapsSpec : ChangeSpec := { name := "walGaps", fn := fun _ => fun
  | [d1, d2, d3, d4] => { results := [.lit (.bool true)], args := [d1, d2, d3, d4] }
  | _ => none }
def walGapsRow : OpenClaim := { program := "ytbamohcaamgalae", sum := "8ddd4c4590edaf65aea13b1bee89a7f90956ff194f377d32848ab1b7ff1ab954", func := "sentry/sentrylaw20.WalGaps", spec := "walGaps", unfollowed := true, recurses := true, apart := false }
def WalGapsSaid : Prop := walGapsRow.holds Try.pinned (OpenSpec.ofChange walGapsSpec)

/-- ITS FALSE NEIGHBOUR: 'it returns false'. Refute it at one input. -/
def walGapsWrong : ChangeSpec := { name := "walGaps", fn := fun _ => fun
  | [d1, d2, d3, d4] => { results := [.lit (.bool false)], args := [d1, d2, d3, d4] }
  | _ => none }
def WalGapsWrongFalsely : Prop := walGapsRow.holds Try.pinned (OpenSpec.ofChange walGapsWrong)

/- THE SECOND FORM. 'bulk': how many values and letters a reading holds, each counted each time it is reached (what is shared counts as often as it is met; a slice's spare places count too). A statement '..UptoSaid' is the law's where the arguments, and the package variables that the reading takes, are together of bulk at most 1048576: NARROWER than '..Said'. Prove '..Said' where nothing that the law and all that it calls make is longer than what came in: it says more and counts as full. Else prove '..UptoSaid'. A law counts once. -/
mutual
def uptoBulk {H : Type} : DataW H → Nat
  | .lit (.string bytes) => bytes.length + 1
  | .lit _ => 1
  | .nil => 1
  | .ptr d => uptoBulk d + 1
  | .slice elems spare => uptoBulkAll elems + uptoBulkAll spare + 1
  | .agg parts => uptoBulkAll parts + 1
  | .iface _ d => uptoBulk d + 1
  | .map entries => uptoBulkEntries entries + 1
  | .held _ => 1
def uptoBulkAll {H : Type} : List (DataW H) → Nat
  | [] => 0
  | d :: r => uptoBulk d + uptoBulkAll r
def uptoBulkEntries {H : Type} : List (Lit × DataW H) → Nat
  | [] => 0
  | x :: r => uptoBulkEntry x + uptoBulkEntries r
def uptoBulkEntry {H : Type} : Lit × DataW H → Nat
  | (.string bytes, d) => bytes.length + uptoBulk d + 1
  | (_, d) => uptoBulk d + 1
 end
def uptoSmall : (H : Type) → List (DataW H) → Bool := fun _ ds => decide (uptoBulkAll ds ≤ 1048576)
def OpenSpec.upto (s : _root_.Go.ChangeSpec) : _root_.Go.OpenSpec := { _root_.Go.OpenSpec.ofChange s with cond := some uptoSmall }

/-- 'sentrylaw20.WalEncodes', WHERE WHAT IT READS IS OF BULK AT MOST 1048576: true; the input reads as it did. -/
def walEncodesUptoRow : OpenClaim := { program := "ytbamohcaamgalae", sum := "8ddd4c4590edaf65aea13b1bee89a7f90956ff194f377d32848ab1b7ff1ab954", func := "sentry/sentrylaw20.WalEncodes", spec := "walEncodes", unfollowed := true, recurses := true, apart := false, narrowed := true }
def WalEncodesUptoSaid : Prop := walEncodesUptoRow.holds Try.pinned (OpenSpec.upto walEncodesSpec)

/-- 'sentrylaw20.WalReads', WHERE WHAT IT READS IS OF BULK AT MOST 1048576: true; the input reads as it did. -/
def walReadsUptoRow : OpenClaim := { program := "ytbamohcaamgalae", sum := "8ddd4c4590edaf65aea13b1bee89a7f90956ff194f377d32848ab1b7ff1ab954", func := "sentry/sentrylaw20.WalReads", spec := "walReads", unfollowed := true, recurses := true, apart := false, narrowed := true }
def WalReadsUptoSaid : Prop := walReadsUptoRow.holds Try.pinned (OpenSpec.upto walReadsSpec)

/-- 'sentrylaw20.WalCuts', WHERE WHAT IT READS IS OF BULK AT MOST 1048576: true; the input reads as it did. -/
def walCutsUptoRow : OpenClaim := { program := "ytbamohcaamgalae", sum := "8ddd4c4590edaf65aea13b1bee89a7f90956ff194f377d32848ab1b7ff1ab954", func := "sentry/sentrylaw20.WalCuts", spec := "walCuts", unfollowed := true, recurses := true, apart := false, narrowed := true }
def WalCutsUptoSaid : Prop := walCutsUptoRow.holds Try.pinned (OpenSpec.upto walCutsSpec)

/-- 'sentrylaw20.WalGaps', WHERE WHAT IT READS IS OF BULK AT MOST 1048576: true; the input reads as it did. -/
def walGapsUptoRow : OpenClaim := { program := "ytbamohcaamgalae", sum := "8ddd4c4590edaf65aea13b1bee89a7f90956ff194f377d32848ab1b7ff1ab954", func := "sentry/sentrylaw20.WalGaps", spec := "walGaps", unfollowed := true, recurses := true, apart := false, narrowed := true }
def WalGapsUptoSaid : Prop := walGapsUptoRow.holds Try.pinned (OpenSpec.upto walGapsSpec)

end Rows
end Go.Proofs.Ytbamohcaamgalae
