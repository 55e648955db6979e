/-
  No cell of these rows narrows 'for every input' (looked for: loops, veiled, ifaces, maps, wideKeys, modest, calm, conditions, laid).
  DERIVED. THE GIVEN ROWS OF THIS SEAT. 7 by the template 'for every input the law returns true; each argument reads behind the call as it read before'; 0 by the template 'total and deterministic' (their statements: YtlhheglffododaaTotals.lean).
  GIVEN WITH THE SEED: the statements are not yours to turn. If you find one false, say at which input.
  Laid BY PROGRAM, IN A SANDBOX (cutbox-rows.mjs): the forced cells as the released guide's own fill.sh prints them over the translation 0341e65ca3d12433… (all of the seat's roots in one cut). By AI agents, Wed Nov 11 2026. No macro, syntax, notation, axiom, sorry.
-/
import Derived.Test.YtlhheglffododaaChecked
import GoSem.Claim
import GoSem.ClaimJoined
import GoSem.ClaimMapViews
import Derived.JoinedTies
import Derived.KernelRfl
namespace Go.Proofs.Ytlhheglffododaa
/- THE CELL 'sum', in the pinned program and in every row, IS THE sha256 OF THE DUMP (.gsa) THAT YtlhheglffododaaProg.lean LOADS. Nothing in Lean hashes anything: it is a label: what it is worth is what the hold of that sum in a sandbox is worth. -/
noncomputable def Try.pinned : Pinned := { name := "ytlhheglffododaa", sum := "0341e65ca3d12433c11651e039fe3b86c8edb08588fcd3b3d2a31c2b06966ffd", checked := Try.checked }
namespace Rows
def none {H : Type} : Left H := { results := [], args := [] }

/-- 'selfstablaw19.ConvergeSplitsStates': WHATEVER THE INPUT: true; the input reads as it did. -/
def convergeSplitsStatesSpec : ChangeSpec := { name := "convergeSplitsStates", fn := fun _ => fun
  | [d1, d2] => { results := [.lit (.bool true)], args := [d1, d2] }
  | _ => none }
def convergeSplitsStatesRow : OpenClaim := { program := "ytlhheglffododaa", sum := "0341e65ca3d12433c11651e039fe3b86c8edb08588fcd3b3d2a31c2b06966ffd", func := "selfstab/selfstablaw19.ConvergeSplitsStates", spec := "convergeSplitsStates", apart := false }
def ConvergeSplitsStatesSaid : Prop := convergeSplitsStatesRow.holds Try.pinned (OpenSpec.ofChange convergeSplitsStatesSpec)

/-- ITS FALSE NEIGHBOUR: 'it returns false'. Refute it at one input. -/
def convergeSplitsStatesWrong : ChangeSpec := { name := "convergeSplitsStates", fn := fun _ => fun
  | [d1, d2] => { results := [.lit (.bool false)], args := [d1, d2] }
  | _ => none }
def ConvergeSplitsStatesWrongFalsely : Prop := convergeSplitsStatesRow.holds Try.pinned (OpenSpec.ofChange convergeSplitsStatesWrong)

/-- 'selfstablaw19.ConvergeIsMonotone': WHATEVER THE INPUT: true; the input reads as it did. -/
def convergeIsMonotoneSpec : ChangeSpec := { name := "convergeIsMonotone", fn := fun _ => fun
  | [d1, d2, d3] => { results := [.lit (.bool true)], args := [d1, d2, d3] }
  | _ => none }
def convergeIsMonotoneRow : OpenClaim := { program := "ytlhheglffododaa", sum := "0341e65ca3d12433c11651e039fe3b86c8edb08588fcd3b3d2a31c2b06966ffd", func := "selfstab/selfstablaw19.ConvergeIsMonotone", spec := "convergeIsMonotone", apart := false }
def ConvergeIsMonotoneSaid : Prop := convergeIsMonotoneRow.holds Try.pinned (OpenSpec.ofChange convergeIsMonotoneSpec)

/-- ITS FALSE NEIGHBOUR: 'it returns false'. Refute it at one input. -/
def convergeIsMonotoneWrong : ChangeSpec := { name := "convergeIsMonotone", fn := fun _ => fun
  | [d1, d2, d3] => { results := [.lit (.bool false)], args := [d1, d2, d3] }
  | _ => none }
def ConvergeIsMonotoneWrongFalsely : Prop := convergeIsMonotoneRow.holds Try.pinned (OpenSpec.ofChange convergeIsMonotoneWrong)

/-- 'selfstablaw19.ConvergeNeedsNoStrayArcs': WHATEVER THE INPUT: true; the input reads as it did. -/
def convergeNeedsNoStrayArcsSpec : ChangeSpec := { name := "convergeNeedsNoStrayArcs", fn := fun _ => fun
  | [d1, d2] => { results := [.lit (.bool true)], args := [d1, d2] }
  | _ => none }
def convergeNeedsNoStrayArcsRow : OpenClaim := { program := "ytlhheglffododaa", sum := "0341e65ca3d12433c11651e039fe3b86c8edb08588fcd3b3d2a31c2b06966ffd", func := "selfstab/selfstablaw19.ConvergeNeedsNoStrayArcs", spec := "convergeNeedsNoStrayArcs", apart := false }
def ConvergeNeedsNoStrayArcsSaid : Prop := convergeNeedsNoStrayArcsRow.holds Try.pinned (OpenSpec.ofChange convergeNeedsNoStrayArcsSpec)

/-- ITS FALSE NEIGHBOUR: 'it returns false'. Refute it at one input. -/
def convergeNeedsNoStrayArcsWrong : ChangeSpec := { name := "convergeNeedsNoStrayArcs", fn := fun _ => fun
  | [d1, d2] => { results := [.lit (.bool false)], args := [d1, d2] }
  | _ => none }
def ConvergeNeedsNoStrayArcsWrongFalsely : Prop := convergeNeedsNoStrayArcsRow.holds Try.pinned (OpenSpec.ofChange convergeNeedsNoStrayArcsWrong)

/-- 'selfstablaw19.ConvergeByRandomWalks': WHATEVER THE INPUT: true; the input reads as it did. -/
def convergeByRandomWalksSpec : ChangeSpec := { name := "convergeByRandomWalks", fn := fun _ => fun
  | [d1, d2, d3, d4] => { results := [.lit (.bool true)], args := [d1, d2, d3, d4] }
  | _ => none }
def convergeByRandomWalksRow : OpenClaim := { program := "ytlhheglffododaa", sum := "0341e65ca3d12433c11651e039fe3b86c8edb08588fcd3b3d2a31c2b06966ffd", func := "selfstab/selfstablaw19.ConvergeByRandomWalks", spec := "convergeByRandomWalks", apart := false }
def ConvergeByRandomWalksSaid : Prop := convergeByRandomWalksRow.holds Try.pinned (OpenSpec.ofChange convergeByRandomWalksSpec)

/-- ITS FALSE NEIGHBOUR: 'it returns false'. Refute it at one input. -/
def convergeByRandomWalksWrong : ChangeSpec := { name := "convergeByRandomWalks", fn := fun _ => fun
  | [d1, d2, d3, d4] => { results := [.lit (.bool false)], args := [d1, d2, d3, d4] }
  | _ => none }
def ConvergeByRandomWalksWrongFalsely : Prop := convergeByRandomWalksRow.holds Try.pinned (OpenSpec.ofChange convergeByRandomWalksWrong)

/-- 'selfstablaw19.ConvergeFinds': WHATEVER THE INPUT: true; the input reads as it did. -/
def convergeFindsSpec : ChangeSpec := { name := "convergeFinds", fn := fun _ => fun
  | [d1, d2] => { results := [.lit (.bool true)], args := [d1, d2] }
  | _ => none }
def convergeFindsRow : OpenClaim := { program := "ytlhheglffododaa", sum := "0341e65ca3d12433c11651e039fe3b86c8edb08588fcd3b3d2a31c2b06966ffd", func := "selfstab/selfstablaw19.ConvergeFinds", spec := "convergeFinds", apart := false }
def ConvergeFindsSaid : Prop := convergeFindsRow.holds Try.pinned (OpenSpec.ofChange convergeFindsSpec)

/-- ITS FALSE NEIGHBOUR: 'it returns false'. Refute it at one input. -/
def convergeFindsWrong : ChangeSpec := { name := "convergeFinds", fn := fun _ => fun
  | [d1, d2] => { results := [.lit (.bool false)], args := [d1, d2] }
  | _ => none }
def ConvergeFindsWrongFalsely : Prop := convergeFindsRow.holds Try.pinned (OpenSpec.ofChange convergeFindsWrong)

/-- 'selfstablaw19.ConvergeEscapes': WHATEVER THE INPUT: true; the input reads as it did. -/
def convergeEscapesSpec : ChangeSpec := { name := "convergeEscapes", fn := fun _ => fun
  | [d1, d2, d3] => { results := [.lit (.bool true)], args := [d1, d2, d3] }
  | _ => none }
def convergeEscapesRow : OpenClaim := { program := "ytlhheglffododaa", sum := "0341e65ca3d12433c11651e039fe3b86c8edb08588fcd3b3d2a31c2b06966ffd", func := "selfstab/selfstablaw19.ConvergeEscapes", spec := "convergeEscapes", apart := false }
def ConvergeEscapesSaid : Prop := convergeEscapesRow.holds Try.pinned (OpenSpec.ofChange convergeEscapesSpec)

/-- ITS FALSE NEIGHBOUR: 'it returns false'. Refute it at one input. -/
def convergeEscapesWrong : ChangeSpec := { name := "convergeEscapes", fn := fun _ => fun
  | [d1, d2, d3] => { results := [.lit (.bool false)], args := [d1, d2, d3] }
  | _ => none }
def ConvergeEscapesWrongFalsely : Prop := convergeEscapesRow.holds Try.pinned (OpenSpec.ofChange convergeEscapesWrong)

/-- 'selfstablaw19.ConvergeEscapesForEver': WHATEVER THE INPUT: true; the input reads as it did. -/
def convergeEscapesForEverSpec : ChangeSpec := { name := "convergeEscapesForEver", fn := fun _ => fun
  | [d1, d2, d3] => { results := [.lit (.bool true)], args := [d1, d2, d3] }
  | _ => none }
def convergeEscapesForEverRow : OpenClaim := { program := "ytlhheglffododaa", sum := "0341e65ca3d12433c11651e039fe3b86c8edb08588fcd3b3d2a31c2b06966ffd", func := "selfstab/selfstablaw19.ConvergeEscapesForEver", spec := "convergeEscapesForEver", apart := false }
def ConvergeEscapesForEverSaid : Prop := convergeEscapesForEverRow.holds Try.pinned (OpenSpec.ofChange convergeEscapesForEverSpec)

/-- ITS FALSE NEIGHBOUR: 'it returns false'. Refute it at one input. -/
def convergeEscapesForEverWrong : ChangeSpec := { name := "convergeEscapesForEver", fn := fun _ => fun
  | [d1, d2, d3] => { results := [.lit (.bool false)], args := [d1, d2, d3] }
  | _ => none }
def ConvergeEscapesForEverWrongFalsely : Prop := convergeEscapesForEverRow.holds Try.pinned (OpenSpec.ofChange convergeEscapesForEverWrong)

/- THE SECOND FORM. 'bulk': how many values and letters a reading holds, each counted each time it is reached (what is shared counts as often as it is met; a slice's spare places count too). A statement '..UptoSaid' is the law's where the arguments, and the package variables that the reading takes, are together of bulk at most 1048576: NARROWER than '..Said'. Prove '..Said' where nothing that the law and all that it calls make is longer than what came in: it says more and counts as full. Else prove '..UptoSaid'. A law counts once. -/
mutual
def uptoBulk {H : Type} : DataW H → Nat
  | .lit (.string bytes) => bytes.length + 1
  | .lit _ => 1
  | .nil => 1
  | .ptr d => uptoBulk d + 1
  | .slice elems spare => uptoBulkAll elems + uptoBulkAll spare + 1
  | .agg parts => uptoBulkAll parts + 1
  | .iface _ d => uptoBulk d + 1
  | .map entries => uptoBulkEntries entries + 1
  | .held _ => 1
def uptoBulkAll {H : Type} : List (DataW H) → Nat
  | [] => 0
  | d :: r => uptoBulk d + uptoBulkAll r
def uptoBulkEntries {H : Type} : List (Lit × DataW H) → Nat
  | [] => 0
  | x :: r => uptoBulkEntry x + uptoBulkEntries r
def uptoBulkEntry {H : Type} : Lit × DataW H → Nat
  | (.string bytes, d) => bytes.length + uptoBulk d + 1
  | (_, d) => uptoBulk d + 1
 end
def uptoSmall : (H : Type) → List (DataW H) → Bool := fun _ ds => decide (uptoBulkAll ds ≤ 1048576)
def OpenSpec.upto (s : _root_.Go.ChangeSpec) : _root_.Go.OpenSpec := { _root_.Go.OpenSpec.ofChange s with cond := some uptoSmall }

/-- 'selfstablaw19.ConvergeSplitsStates', WHERE WHAT IT READS IS OF BULK AT MOST 1048576: true; the input reads as it did. -/
def convergeSplitsStatesUptoRow : OpenClaim := { program := "ytlhheglffododaa", sum := "0341e65ca3d12433c11651e039fe3b86c8edb08588fcd3b3d2a31c2b06966ffd", func := "selfstab/selfstablaw19.ConvergeSplitsStates", spec := "convergeSplitsStates", apart := false, narrowed := true }
def ConvergeSplitsStatesUptoSaid : Prop := convergeSplitsStatesUptoRow.holds Try.pinned (OpenSpec.upto convergeSplitsStatesSpec)

/-- 'selfstablaw19.ConvergeIsMonotone', WHERE WHAT IT READS IS OF BULK AT MOST 1048576: true; the input reads as it did. -/
def convergeIsMonotoneUptoRow : OpenClaim := { program := "ytlhheglffododaa", sum := "0341e65ca3d12433c11651e039fe3b86c8edb08588fcd3b3d2a31c2b06966ffd", func := "selfstab/selfstablaw19.ConvergeIsMonotone", spec := "convergeIsMonotone", apart := false, narrowed := true }
def ConvergeIsMonotoneUptoSaid : Prop := convergeIsMonotoneUptoRow.holds Try.pinned (OpenSpec.upto convergeIsMonotoneSpec)

/-- 'selfstablaw19.ConvergeNeedsNoStrayArcs', WHERE WHAT IT READS IS OF BULK AT MOST 1048576: true; the input reads as it did. -/
def convergeNeedsNoStrayArcsUptoRow : OpenClaim := { program := "ytlhheglffododaa", sum := "0341e65ca3d12433c11651e039fe3b86c8edb08588fcd3b3d2a31c2b06966ffd", func := "selfstab/selfstablaw19.ConvergeNeedsNoStrayArcs", spec := "convergeNeedsNoStrayArcs", apart := false, narrowed := true }
def ConvergeNeedsNoStrayArcsUptoSaid : Prop := convergeNeedsNoStrayArcsUptoRow.holds Try.pinned (OpenSpec.upto convergeNeedsNoStrayArcsSpec)

/-- 'selfstablaw19.ConvergeByRandomWalks', WHERE WHAT IT READS IS OF BULK AT MOST 1048576: true; the input reads as it did. -/
def convergeByRandomWalksUptoRow : OpenClaim := { program := "ytlhheglffododaa", sum := "0341e65ca3d12433c11651e039fe3b86c8edb08588fcd3b3d2a31c2b06966ffd", func := "selfstab/selfstablaw19.ConvergeByRandomWalks", spec := "convergeByRandomWalks", apart := false, narrowed := true }
def ConvergeByRandomWalksUptoSaid : Prop := convergeByRandomWalksUptoRow.holds Try.pinned (OpenSpec.upto convergeByRandomWalksSpec)

/-- 'selfstablaw19.ConvergeFinds', WHERE WHAT IT READS IS OF BULK AT MOST 1048576: true; the input reads as it did. -/
def convergeFindsUptoRow : OpenClaim := { program := "ytlhheglffododaa", sum := "0341e65ca3d12433c11651e039fe3b86c8edb08588fcd3b3d2a31c2b06966ffd", func := "selfstab/selfstablaw19.ConvergeFinds", spec := "convergeFinds", apart := false, narrowed := true }
def ConvergeFindsUptoSaid : Prop := convergeFindsUptoRow.holds Try.pinned (OpenSpec.upto convergeFindsSpec)

/-- 'selfstablaw19.ConvergeEscapes', WHERE WHAT IT READS IS OF BULK AT MOST 1048576: true; the input reads as it did. -/
def convergeEscapesUptoRow : OpenClaim := { program := "ytlhheglffododaa", sum := "0341e65ca3d12433c11651e039fe3b86c8edb08588fcd3b3d2a31c2b06966ffd", func := "selfstab/selfstablaw19.ConvergeEscapes", spec := "convergeEscapes", apart := false, narrowed := true }
def ConvergeEscapesUptoSaid : Prop := convergeEscapesUptoRow.holds Try.pinned (OpenSpec.upto convergeEscapesSpec)

/-- 'selfstablaw19.ConvergeEscapesForEver', WHERE WHAT IT READS IS OF BULK AT MOST 1048576: true; the input reads as it did. -/
def convergeEscapesForEverUptoRow : OpenClaim := { program := "ytlhheglffododaa", sum := "0341e65ca3d12433c11651e039fe3b86c8edb08588fcd3b3d2a31c2b06966ffd", func := "selfstab/selfstablaw19.ConvergeEscapesForEver", spec := "convergeEscapesForEver", apart := false, narrowed := true }
def ConvergeEscapesForEverUptoSaid : Prop := convergeEscapesForEverUptoRow.holds Try.pinned (OpenSpec.upto convergeEscapesForEverSpec)

end Rows
end Go.Proofs.Ytlhheglffododaa
