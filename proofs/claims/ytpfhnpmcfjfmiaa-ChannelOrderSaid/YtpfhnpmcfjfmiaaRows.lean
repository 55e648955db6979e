/-
  No cell of these rows narrows 'for every input' (looked for: loops, veiled, ifaces, maps, wideKeys, modest, calm, conditions, laid).
  DERIVED. THE GIVEN ROWS OF THIS SEAT. 4 by the template 'for every input the law returns true; each argument reads behind the call as it read before'; 0 by the template 'total and deterministic' (their statements: YtpfhnpmcfjfmiaaTotals.lean).
  GIVEN WITH THE SEED: the statements are not yours to turn. If you find one false, say at which input.
  Laid BY PROGRAM, IN A SANDBOX (cutbox-rows.mjs): the forced cells as the released guide's own fill.sh prints them over the translation 04e6505fbc41efd3… (all of the seat's roots in one cut). By AI agents, Wed Nov 11 2026. No macro, syntax, notation, axiom, sorry.
-/
import Derived.Test.YtpfhnpmcfjfmiaaChecked
import GoSem.Claim
import GoSem.ClaimJoined
import GoSem.ClaimMapViews
import Derived.JoinedTies
import Derived.KernelRfl
namespace Go.Proofs.Ytpfhnpmcfjfmiaa
/- THE CELL 'sum', in the pinned program and in every row, IS THE sha256 OF THE DUMP (.gsa) THAT YtpfhnpmcfjfmiaaProg.lean LOADS. Nothing in Lean hashes anything: it is a label: what it is worth is what the hold of that sum in a sandbox is worth. -/
noncomputable def Try.pinned : Pinned := { name := "ytpfhnpmcfjfmiaa", sum := "04e6505fbc41efd3fb3a4ab0e577e351c68f90b959b07c372ba962d06b41df2e", checked := Try.checked }
namespace Rows
def none {H : Type} : Left H := { results := [], args := [] }

/-- 'selfstablaw41.ChannelSteps': WHATEVER THE INPUT: true; the input reads as it did. -/
def channelStepsSpec : ChangeSpec := { name := "channelSteps", fn := fun _ => fun
  | [d1, d2, d3] => { results := [.lit (.bool true)], args := [d1, d2, d3] }
  | _ => none }
def channelStepsRow : OpenClaim := { program := "ytpfhnpmcfjfmiaa", sum := "04e6505fbc41efd3fb3a4ab0e577e351c68f90b959b07c372ba962d06b41df2e", func := "selfstab/selfstablaw41.ChannelSteps", spec := "channelSteps", apart := false }
def ChannelStepsSaid : Prop := channelStepsRow.holds Try.pinned (OpenSpec.ofChange channelStepsSpec)

/-- ITS FALSE NEIGHBOUR: 'it returns false'. Refute it at one input. -/
def channelStepsWrong : ChangeSpec := { name := "channelSteps", fn := fun _ => fun
  | [d1, d2, d3] => { results := [.lit (.bool false)], args := [d1, d2, d3] }
  | _ => none }
def ChannelStepsWrongFalsely : Prop := channelStepsRow.holds Try.pinned (OpenSpec.ofChange channelStepsWrong)

/-- 'selfstablaw41.ChannelPlays': WHATEVER THE INPUT: true; the input reads as it did. -/
def channelPlaysSpec : ChangeSpec := { name := "channelPlays", fn := fun _ => fun
  | [d1, d2] => { results := [.lit (.bool true)], args := [d1, d2] }
  | _ => none }
def channelPlaysRow : OpenClaim := { program := "ytpfhnpmcfjfmiaa", sum := "04e6505fbc41efd3fb3a4ab0e577e351c68f90b959b07c372ba962d06b41df2e", func := "selfstab/selfstablaw41.ChannelPlays", spec := "channelPlays", apart := false }
def ChannelPlaysSaid : Prop := channelPlaysRow.holds Try.pinned (OpenSpec.ofChange channelPlaysSpec)

/-- ITS FALSE NEIGHBOUR: 'it returns false'. Refute it at one input. -/
def channelPlaysWrong : ChangeSpec := { name := "channelPlays", fn := fun _ => fun
  | [d1, d2] => { results := [.lit (.bool false)], args := [d1, d2] }
  | _ => none }
def ChannelPlaysWrongFalsely : Prop := channelPlaysRow.holds Try.pinned (OpenSpec.ofChange channelPlaysWrong)

/-- 'selfstablaw41.ChannelOrder': WHATEVER THE INPUT: true; the input reads as it did. -/
def channelOrderSpec : ChangeSpec := { name := "channelOrder", fn := fun _ => fun
  | [d1, d2] => { results := [.lit (.bool true)], args := [d1, d2] }
  | _ => none }
def channelOrderRow : OpenClaim := { program := "ytpfhnpmcfjfmiaa", sum := "04e6505fbc41efd3fb3a4ab0e577e351c68f90b959b07c372ba962d06b41df2e", func := "selfstab/selfstablaw41.ChannelOrder", spec := "channelOrder", apart := false }
def ChannelOrderSaid : Prop := channelOrderRow.holds Try.pinned (OpenSpec.ofChange channelOrderSpec)

/-- ITS FALSE NEIGHBOUR: 'it returns false'. Refute it at one input. -/
def channelOrderWrong : ChangeSpec := { name := "channelOrder", fn := fun _ => fun
  | [d1, d2] => { results := [.lit (.bool false)], args := [d1, d2] }
  | _ => none }
def ChannelOrderWrongFalsely : Prop := channelOrderRow.holds Try.pinned (OpenSpec.ofChange channelOrderWrong)

/-- 'selfstablaw41.ChannelKeeps': WHATEVER THE INPUT: true; the input reads as it did. -/
def channelKeepsSpec : ChangeSpec := { name := "channelKeeps", fn := fun _ => fun
  | [d1, d2] => { results := [.lit (.bool true)], args := [d1, d2] }
  | _ => none }
def channelKeepsRow : OpenClaim := { program := "ytpfhnpmcfjfmiaa", sum := "04e6505fbc41efd3fb3a4ab0e577e351c68f90b959b07c372ba962d06b41df2e", func := "selfstab/selfstablaw41.ChannelKeeps", spec := "channelKeeps", apart := false }
def ChannelKeepsSaid : Prop := channelKeepsRow.holds Try.pinned (OpenSpec.ofChange channelKeepsSpec)

/-- ITS FALSE NEIGHBOUR: 'it returns false'. Refute it at one input. -/
def channelKeepsWrong : ChangeSpec := { name := "channelKeeps", fn := fun _ => fun
  | [d1, d2] => { results := [.lit (.bool false)], args := [d1, d2] }
  | _ => none }
def ChannelKeepsWrongFalsely : Prop := channelKeepsRow.holds Try.pinned (OpenSpec.ofChange channelKeepsWrong)

/- THE SECOND FORM. 'bulk': how many values and letters a reading holds, each counted each time it is reached (what is shared counts as often as it is met; a slice's spare places count too). A statement '..UptoSaid' is the law's where the arguments, and the package variables that the reading takes, are together of bulk at most 1048576: NARROWER than '..Said'. Prove '..Said' where nothing that the law and all that it calls make is longer than what came in: it says more and counts as full. Else prove '..UptoSaid'. A law counts once. -/
mutual
def uptoBulk {H : Type} : DataW H → Nat
  | .lit (.string bytes) => bytes.length + 1
  | .lit _ => 1
  | .nil => 1
  | .ptr d => uptoBulk d + 1
  | .slice elems spare => uptoBulkAll elems + uptoBulkAll spare + 1
  | .agg parts => uptoBulkAll parts + 1
  | .iface _ d => uptoBulk d + 1
  | .map entries => uptoBulkEntries entries + 1
  | .held _ => 1
def uptoBulkAll {H : Type} : List (DataW H) → Nat
  | [] => 0
  | d :: r => uptoBulk d + uptoBulkAll r
def uptoBulkEntries {H : Type} : List (Lit × DataW H) → Nat
  | [] => 0
  | x :: r => uptoBulkEntry x + uptoBulkEntries r
def uptoBulkEntry {H : Type} : Lit × DataW H → Nat
  | (.string bytes, d) => bytes.length + uptoBulk d + 1
  | (_, d) => uptoBulk d + 1
 end
def uptoSmall : (H : Type) → List (DataW H) → Bool := fun _ ds => decide (uptoBulkAll ds ≤ 1048576)
def OpenSpec.upto (s : _root_.Go.ChangeSpec) : _root_.Go.OpenSpec := { _root_.Go.OpenSpec.ofChange s with cond := some uptoSmall }

/-- 'selfstablaw41.ChannelSteps', WHERE WHAT IT READS IS OF BULK AT MOST 1048576: true; the input reads as it did. -/
def channelStepsUptoRow : OpenClaim := { program := "ytpfhnpmcfjfmiaa", sum := "04e6505fbc41efd3fb3a4ab0e577e351c68f90b959b07c372ba962d06b41df2e", func := "selfstab/selfstablaw41.ChannelSteps", spec := "channelSteps", apart := false, narrowed := true }
def ChannelStepsUptoSaid : Prop := channelStepsUptoRow.holds Try.pinned (OpenSpec.upto channelStepsSpec)

/-- 'selfstablaw41.ChannelPlays', WHERE WHAT IT READS IS OF BULK AT MOST 1048576: true; the input reads as it did. -/
def channelPlaysUptoRow : OpenClaim := { program := "ytpfhnpmcfjfmiaa", sum := "04e6505fbc41efd3fb3a4ab0e577e351c68f90b959b07c372ba962d06b41df2e", func := "selfstab/selfstablaw41.ChannelPlays", spec := "channelPlays", apart := false, narrowed := true }
def ChannelPlaysUptoSaid : Prop := channelPlaysUptoRow.holds Try.pinned (OpenSpec.upto channelPlaysSpec)

/-- 'selfstablaw41.ChannelOrder', WHERE WHAT IT READS IS OF BULK AT MOST 1048576: true; the input reads as it did. -/
def channelOrderUptoRow : OpenClaim := { program := "ytpfhnpmcfjfmiaa", sum := "04e6505fbc41efd3fb3a4ab0e577e351c68f90b959b07c372ba962d06b41df2e", func := "selfstab/selfstablaw41.ChannelOrder", spec := "channelOrder", apart := false, narrowed := true }
def ChannelOrderUptoSaid : Prop := channelOrderUptoRow.holds Try.pinned (OpenSpec.upto channelOrderSpec)

/-- 'selfstablaw41.ChannelKeeps', WHERE WHAT IT READS IS OF BULK AT MOST 1048576: true; the input reads as it did. -/
def channelKeepsUptoRow : OpenClaim := { program := "ytpfhnpmcfjfmiaa", sum := "04e6505fbc41efd3fb3a4ab0e577e351c68f90b959b07c372ba962d06b41df2e", func := "selfstab/selfstablaw41.ChannelKeeps", spec := "channelKeeps", apart := false, narrowed := true }
def ChannelKeepsUptoSaid : Prop := channelKeepsUptoRow.holds Try.pinned (OpenSpec.upto channelKeepsSpec)

end Rows
end Go.Proofs.Ytpfhnpmcfjfmiaa
