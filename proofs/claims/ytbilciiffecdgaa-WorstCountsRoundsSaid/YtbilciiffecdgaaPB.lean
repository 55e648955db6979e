/- Closed facts of this seat that the rows' proofs share. -/
import Derived.Test.YtbilciiffecdgaaRows
import Derived.Test.YtbilciiffecdgaaLift
import Derived.ProofKit
namespace Go.Proofs.Ytbilciiffecdgaa
open Go.ChangeShapes Go.WideShapes Go.ChangeAt Go.RowKit
theorem pb_own : ownKnob Try.prog.godebug = none := by kernel_rfl
theorem pb_laidOut : laidOutB Try.prog = true := by kernel_rfl
theorem pb_u32 {x : Int} (h : (Lit.int .u32 x).wf = true) : ∃ n : Nat, x = n ∧ n < 4294967296 := by
  simp [Lit.wf, IntKind.min, IntKind.max, IntKind.signed, IntKind.bits] at h
  exact ⟨x.toNat, by omega, by omega⟩
theorem pb_i64 {x : Int} (h : (Lit.int .i64 x).wf = true) : -9223372036854775808 ≤ x ∧ x ≤ 9223372036854775807 := by
  simp [Lit.wf, IntKind.min, IntKind.max, IntKind.signed, IntKind.bits] at h
  exact ⟨by omega, by omega⟩
end Go.Proofs.Ytbilciiffecdgaa
