/- PROVED: WorstCountsRounds returns true for every input. No condition. -/
import Derived.Test.YtbilciiffecdgaaY8
import Derived.Test.YtbilciiffecdgaaKA
import Derived.Test.YtbilciiffecdgaaPB
import Derived.ProofKit
import Derived.Lib.SmallJoins
import Derived.Test.YtbilciiffecdgaaKS
namespace Go.Proofs.Ytbilciiffecdgaa
open Go.ChangeShapes Go.WideShapes Go.ChangeAt Go.RowKit Go.Joins Go.Deep

set_option maxRecDepth 100000 in
theorem worstCountsRounds_lifted (os : Os) (started : os.Started) (H : Type) (enc : TypeId × Value → H) :
    ReturnsInHanded {} Try.checked os 4 .any (Rows.worstCountsRoundsSpec.pre6 enc Try.prog Try.f4 Rows.worstCountsRoundsRow.domain false) (Rows.worstCountsRoundsSpec.post enc Try.prog Try.f4 false true false false) := by
  refine returnsInHanded_of_change (C := Try.checked) pb_own started (by kernel_rfl) Try.func4
    (ChangeSpec.witness6 (enc := enc) (C := Try.checked) false ⟨#[], #[.agg #[.slice none 0 0, .slice none 0 0], .slice none 0 0], []⟩ 8 (by kernel_rfl) (by kernel_rfl) (by kernel_rfl) (by kernel_rfl)) ?_
  intro W base args ds gs before hval0 hW hcnd _
  have hval : ∀ (j : Nat) t v, Try.f4.params[j]? = some t → args[j]? = some v → Value.okWide Try.prog W .any base t v := hval0
  have hW' := hW
  obtain ⟨p, q, hA0, hV, rfl, hfz, hnd⟩ := hW
  have hA : DataW.TrodAll enc Try.prog W 0 (fun _ => true) true Try.f4.params.toList args.toList ds p := hA0
  rw [Try.params4] at hA hval
  obtain ⟨v0, v1, d0, d1, p0, p1, rfl, rfl, rfl, h0, h1⟩ := trodAll_two hA
  obtain ⟨rfl, rfl⟩ := trodVars_none hV
  obtain ⟨E0, L0, hS0, hE0, hL0⟩ := open_space (hval 0 25 v0 rfl rfl) h0
  obtain ⟨A1, l1, c1, rfl⟩ := okWide_slice Try.underlying26 (hval 1 26 v1 rfl rfl)
  obtain ⟨fu1, hf1⟩ := h1
  obtain ⟨B1, e1, zs1, hc1, hm1, hn1, hr1⟩ := open_bools_at Try.underlying26 Try.underlying4 (by kernel_rfl) hf1
  simp only [Value.cells] at hc1
  injection hc1 with hc1 _
  injection hc1 with q1 q2 q3
  subst q1 q2 q3
  clear hA0 hval0
  simp only [List.append_nil] at hW'
  refine (rounds_law W E0 L0 _ hE0 hL0 hS0 zs1 A1 c1 (by unfold maxLen at hm1; omega) hr1).mono fun e W' ⟨he, hg⟩ => ?_
  subst he
  exact ⟨_, rfl, post_below pb_laidOut (of_decide_eq_true (by kernel_rfl)) Try.underlying4 rfl rfl hW' rfl rfl rfl hg⟩

theorem worstCountsRounds_holds : Rows.WorstCountsRoundsSaid :=
  OpenClaim.holds_of_wide 4 Try.f4 rfl rfl rfl rfl rfl rfl rfl ⟨rfl, rfl, rfl, rfl, rfl⟩ rfl rfl rfl rfl rfl (by kernel_rfl) Try.func4 (by kernel_rfl)
    (of_decide_eq_true (by kernel_rfl)) (by unfold Func.isWrapper; first | (rw [if_pos (by decide +kernel)]; kernel_rfl) | (rw [if_neg (by decide +kernel)]; exact ⟨rfl, rfl⟩))
    (fun os started H enc _ => worstCountsRounds_lifted os started H enc)
#print axioms worstCountsRounds_holds
end Go.Proofs.Ytbilciiffecdgaa
