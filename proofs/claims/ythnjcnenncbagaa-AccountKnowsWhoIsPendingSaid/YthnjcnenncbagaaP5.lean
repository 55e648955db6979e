/- PROVED: AccountKnowsWhoIsPending returns true for every input. No condition. -/
import Derived.Test.YthnjcnenncbagaaL7
import Derived.Test.YthnjcnenncbagaaKA
import Derived.Test.YthnjcnenncbagaaPB
import Derived.ProofKit
import Derived.Lib.SmallJoins
namespace Go.Proofs.Ythnjcnenncbagaa
open Go.ChangeShapes Go.WideShapes Go.ChangeAt Go.RowKit Go.Joins Go.Deep

set_option maxRecDepth 100000 in
theorem accountKnowsWhoIsPending_lifted (os : Os) (started : os.Started) (H : Type) (enc : TypeId × Value → H) :
    ReturnsInHanded {} Try.checked os 6 .any (Rows.accountKnowsWhoIsPendingSpec.pre6 enc Try.prog Try.f6 Rows.accountKnowsWhoIsPendingRow.domain false) (Rows.accountKnowsWhoIsPendingSpec.post enc Try.prog Try.f6 false true false false) := by
  refine returnsInHanded_of_change (C := Try.checked) pb_own started (by kernel_rfl) Try.func6
    (ChangeSpec.witness6 (enc := enc) (C := Try.checked) false ⟨#[], #[.int .u32 0, .slice none 0 0], []⟩ 8 (by kernel_rfl) (by kernel_rfl) (by kernel_rfl) (by kernel_rfl)) ?_
  intro W base args ds gs before hval0 hW hcnd _
  have hval : ∀ (j : Nat) t v, Try.f6.params[j]? = some t → args[j]? = some v → Value.okWide Try.prog W .any base t v := hval0
  have hW' := hW
  obtain ⟨p, q, hA0, hV, rfl, hfz, hnd⟩ := hW
  have hA : DataW.TrodAll enc Try.prog W 0 (fun _ => true) true Try.f6.params.toList args.toList ds p := hA0
  rw [Try.params6] at hA hval
  obtain ⟨v0, v1, d0, d1, p0, p1, rfl, rfl, rfl, h0, h1⟩ := trodAll_two hA
  obtain ⟨rfl, rfl⟩ := trodVars_none hV
  obtain ⟨x0, rfl, rfl, rfl, w0⟩ := open_int Try.underlying22 (hval 0 22 v0 rfl rfl) h0
  obtain ⟨x0, rfl, hx0⟩ := pb_u32 w0
  obtain ⟨A1, l1, c1, rfl⟩ := okWide_slice Try.underlying34 (hval 1 34 v1 rfl rfl)
  obtain ⟨fu1, hf1⟩ := h1
  obtain ⟨B1, e1, zs1, hc1, hm1, hn1, hr1, hz1⟩ := open_pairs_at Try.underlying34 Try.underlying44 (by kernel_rfl) rfl rfl (by kernel_rfl) (by kernel_rfl) Try.underlying22 Try.underlying22 hf1
  simp only [Value.cells] at hc1
  injection hc1 with hc1 _
  injection hc1 with q1 q2 q3
  subst q1 q2 q3
  obtain ⟨ns1, hr1', hl1, hz1'⟩ := stages_of hr1 hz1
  clear hA0 hval0
  simp only [List.append_nil] at hW'
  refine (pends_law x0 hx0 A1 zs1.length c1 (by unfold maxLen at hm1; omega) ns1 hz1' W hr1').mono fun e W' ⟨he, hg⟩ => ?_
  subst he
  exact ⟨_, rfl, post_below pb_laidOut (of_decide_eq_true (by kernel_rfl)) Try.underlying4 rfl rfl hW' rfl rfl rfl hg⟩

theorem accountKnowsWhoIsPending_holds : Rows.AccountKnowsWhoIsPendingSaid :=
  OpenClaim.holds_of_wide 6 Try.f6 rfl rfl rfl rfl rfl rfl rfl ⟨rfl, rfl, rfl, rfl, rfl⟩ rfl rfl rfl rfl rfl (by kernel_rfl) Try.func6 (by kernel_rfl)
    (of_decide_eq_true (by kernel_rfl)) (by unfold Func.isWrapper; first | (rw [if_pos (by decide +kernel)]; kernel_rfl) | (rw [if_neg (by decide +kernel)]; exact ⟨rfl, rfl⟩))
    (fun os started H enc _ => accountKnowsWhoIsPending_lifted os started H enc)
#print axioms accountKnowsWhoIsPending_holds
end Go.Proofs.Ythnjcnenncbagaa
