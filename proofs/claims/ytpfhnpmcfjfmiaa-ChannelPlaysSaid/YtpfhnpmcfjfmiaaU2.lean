/- PROVED: ChannelPlays returns true for every input. No condition. -/
import Derived.Test.YtpfhnpmcfjfmiaaT2
import Derived.Test.YtpfhnpmcfjfmiaaKA
import Derived.Test.YtpfhnpmcfjfmiaaPB
import Derived.ProofKit
import Derived.Lib.SmallJoins
import Derived.Test.YtpfhnpmcfjfmiaaKC
namespace Go.Proofs.Ytpfhnpmcfjfmiaa
open Go.ChangeShapes Go.WideShapes Go.ChangeAt Go.RowKit Go.Joins Go.Deep

set_option maxRecDepth 100000 in
theorem channelPlays_lifted (os : Os) (started : os.Started) (H : Type) (enc : TypeId × Value → H) :
    ReturnsInHanded {} Try.checked os 4 .any (Rows.channelPlaysSpec.pre6 enc Try.prog Try.f4 Rows.channelPlaysRow.domain false) (Rows.channelPlaysSpec.post enc Try.prog Try.f4 false true false false) := by
  refine returnsInHanded_of_change (C := Try.checked) pb_own started (by kernel_rfl) Try.func4
    (ChangeSpec.witness6 (enc := enc) (C := Try.checked) false ⟨#[], #[.agg #[.int .i64 0, .slice none 0 0], .slice none 0 0], []⟩ 8 (by kernel_rfl) (by kernel_rfl) (by kernel_rfl) (by kernel_rfl)) ?_
  intro W base args ds gs before hval0 hW hcnd _
  have hval : ∀ (j : Nat) t v, Try.f4.params[j]? = some t → args[j]? = some v → Value.okWide Try.prog W .any base t v := hval0
  have hW' := hW
  obtain ⟨p, q, hA0, hV, rfl, hfz, hnd⟩ := hW
  have hA : DataW.TrodAll enc Try.prog W 0 (fun _ => true) true Try.f4.params.toList args.toList ds p := hA0
  rw [Try.params4] at hA hval
  obtain ⟨v0, v1, d0, d1, p0, p1, rfl, rfl, rfl, h0, h1⟩ := trodAll_two hA
  obtain ⟨rfl, rfl⟩ := trodVars_none hV
  obtain ⟨cp0, Q0, hC0, hcp0, hm0, hw0⟩ := open_chan (hval 0 24 v0 rfl rfl) h0
  obtain ⟨fu1, hf1⟩ := h1
  obtain ⟨A1, l1, c1, rfl⟩ := okWide_slice Try.underlying36 (hval 1 36 v1 rfl rfl)
  obtain ⟨os1, hO1, hm1⟩ := open_ops hf1
  clear hA0 hval0
  simp only [List.append_nil] at hW'
  refine (plays_law W cp0 Q0 _ hC0 hcp0 os1 _ hO1 (by unfold maxLen at hm1; omega)).mono fun e W' ⟨he, hg⟩ => ?_
  subst he
  exact ⟨_, rfl, post_below pb_laidOut (of_decide_eq_true (by kernel_rfl)) Try.underlying4 rfl rfl hW' rfl rfl rfl hg⟩

theorem channelPlays_holds : Rows.ChannelPlaysSaid :=
  OpenClaim.holds_of_wide 4 Try.f4 rfl rfl rfl rfl rfl rfl rfl ⟨rfl, rfl, rfl, rfl, rfl⟩ rfl rfl rfl rfl rfl (by kernel_rfl) Try.func4 (by kernel_rfl)
    (of_decide_eq_true (by kernel_rfl)) (by unfold Func.isWrapper; first | (rw [if_pos (by decide +kernel)]; kernel_rfl) | (rw [if_neg (by decide +kernel)]; exact ⟨rfl, rfl⟩))
    (fun os started H enc _ => channelPlays_lifted os started H enc)
#print axioms channelPlays_holds
end Go.Proofs.Ytpfhnpmcfjfmiaa
