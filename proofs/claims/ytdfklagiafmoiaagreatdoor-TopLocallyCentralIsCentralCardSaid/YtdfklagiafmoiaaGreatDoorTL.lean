/- PROVED: TopLocallyCentralIsCentral returns true for every input, as a card whose listed table is tied to the program's text. No condition. -/
import Derived.Test.YtdfklagiafmoiaaGreatDoorG43
import Derived.Test.YtdfklagiafmoiaaGreatDoorG44
import Derived.Test.YtdfklagiafmoiaaGreatDoorG45
import Derived.Test.YtdfklagiafmoiaaGreatDoorCards
import Derived.Test.YtdfklagiafmoiaaGreatDoorTie
import Derived.SevenTiedAt
namespace Go.Proofs.YtdfklagiafmoiaaGreatDoor
open Go.ChangeShapes Go.WideShapes Go.ChangeAt Go.RowKit Go.Joins Go.Deep

set_option maxRecDepth 100000 in
theorem topLC_lifted (os : Os) (started : os.Started) (H : Type) (enc : TypeId × Value → H) :
    ReturnsInHanded {} Tryz.checked os 3 .any (fun w args => (Rows.topLocallyCentralIsCentralSpec.pre enc Tryz.prog Tryz.f3 [] false w args ∧ laidMetH Tryz.prog tzLaid w) ∧ sizedMet enc Tryz.prog Tryz.f3 (OpenSpec.ofChange Rows.topLocallyCentralIsCentralSpec) false w args)
      (Rows.topLocallyCentralIsCentralSpec.post enc Tryz.prog Tryz.f3 false true false false) := by
  refine returnsInHanded_of_change_and (C := Tryz.checked) (X := fun w _ => laidMetH Tryz.prog tzLaid w) (fun _ _ _ hh h => h.of_heap hh) pb_own started (by kernel_rfl) Tryz.func3
    (ChangeSpec.witness_shaped (enc := enc) (C := Tryz.checked) (os := os) (X := fun w _ => laidMetH Tryz.prog tzLaid w) false (World.doorLaid Tryz.prog 400 os) #[.agg #[.string ⟨#[]⟩, .slice none 0 0, .slice none 0 0], .agg #[.slice none 0 0, .slice none 0 0], .slice none 0 0, .slice none 0 0] 8 rfl (World.shaped_of_RefB (by kernel_rfl) (by kernel_rfl)) (by kernel_rfl) (by kernel_rfl) (by kernel_rfl) (tz_met os _)) ?_
  intro W base args ds gs before hval0 hW _ _ hL _
  have hval : ∀ (j : Nat) t v, Tryz.f3.params[j]? = some t → args[j]? = some v → Value.okWide Tryz.prog W .any base t v := hval0
  have hW' := hW
  obtain ⟨p, q, hA0, hV, rfl, hfz, hnd⟩ := hW
  have hA : DataW.TrodAll enc Tryz.prog W 0 (fun _ => true) true Tryz.f3.params.toList args.toList ds p := hA0
  rw [Tryz.params3] at hA hval
  obtain ⟨v0, v1, v2, v3, d0, d1, d2, d3, p0, p1, p2, p3, rfl, rfl, rfl, h0, h1, h2, h3⟩ := trodAll_four hA
  obtain ⟨rfl, rfl⟩ := trodVars_none hV
  obtain ⟨pg, hP⟩ := open_prog (hval 0 25 v0 rfl rfl) h0
  obtain ⟨gr, hG, hg1, hg2⟩ := open_graph (hval 1 29 v1 rfl rfl) h1
  obtain ⟨fu2, hf2⟩ := h2
  obtain ⟨fu3, hf3⟩ := h3
  obtain ⟨A2, l2, c2, rfl⟩ := okWide_slice Tryz.underlying30 (hval 2 30 v2 rfl rfl)
  obtain ⟨A3, l3, c3, rfl⟩ := okWide_slice Tryz.underlying31 (hval 3 31 v3 rfl rfl)
  obtain ⟨cf, hC, hcm⟩ := open_conf hf2
  obtain ⟨ws, hU, hum, huw⟩ := open_u32L hf3
  obtain ⟨A2', c2', e2⟩ := ListAt.sl hC
  injection e2 with e20 e21 e22
  subst e20 e21 e22
  obtain ⟨A3', c3', e3⟩ := ListAt.sl hU
  injection e3 with e30 e31 e32
  subst e30 e31 e32
  have htz := tz_of_laid hL
  clear hA0 hval0
  simp only [List.append_nil] at hW'
  unfold maxLen at hg1 hg2 hcm hum
  refine (lc_law awake_ok pg gr cf ⟨by omega, by omega⟩ (by omega) ws huw (by omega) v0 v1 A2 c2 A3 c3 W htz hP hG hC hU).mono fun e W' ⟨he, hg⟩ => ?_
  subst he
  exact ⟨_, rfl, post_below pb_laidOut (of_decide_eq_true (by kernel_rfl)) Tryz.underlying4 rfl rfl hW' rfl rfl rfl hg⟩

theorem topLocallyCentralIsCentral_said : Rows.TopLocallyCentralIsCentralSaid :=
  OpenClaim.holds_of_wide 3 Tryz.f3 rfl rfl rfl rfl rfl rfl rfl ⟨rfl, rfl, rfl, rfl, rfl⟩ rfl rfl rfl rfl rfl (by kernel_rfl) Tryz.func3 (by kernel_rfl)
    (of_decide_eq_true (by kernel_rfl)) (by unfold Func.isWrapper; first | (rw [if_pos (by decide +kernel)]; kernel_rfl) | (rw [if_neg (by decide +kernel)]; exact ⟨rfl, rfl⟩))
    (fun os started H enc _ => topLC_lifted os started H enc)
theorem topLC_params (t : TypeId) (j : Nat) (h : Tryz.f3.params[j]? = some t) : Tryz.prog.wantsStandIn t = false := by
  rw [Tryz.params3] at h
  rcases j with _ | _ | _ | _ | j
  · obtain rfl : t = 25 := by simpa using h.symm
    kernel_rfl
  · obtain rfl : t = 29 := by simpa using h.symm
    kernel_rfl
  · obtain rfl : t = 30 := by simpa using h.symm
    kernel_rfl
  · obtain rfl : t = 31 := by simpa using h.symm
    kernel_rfl
  · simp at h
theorem topLocallyCentralIsCentral_holds : Rows.TopLocallyCentralIsCentralCardSaid :=
  Claim7.holds_tied_plain_at .later [] [.data] true (true, "3c2d9a79006b218183a29d602de018e1cd5eaae6a831a921bdb4bb1988a4ba37") true
    topLocallyCentralIsCentral_said (fun _ h => by cases h) (by kernel_rfl) (fun _ h => by cases h) topLocallyCentralIsCentral_row_tie rfl ⟨rfl, rfl⟩ (by kernel_rfl) rfl
    (fun f fn hf hfn => by
      obtain rfl : f = 3 := Option.some.inj ((show Tryz.prog.funcNamed "selfstab/selfstabtop.TopLocallyCentralIsCentral" = some 3 by kernel_rfl).symm.trans hf) |>.symm
      obtain rfl : fn = Tryz.f3 := (Option.some.inj (Tryz.func3.symm.trans hfn)).symm
      exact ⟨by kernel_rfl, fun j t ht => topLC_params t j ht⟩)
    (by kernel_rfl)
#print axioms topLocallyCentralIsCentral_holds
end Go.Proofs.YtdfklagiafmoiaaGreatDoor
