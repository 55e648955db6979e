/- PROVED: TopRoundsServeEverybody returns true for every input, as a card whose listed table is tied to the program's text. No condition. -/
import Derived.Test.YtdfklagiafmoiaaGreatDoorG43
import Derived.Test.YtdfklagiafmoiaaGreatDoorGX
import Derived.Test.YtdfklagiafmoiaaGreatDoorG44
import Derived.Test.YtdfklagiafmoiaaGreatDoorG45
import Derived.Test.YtdfklagiafmoiaaGreatDoorCards
import Derived.Test.YtdfklagiafmoiaaGreatDoorTie
import Derived.SevenTiedAt
namespace Go.Proofs.YtdfklagiafmoiaaGreatDoor
open Go.ChangeShapes Go.WideShapes Go.ChangeAt Go.RowKit Go.Joins Go.Deep

theorem trodAll_five {H : Type} {enc : TypeId × Value → H} {P : Program} {w : World} {base : Nat} {spare : Nat → Bool} {held : Bool} {t t' t'' t3 t4 : TypeId} {args : Array Value} {ds : List (DataW H)} {ps : List MemPlace} (h : DataW.TrodAll enc P w base spare held [t, t', t'', t3, t4] args.toList ds ps) :
    ∃ v v' v'' v3 v4 d d' d'' d3 d4 p p' p'' p3 p4, args = #[v, v', v'', v3, v4] ∧ ds = [d, d', d'', d3, d4] ∧ ps = p ++ (p' ++ (p'' ++ (p3 ++ p4))) ∧
      DataW.Trod enc P w base spare held t v d p ∧ DataW.Trod enc P w base spare held t' v' d' p' ∧ DataW.Trod enc P w base spare held t'' v'' d'' p'' ∧ DataW.Trod enc P w base spare held t3 v3 d3 p3 ∧ DataW.Trod enc P w base spare held t4 v4 d4 p4 := by
  obtain ⟨v, vs, d, ds1, p, q, hargs, rfl, rfl, hd, hr⟩ := trodAll_cons h
  obtain ⟨v1, vs1, d1, ds2, p1, q1, rfl, rfl, rfl, hd1, hr1⟩ := trodAll_cons hr
  obtain ⟨v2, vs2, d2, ds3, p2, q2, rfl, rfl, rfl, hd2, hr2⟩ := trodAll_cons hr1
  obtain ⟨v3, vs3, d3, ds4, p3, q3, rfl, rfl, rfl, hd3, hr3⟩ := trodAll_cons hr2
  obtain ⟨v4, vs4, d4, ds5, p4, q4, rfl, rfl, rfl, hd4, hr4⟩ := trodAll_cons hr3
  obtain ⟨rfl, rfl, rfl⟩ := trodAll_nil hr4
  exact ⟨v, v1, v2, v3, v4, d, d1, d2, d3, d4, p, p1, p2, p3, p4, by cases args; simp_all, rfl, by simp, hd, hd1, hd2, hd3, hd4⟩
set_option maxRecDepth 100000 in
theorem topRS_lifted (os : Os) (started : os.Started) (H : Type) (enc : TypeId × Value → H) :
    ReturnsInHanded {} Tryz.checked os 4 .any (fun w args => (Rows.topRoundsServeEverybodySpec.pre enc Tryz.prog Tryz.f4 [] false w args ∧ laidMetH Tryz.prog tzLaid w) ∧ sizedMet enc Tryz.prog Tryz.f4 (OpenSpec.ofChange Rows.topRoundsServeEverybodySpec) false w args)
      (Rows.topRoundsServeEverybodySpec.post enc Tryz.prog Tryz.f4 false true false false) := by
  refine returnsInHanded_of_change_and (C := Tryz.checked) (X := fun w _ => laidMetH Tryz.prog tzLaid w) (fun _ _ _ hh h => h.of_heap hh) pb_own started (by kernel_rfl) Tryz.func4
    (ChangeSpec.witness_shaped (enc := enc) (C := Tryz.checked) (os := os) (X := fun w _ => laidMetH Tryz.prog tzLaid w) false (World.doorLaid Tryz.prog 400 os) #[.agg #[.string ⟨#[]⟩, .slice none 0 0, .slice none 0 0], .agg #[.slice none 0 0, .slice none 0 0], .int .i64 0, .slice none 0 0, .slice none 0 0] 8 rfl (World.shaped_of_RefB (by kernel_rfl) (by kernel_rfl)) (by kernel_rfl) (by kernel_rfl) (by kernel_rfl) (tz_met os _)) ?_
  intro W base args ds gs before hval0 hW _ _ hL _
  have hval : ∀ (j : Nat) t v, Tryz.f4.params[j]? = some t → args[j]? = some v → Value.okWide Tryz.prog W .any base t v := hval0
  have hW' := hW
  obtain ⟨p, q, hA0, hV, rfl, hfz, hnd⟩ := hW
  have hA : DataW.TrodAll enc Tryz.prog W 0 (fun _ => true) true Tryz.f4.params.toList args.toList ds p := hA0
  rw [Tryz.params4] at hA hval
  obtain ⟨v0, v1, v4, v2, v3, d0, d1, d4, d2, d3, p0, p1, p4, p2, p3, rfl, rfl, rfl, h0, h1, h4, h2, h3⟩ := trodAll_five hA
  obtain ⟨rfl, rfl⟩ := trodVars_none hV
  obtain ⟨pg, hP⟩ := open_prog (hval 0 25 v0 rfl rfl) h0
  obtain ⟨gr, hG, hg1, hg2⟩ := open_graph (hval 1 29 v1 rfl rfl) h1
  obtain ⟨kd, rfl, rfl, rfl, wk⟩ := open_int Tryz.underlying3 (hval 2 3 v4 rfl rfl) h4
  obtain ⟨fu2, hf2⟩ := h2
  obtain ⟨fu3, hf3⟩ := h3
  obtain ⟨A2, l2, c2, rfl⟩ := okWide_slice Tryz.underlying30 (hval 3 30 v2 rfl rfl)
  obtain ⟨A3, l3, c3, rfl⟩ := okWide_slice Tryz.underlying31 (hval 4 31 v3 rfl rfl)
  obtain ⟨cf, hC, hcm⟩ := open_conf hf2
  obtain ⟨ws, hU, hum, huw⟩ := open_u32L hf3
  obtain ⟨A2', c2', e2⟩ := ListAt.sl hC
  injection e2 with e20 e21 e22
  subst e20 e21 e22
  obtain ⟨A3', c3', e3⟩ := ListAt.sl hU
  injection e3 with e30 e31 e32
  subst e30 e31 e32
  have htz := tz_of_laid hL
  clear hA0 hval0
  simp only [List.append_nil] at hW'
  unfold maxLen at hg1 hg2 hcm hum
  refine (ts_law awake_ok pg gr cf ⟨by omega, by omega⟩ (by omega) ws huw (by omega) kd (i64_wf wk) v0 v1 A2 c2 A3 c3 W htz hP hG hC hU).mono fun e W' ⟨he, hg⟩ => ?_
  subst he
  exact ⟨_, rfl, post_below pb_laidOut (of_decide_eq_true (by kernel_rfl)) Tryz.underlying4 rfl rfl hW' rfl rfl rfl hg⟩

theorem topRoundsServeEverybody_said : Rows.TopRoundsServeEverybodySaid :=
  OpenClaim.holds_of_wide 4 Tryz.f4 rfl rfl rfl rfl rfl rfl rfl ⟨rfl, rfl, rfl, rfl, rfl⟩ rfl rfl rfl rfl rfl (by kernel_rfl) Tryz.func4 (by kernel_rfl)
    (of_decide_eq_true (by kernel_rfl)) (by unfold Func.isWrapper; first | (rw [if_pos (by decide +kernel)]; kernel_rfl) | (rw [if_neg (by decide +kernel)]; exact ⟨rfl, rfl⟩))
    (fun os started H enc _ => topRS_lifted os started H enc)
theorem topRS_params (t : TypeId) (j : Nat) (h : Tryz.f4.params[j]? = some t) : Tryz.prog.wantsStandIn t = false := by
  rw [Tryz.params4] at h
  rcases j with _ | _ | _ | _ | _ | j
  · obtain rfl : t = 25 := by simpa using h.symm
    kernel_rfl
  · obtain rfl : t = 29 := by simpa using h.symm
    kernel_rfl
  · obtain rfl : t = 3 := by simpa using h.symm
    kernel_rfl
  · obtain rfl : t = 30 := by simpa using h.symm
    kernel_rfl
  · obtain rfl : t = 31 := by simpa using h.symm
    kernel_rfl
  · simp at h
theorem topRoundsServeEverybody_holds : Rows.TopRoundsServeEverybodyCardSaid :=
  Claim7.holds_tied_plain_at .later [] [.data] true (true, "3c2d9a79006b218183a29d602de018e1cd5eaae6a831a921bdb4bb1988a4ba37") true
    topRoundsServeEverybody_said (fun _ h => by cases h) (by kernel_rfl) (fun _ h => by cases h) topRoundsServeEverybody_row_tie rfl ⟨rfl, rfl⟩ (by kernel_rfl) rfl
    (fun f fn hf hfn => by
      obtain rfl : f = 4 := Option.some.inj ((show Tryz.prog.funcNamed "selfstab/selfstabtop.TopRoundsServeEverybody" = some 4 by kernel_rfl).symm.trans hf) |>.symm
      obtain rfl : fn = Tryz.f4 := (Option.some.inj (Tryz.func4.symm.trans hfn)).symm
      exact ⟨by kernel_rfl, fun j t ht => topRS_params t j ht⟩)
    (by kernel_rfl)
#print axioms topRoundsServeEverybody_holds
end Go.Proofs.YtdfklagiafmoiaaGreatDoor
