/- The walk of WorstNeedsConvergence. -/
import Derived.Test.YtbilciiffecdgaaX3
import Derived.Test.YtbilciiffecdgaaN4a
namespace Go.Proofs.Ytbilciiffecdgaa
open Go.RowKit

set_option maxRecDepth 100000 in
set_option maxHeartbeats 4000000 in
theorem needs_law (w : World) (E : List Nat) (L : List (List Arc)) (v : Value) (hE : WfE E) (hV : WfV L) (hS : SpaceAt w w.heap.size v E L) (S : List Bool) (A : Option Addr) (c : Nat) (_hm : S.length ≤ 9223372036854775807)
    (hSr : Reads w w.heap.size 1 A S.length (S.map Value.bool)) (x : Int) (hx : -9223372036854775808 ≤ x ∧ x ≤ 9223372036854775807) :
    Calls Try.prog 9 #[v, .slice A S.length c, .int .i64 x] w fun e w' => e = .returned (.bool true) ∧ Below w.heap.size w w' := by
  have HS := Lib.hid hS
  obtain ⟨ve, va, rfl, ⟨Ae, ce, rfl, re⟩, ⟨Aa, ca, rows, rfl, ra, hk⟩⟩ := hS
  have HE := Lib.hid hE
  have HV := Lib.hid hV
  have SR := Lib.hid hSr
  clear hE hV re ra hk hSr
  have HM0 := Lib.hid ((Mem.start w).new 25 #[.slice Ae E.length ce, .slice Aa L.length ca])
  cases h1 : lightB E L S.length
  · have H1 := Lib.hid h1
    clear h1
    go_enter Try.func9, Try.ntmps9
    go_wp2_with fail
    refine (light_is E L _ A S.length c false H1.out _ (HS.out.go HM0.out.bel)).mono ?_
    rintro e w1 ⟨rfl, hb1⟩
    have HM1 := Lib.hid (HM0.out.below hb1)
    clear hb1
    go_wp2_with fail
    refine (awake_any _).mono ?_
    rintro e w2 ⟨rfl, hb2⟩
    go_wp2
    go_ret
    exact ⟨rfl, (HM1.out.below hb2).bel⟩
  · have H1 := Lib.hid h1
    have HL := Lib.hid (wfl_light HV.out h1)
    have hEl : E.length ≤ 120 := (light_parts h1).1
    have HEL := Lib.hid (show E.length ≤ 32768 by omega)
    clear h1
    cases h2 : fewB E
    · have H2 := Lib.hid h2
      clear h2
      go_enter Try.func9, Try.ntmps9
      go_wp2_with fail
      refine (light_is E L _ A S.length c true H1.out _ (HS.out.go HM0.out.bel)).mono ?_
      rintro e w1 ⟨rfl, hb1⟩
      have HM1 := Lib.hid (HM0.out.below hb1)
      obtain ⟨p0, p1, pf⟩ := blk2 (HM1.out.get 0 rfl).2
      clear hb1
      go_wp2_with fail
      refine (few_is E L _ HE.out HEL.out false H2.out _ (HS.out.go HM1.out.bel)).mono ?_
      rintro e w2 ⟨rfl, hb2⟩
      have HM2 := Lib.hid (HM1.out.below hb2)
      clear hb2 p0 p1 pf
      go_wp2_with fail
      refine (awake_any _).mono ?_
      rintro e w3 ⟨rfl, hb3⟩
      go_wp2
      go_ret
      exact ⟨rfl, (HM2.out.below hb3).bel⟩
    · have H2 := Lib.hid h2
      clear h2
      cases h3 : PlS.spaceOk E L
      · have H3 := Lib.hid h3
        clear h3
        go_enter Try.func9, Try.ntmps9
        go_wp2_with fail
        refine (light_is E L _ A S.length c true H1.out _ (HS.out.go HM0.out.bel)).mono ?_
        rintro e w1 ⟨rfl, hb1⟩
        have HM1 := Lib.hid (HM0.out.below hb1)
        obtain ⟨p0, p1, pf⟩ := blk2 (HM1.out.get 0 rfl).2
        clear hb1
        go_wp2_with fail
        refine (few_is E L _ HE.out HEL.out true H2.out _ (HS.out.go HM1.out.bel)).mono ?_
        rintro e w2 ⟨rfl, hb2⟩
        have HM2 := Lib.hid (HM1.out.below hb2)
        clear hb2 p0 p1 pf
        obtain ⟨p0, p1, pf⟩ := blk2 (HM2.out.get 0 rfl).2
        go_wp2_with fail
        refine (rvalid_is E L _ HE.out HL.out false H3.out _ (HS.out.go HM2.out.bel)).mono ?_
        rintro e w3 ⟨rfl, hb3⟩
        have HM3 := Lib.hid (HM2.out.below hb3)
        clear hb3 p0 p1 pf
        go_wp2_with fail
        refine (awake_any _).mono ?_
        rintro e w4 ⟨rfl, hb4⟩
        go_wp2
        go_ret
        exact ⟨rfl, (HM3.out.below hb4).bel⟩
      · have H3 := Lib.hid h3
        obtain ⟨hn1, hn2, hn3, hto⟩ := PlG.ok_parts h3
        clear h3 hn2 hn3 hto
        by_cases h4 : S.length = E.length
        · have H4 := Lib.hid h4
          have t2 : ((S.length : Int) != (E.length : Int)) = false := by simp [h4]
          have hn : S.length ≤ 120 := by omega
          have hn0 : 1 ≤ S.length := by omega
          clear h4 hEl hn1
          go_enter Try.func9, Try.ntmps9
          go_wp2_with fail
          refine (light_is E L _ A S.length c true H1.out _ (HS.out.go HM0.out.bel)).mono ?_
          rintro e w1 ⟨rfl, hb1⟩
          have HM1 := Lib.hid (HM0.out.below hb1)
          obtain ⟨p0, p1, pf⟩ := blk2 (HM1.out.get 0 rfl).2
          clear hb1
          go_wp2_with fail
          refine (few_is E L _ HE.out HEL.out true H2.out _ (HS.out.go HM1.out.bel)).mono ?_
          rintro e w2 ⟨rfl, hb2⟩
          have HM2 := Lib.hid (HM1.out.below hb2)
          clear hb2 p0 p1 pf
          obtain ⟨p0, p1, pf⟩ := blk2 (HM2.out.get 0 rfl).2
          go_wp2_with fail
          refine (rvalid_is E L _ HE.out HL.out true H3.out _ (HS.out.go HM2.out.bel)).mono ?_
          rintro e w3 ⟨rfl, hb3⟩
          have HM3 := Lib.hid (HM2.out.below hb3)
          clear hb3 p0 p1 pf
          obtain ⟨p0, p1, pf⟩ := blk2 (HM3.out.get 0 rfl).2
          go_wp2_with fail
          refine (rcore_ok E L _ HE.out HL.out H3.out S H4.out A c _ (HS.out.go HM3.out.bel) (SR.out.go HM3.out.bel)).mono ?_
          rintro e w4 ⟨vm, f, rfl, ho, hf, hb4⟩
          obtain ⟨Am, cm, rfl⟩ := own_sl ho
          have HM4 := Lib.hid (HM3.out.below hb4)
          obtain ⟨b, hb⟩ : ∃ b : Bool, (marks S.length f).any id = b := ⟨_, rfl⟩
          have HAB := Lib.hid hb
          have HW := Lib.hid (show wchk E L S = if b = true then 14 else 0 from by
            cases b
            · exact wchk_ok H3.out H4.out ((conv_marks hf).1 hb)
            · refine wchk_cyc H3.out H4.out fun hc => ?_
              rw [(conv_marks hf).2 hc] at hb
              cases hb)
          have RM := Lib.hid (Reads.of_own ho)
          clear ho hf hb4 hb p0 p1 pf
          obtain ⟨p0, p1, pf⟩ := blk2 (HM4.out.get 0 rfl).2
          go_wp2_with fail
          refine (rany_is (marks S.length f) S.length (marks_len _ _) (by omega) _ HAB.out Am cm _ _ RM.out).mono ?_
          rintro e w5 ⟨rfl, rfl⟩
          cases b
          all_goals
            simp only [Bool.false_eq_true, if_true, if_false] at HW
            clear RM HAB
            go_wp2_with fail
            refine (wsteps_z E L _ HE.out HL.out S A c _ HW.out _ (HS.out.go HM4.out.bel) (SR.out.go HM4.out.bel)).mono ?_
            rintro e w6 ⟨v1, rfl, hb5⟩
            have HM5 := Lib.hid (HM4.out.below hb5)
            clear hb5 p0 p1 pf
            obtain ⟨p0, p1, pf⟩ := blk2 (HM5.out.get 0 rfl).2
            go_wp2_with fail
            refine (wmoves_z E L _ HE.out HL.out S A c _ HW.out _ (HS.out.go HM5.out.bel) (SR.out.go HM5.out.bel)).mono ?_
            rintro e w7 ⟨v2, rfl, hb6⟩
            have HM6 := Lib.hid (HM5.out.below hb6)
            clear hb6 p0 p1 pf
            obtain ⟨p0, p1, pf⟩ := blk2 (HM6.out.get 0 rfl).2
            go_wp2_with fail
            refine (wrounds_z E L _ HE.out HL.out S A c _ HW.out H2.out hn _ (HS.out.go HM6.out.bel) (SR.out.go HM6.out.bel)).mono ?_
            rintro e w8 ⟨v3, rfl, hb7⟩
            have HM7 := Lib.hid (HM6.out.below hb7)
            clear hb7 p0 p1 pf
            obtain ⟨p0, p1, pf⟩ := blk2 (HM7.out.get 0 rfl).2
            have lsp := (HM7.out.get 0 rfl).2.lt
            have hmod := Int.emod_nonneg x (show (S.length : Int) ≠ 0 by omega)
            have hmod2 := Int.emod_lt_of_pos x (show (0 : Int) < (S.length : Int) by omega)
            have HXX := Lib.hid hx
            have rule := below_rule w8
            have SR8 := Lib.hid (SR.out.go HM7.out.bel)
            have HS8 := Lib.hid (HS.out.go HM7.out.bel)
            clear hx
            go_upto_region 10 with fail
            go_region_held3 (fun X => Below w8.heap.size w8 X) (first | exact Below.refl _ _ | exact Below.drew (Below.refl _ _) | assumption | exact below_step (by assumption) (by assumption))
              (first
                | (go_at_call 26; (with_reducible refine (mod_any x (S.length : Int) HXX.out (by omega) (by omega) _).mono ?_); rintro e w' ⟨rfl, rfl⟩)
                | (go_at_call 21; (with_reducible refine (wsched_z E L _ HE.out HL.out S A c (x % (S.length : Int)) ⟨hmod, hmod2⟩ _ HW.out _ ?_ ?_).mono ?_); (exact HS8.out.go (by first | exact Below.refl _ _ | exact Below.drew (Below.refl _ _) | assumption | exact Below.drew (by assumption))); (exact SR8.out.go (by first | exact Below.refl _ _ | exact Below.drew (Below.refl _ _) | assumption | exact Below.drew (by assumption))); rintro e u1 ⟨v4, rfl, hu1⟩))
            go_wp2_with fail
            refine (awake_any _).mono ?_
            rintro e w9 ⟨rfl, hb9⟩
            go_wp2
            go_ret
            refine ⟨rfl, below_end hb9 (below_end ?_ HM7.out.bel)⟩
            first | assumption | exact Below.drew (by assumption) | exact below_step (by assumption) (by assumption)
        · have t2 : ((S.length : Int) != (E.length : Int)) = true := by rw [bne_iff_ne]; omega
          clear h4 hn1 hEl
          go_enter Try.func9, Try.ntmps9
          go_wp2_with fail
          refine (light_is E L _ A S.length c true H1.out _ (HS.out.go HM0.out.bel)).mono ?_
          rintro e w1 ⟨rfl, hb1⟩
          have HM1 := Lib.hid (HM0.out.below hb1)
          obtain ⟨p0, p1, pf⟩ := blk2 (HM1.out.get 0 rfl).2
          clear hb1
          go_wp2_with fail
          refine (few_is E L _ HE.out HEL.out true H2.out _ (HS.out.go HM1.out.bel)).mono ?_
          rintro e w2 ⟨rfl, hb2⟩
          have HM2 := Lib.hid (HM1.out.below hb2)
          clear hb2 p0 p1 pf
          obtain ⟨p0, p1, pf⟩ := blk2 (HM2.out.get 0 rfl).2
          go_wp2_with fail
          refine (rvalid_is E L _ HE.out HL.out true H3.out _ (HS.out.go HM2.out.bel)).mono ?_
          rintro e w3 ⟨rfl, hb3⟩
          have HM3 := Lib.hid (HM2.out.below hb3)
          clear hb3 p0 p1 pf
          obtain ⟨p0, p1, pf⟩ := blk2 (HM3.out.get 0 rfl).2
          go_wp2_with fail
          refine (awake_any _).mono ?_
          rintro e w4 ⟨rfl, hb4⟩
          go_wp2
          go_ret
          exact ⟨rfl, (HM3.out.below hb4).bel⟩
end Go.Proofs.Ytbilciiffecdgaa
