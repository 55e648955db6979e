/- The walk of WorstNumbersAreOrdered. -/
import Derived.Test.YtbilciiffecdgaaY1
import Derived.Test.YtbilciiffecdgaaPlA
namespace Go.Proofs.Ytbilciiffecdgaa
open Go.RowKit

theorem pop_arcs {E : List Nat} {L : List (List Arc)} (hok : PlS.spaceOk E L = true) (hL : WfL L) {n : Nat} : ∀ k, k < n → ∀ a ∈ L.getD k [], 1 ≤ Pl.pop a.1 := by
  intro k _ a ha
  by_cases hk : k < L.length
  · rw [getD_l [] hk] at ha
    obtain ⟨j, hj, rfl⟩ := List.getElem_of_mem ha
    exact Pl.pop_pos _ (by have := ((ok_row hok k hk).1 _ ha).1; omega) ((hL k hk).2 j hj)
  · rw [List.getD_eq_getElem?_getD, List.getElem?_eq_none (by omega)] at ha
    cases ha

set_option maxRecDepth 100000 in
set_option maxHeartbeats 4000000 in
theorem ord_law (w : World) (E : List Nat) (L : List (List Arc)) (v : Value) (hE : WfE E) (hV : WfV L) (hS : SpaceAt w w.heap.size v E L) (S : List Bool) (A : Option Addr) (c : Nat) (_hm : S.length ≤ 9223372036854775807)
    (hSr : Reads w w.heap.size 1 A S.length (S.map Value.bool)) :
    Calls Try.prog 7 #[v, .slice A S.length c] w fun e w' => e = .returned (.bool true) ∧ Below w.heap.size w w' := by
  have HS := Lib.hid hS
  obtain ⟨ve, va, rfl, ⟨Ae, ce, rfl, re⟩, ⟨Aa, ca, rows, rfl, ra, hk⟩⟩ := hS
  have HE := Lib.hid hE
  have HV := Lib.hid hV
  have SR := Lib.hid hSr
  clear hE hV re ra hk
  have HM0 := Lib.hid ((Mem.start w).new 25 #[.slice Ae E.length ce, .slice Aa L.length ca])
  by_cases h1 : FairP E L S
  · obtain ⟨hn, hSE, hLS, hok, -⟩ := fair_len h1
    have HL := Lib.hid (wfl_light HV.out h1.1)
    have H1 := Lib.hid h1
    have H0 := Lib.hid h1.2
    have HOK := Lib.hid hok
    have HEL := Lib.hid (show E.length ≤ 32768 by omega)
    have hn0 : 1 ≤ S.length := by have := (PlG.ok_parts hok).1; omega
    obtain ⟨sd, hA, -⟩ := hSr.2 (by omega)
    subst hA
    clear h1 hSE hLS hok hSr
    cases h2 : fewB E
    · have H2 := Lib.hid h2
      clear h2
      go_enter Try.func7, Try.ntmps7
      go_wp2_with fail
      refine (fair_yes E L _ HE.out HL.out S (some sd) c H1.out _ (HS.out.go HM0.out.bel) (SR.out.go HM0.out.bel)).mono ?_
      rintro e w1 ⟨rfl, hb1⟩
      have HM1 := Lib.hid (HM0.out.below hb1)
      obtain ⟨p0, p1, pf⟩ := blk2 (HM1.out.get 0 rfl).2
      clear hb1 HM0
      go_wp2_with fail
      refine (few_is E L _ HE.out HEL.out false H2.out _ (HS.out.go HM1.out.bel)).mono ?_
      rintro e w2 ⟨rfl, hb2⟩
      have HM2 := Lib.hid (HM1.out.below hb2)
      clear hb2 p0 p1 pf
      go_wp2_with fail
      refine (awake_any _).mono ?_
      rintro e w3 ⟨rfl, hb3⟩
      go_wp2
      go_ret
      exact ⟨rfl, (HM2.out.below hb3).bel⟩
    · have H2 := Lib.hid h2
      clear h2
      go_enter Try.func7, Try.ntmps7
      go_wp2_with fail
      refine (fair_yes E L _ HE.out HL.out S (some sd) c H1.out _ (HS.out.go HM0.out.bel) (SR.out.go HM0.out.bel)).mono ?_
      rintro e w1 ⟨rfl, hb1⟩
      have HM1 := Lib.hid (HM0.out.below hb1)
      obtain ⟨p0, p1, pf⟩ := blk2 (HM1.out.get 0 rfl).2
      clear hb1 HM0
      go_wp2_with fail
      refine (few_is E L _ HE.out HEL.out true H2.out _ (HS.out.go HM1.out.bel)).mono ?_
      rintro e w2 ⟨rfl, hb2⟩
      have HM2 := Lib.hid (HM1.out.below hb2)
      clear hb2 p0 p1 pf HM1
      obtain ⟨p0, p1, pf⟩ := blk2 (HM2.out.get 0 rfl).2
      go_wp2_with fail
      refine (wsteps_ok E L _ HE.out HL.out S (some sd) c H0.out _ (HS.out.go HM2.out.bel) (SR.out.go HM2.out.bel)).mono ?_
      rintro e w3 ⟨g1, f1, rfl, hg, bk, hv, hl, hr, hb3⟩
      have HM3 := Lib.hid (HM2.out.pushBlk hb3 hg bk)
      have HV1 := Lib.hid hv
      have HL1 := Lib.hid hl
      have HR := Lib.hid hr
      clear hb3 hg bk hv hl hr p0 p1 pf HM2
      obtain ⟨p0, p1, pf⟩ := blk2 (HM3.out.get 1 rfl).2
      go_wp2_with fail
      refine (wmoves_ok E L _ HE.out HL.out S (some sd) c H0.out _ (HS.out.go HM3.out.bel) (SR.out.go HM3.out.bel)).mono ?_
      rintro e w4 ⟨g2, f2, rfl, hg, bk, hv, hl, -, hb4⟩
      have HM4 := Lib.hid (HM3.out.pushBlk hb4 hg bk)
      have HV2 := Lib.hid hv
      have HL2 := Lib.hid hl
      clear hb4 hg bk hv hl p0 p1 pf HM3
      obtain ⟨p0, p1, pf⟩ := blk2 (HM4.out.get 2 rfl).2
      go_wp2_with fail
      refine (wrounds_ok E L _ HE.out HL.out S (some sd) c H0.out (fun k _ => few_at H2.out k) hn _ (HS.out.go HM4.out.bel) (SR.out.go HM4.out.bel)).mono ?_
      rintro e w5 ⟨g3, R, rfl, hg, bk, hv, hl, -, hb5⟩
      have HM5 := Lib.hid (HM4.out.pushBlk hb5 hg bk)
      have HV3 := Lib.hid hv
      have HL3 := Lib.hid hl
      clear hb5 hg bk hv hl p0 p1 pf HM4
      have HFA := Lib.hid (show ∀ k, k < S.length → (isIn S k = true → rnd E (isIn S) R k = 0 ∧ f1 k = 0 ∧ f2 k = 0) ∧ (isIn S k = false → 1 ≤ rnd E (isIn S) R k ∧ rnd E (isIn S) R k ≤ f1 k ∧ f1 k ≤ f2 k) from fun k hk => by
        obtain ⟨r, hr⟩ := HR.out
        exact PlL.rnd_facts hr (c := cOne) (d := cPop) (fun _ _ _ _ => Nat.le_refl 1) (pop_arcs HOK.out HL.out) HV3.out HV1.out HV2.out hk)
      generalize rnd E (isIn S) R = f3 at *
      go_wp2_with fail
      go_loopw [11] (fun i wr => ∃ k : Nat, k ≤ S.length ∧ i = .int .i64 k ∧ Mem w [cB w.heap.size g3 3 (nums S.length f3).toArray, cB w.heap.size g2 3 (nums S.length f2).toArray, cB w.heap.size g1 3 (nums S.length f1).toArray, cB w.heap.size w.heap.size 25 #[.slice Ae E.length ce, .slice Aa L.length ca]] wr) (fun i _ => S.length - (intOf i).toNat)
      case atStart => exact ⟨0, Nat.zero_le _, rfl, HM5.out⟩
      case round =>
        clear HM5
        obtain ⟨k, hk, rfl, hM⟩ := hrel
        have HM := Lib.hid hM
        by_cases hlt : k < S.length
        · obtain ⟨sd', hA, hbs, cS⟩ := bool_at (SR.out.below hM.bel) hlt
          obtain rfl : sd = sd' := by injection hA
          rw [← isIn_of hlt] at cS
          have c1 := num_at (hM.get 2 rfl).2 hlt
          have c2 := num_at (hM.get 1 rfl).2 hlt
          have c3 := num_at (hM.get 0 rfl).2 hlt
          obtain ⟨hfa, hfb⟩ := HFA.out k hlt
          have k0 : (0 : Int) ≤ (k : Int) := by omega
          have k1 : (k : Int) < (S.length : Int) := by omega
          clear hM hA
          cases hs : isIn S k
          · rw [hs] at cS
            obtain ⟨a1, a2, a3⟩ := hfb hs
            have b1 := HL1.out k hlt
            have b2 := HL2.out k hlt
            clear hfa hfb hs
            generalize f1 k = x1 at *
            generalize f2 k = x2 at *
            generalize f3 k = x3 at *
            have t1 : decide ((x1 : Int) < (x3 : Int)) = false := decide_eq_false (by omega)
            have t1' : decide (x1 < x3) = false := decide_eq_false (by omega)
            have t2 : decide ((x2 : Int) < (x1 : Int)) = false := decide_eq_false (by omega)
            have t2' : decide (x2 < x1) = false := decide_eq_false (by omega)
            have t3 : decide ((0 : Int) < (x3 : Int)) = true := decide_eq_true (by omega)
            have t3' : decide (0 < x3) = true := decide_eq_true (by omega)
            have t4 : decide ((0 : Int) < (x2 : Int)) = true := decide_eq_true (by omega)
            have t4' : decide (0 < x2) = true := decide_eq_true (by omega)
            go_upto_region 11 with fail
            go_quiet (fail)
            go_wp2
            exact ⟨⟨k + 1, by omega, by go_num, HM.out.drewN nq⟩, by simp [intOf]; omega⟩
          · rw [hs] at cS
            obtain ⟨a1, a2, a3⟩ := hfa hs
            rw [a2] at c1
            rw [a3] at c2
            rw [a1] at c3
            have d1 : wr.cell? ⟨g1, k, none⟩ = some (.int .i64 0) := c1
            have d2 : wr.cell? ⟨g2, k, none⟩ = some (.int .i64 0) := c2
            have d3 : wr.cell? ⟨g3, k, none⟩ = some (.int .i64 0) := c3
            clear hfa hfb hs a1 a2 a3 c1 c2 c3
            go_upto_region 11 with fail
            go_quiet (fail)
            go_wp2
            exact ⟨⟨k + 1, by omega, by go_num, HM.out.drewN nq⟩, by simp [intOf]; omega⟩
        · obtain rfl : k = S.length := by omega
          clear hM
          go_wp2_with fail
          refine (awake_any _).mono ?_
          rintro e w6 ⟨rfl, hb6⟩
          go_wp2
          go_ret
          exact ⟨rfl, (HM.out.below hb6).bel⟩
  · have H1 := Lib.hid h1
    clear h1
    go_enter Try.func7, Try.ntmps7
    go_wp2_with fail
    refine (fair_no E L _ HE.out HV.out S A c H1.out _ (HS.out.go HM0.out.bel) (SR.out.go HM0.out.bel)).mono ?_
    rintro e w1 ⟨rfl, hb1⟩
    have HM1 := Lib.hid (HM0.out.below hb1)
    clear hb1
    go_wp2_with fail
    refine (awake_any _).mono ?_
    rintro e w2 ⟨rfl, hb2⟩
    go_wp2
    go_ret
    exact ⟨rfl, (HM1.out.below hb2).bel⟩
end Go.Proofs.Ytbilciiffecdgaa
