/- The walk of WorstIsRecursive. -/
import Derived.Test.YtbilciiffecdgaaX2
namespace Go.Proofs.Ytbilciiffecdgaa
open Go.RowKit

theorem fair_len {E : List Nat} {L : List (List Arc)} {S : List Bool} (h : FairP E L S) : S.length ≤ 120 ∧ S.length = E.length ∧ L.length = S.length ∧ PlS.spaceOk E L = true ∧ Conv L S := by
  obtain ⟨h1, h2, h3⟩ := wchk_zero h.2
  have := (light_parts h.1).1
  have := (PlG.ok_parts h1).2.2.1
  exact ⟨by omega, h2, by omega, h1, h3⟩

set_option maxRecDepth 100000 in
set_option maxHeartbeats 4000000 in
theorem rec_law (w : World) (E : List Nat) (L : List (List Arc)) (v : Value) (hE : WfE E) (hV : WfV L) (hS : SpaceAt w w.heap.size v E L) (S : List Bool) (A : Option Addr) (c : Nat) (_hm : S.length ≤ 9223372036854775807)
    (hSr : Reads w w.heap.size 1 A S.length (S.map Value.bool)) :
    Calls Try.prog 6 #[v, .slice A S.length c] w fun e w' => e = .returned (.bool true) ∧ Below w.heap.size w w' := by
  have HS := Lib.hid hS
  obtain ⟨ve, va, rfl, ⟨Ae, ce, rfl, re⟩, ⟨Aa, ca, rows, rfl, ra, hk⟩⟩ := hS
  have HE := Lib.hid hE
  have HV := Lib.hid hV
  have SR := Lib.hid hSr
  have RA := Lib.hid ra
  have HK := Lib.hid hk
  clear hE hV re
  have HM0 := Lib.hid ((Mem.start w).new 25 #[.slice Ae E.length ce, .slice Aa L.length ca])
  by_cases h1 : FairP E L S
  · obtain ⟨hn, hSE, hLS, hok, -⟩ := fair_len h1
    obtain ⟨hn1, hn2, hn3, hto⟩ := PlG.ok_parts hok
    have HL := Lib.hid (wfl_light HV.out h1.1)
    have H1 := Lib.hid h1
    have H0 := Lib.hid h1.2
    obtain ⟨ad, hA, -⟩ := ra.2 (by omega)
    subst hA
    obtain ⟨sd, hA, -⟩ := hSr.2 (by omega)
    subst hA
    have HLL := Lib.hid hLS
    have HTO := Lib.hid (show ∀ k (hk : k < L.length), ∀ x ∈ L[k], 0 ≤ x.2 ∧ x.2 < (S.length : Int) from fun k hk x hx => by have := hto k hk x hx; omega)
    clear h1 hSE hLS hok hn1 hn2 hn3 hto ra hk hSr
    go_enter Try.func6, Try.ntmps6
    go_wp2_with fail
    refine (fair_yes E L _ HE.out HL.out S (some sd) c H1.out _ (HS.out.go HM0.out.bel) (SR.out.go HM0.out.bel)).mono ?_
    rintro e w1 ⟨rfl, hb1⟩
    have HM1 := Lib.hid (HM0.out.below hb1)
    obtain ⟨p0, p1, pf⟩ := blk2 (HM1.out.get 0 rfl).2
    clear hb1 HM0
    go_wp2_with fail
    refine (wsteps_ok E L _ HE.out HL.out S (some sd) c H0.out _ (HS.out.go HM1.out.bel) (SR.out.go HM1.out.bel)).mono ?_
    rintro e w2 ⟨g1, f1, rfl, hg, bk, hv, hl, -, hb2⟩
    have HM2 := Lib.hid (HM1.out.pushBlk hb2 hg bk)
    have HV1 := Lib.hid hv
    have HL1 := Lib.hid hl
    clear hb2 hg bk hv hl p0 p1 pf HM1
    obtain ⟨p0, p1, pf⟩ := blk2 (HM2.out.get 1 rfl).2
    go_wp2_with fail
    refine (wmoves_ok E L _ HE.out HL.out S (some sd) c H0.out _ (HS.out.go HM2.out.bel) (SR.out.go HM2.out.bel)).mono ?_
    rintro e w3 ⟨g2, f2, rfl, hg, bk, hv, hl, -, hb3⟩
    have HM3 := Lib.hid (HM2.out.pushBlk hb3 hg bk)
    have HV2 := Lib.hid hv
    have HL2 := Lib.hid hl
    clear hb3 hg bk hv hl p0 p1 pf HM2
    go_wp2_with fail
    go_loopw [9] (fun i wr => ∃ k : Nat, k ≤ S.length ∧ i = .int .i64 k ∧ Mem w [cB w.heap.size g2 3 (nums S.length f2).toArray, cB w.heap.size g1 3 (nums S.length f1).toArray, cB w.heap.size w.heap.size 25 #[.slice Ae E.length ce, .slice (some ad) L.length ca]] wr) (fun i _ => S.length - (intOf i).toNat)
    case atStart => exact ⟨0, Nat.zero_le _, rfl, HM3.out⟩
    case round =>
      clear HM3
      obtain ⟨k, hk, rfl, hM⟩ := hrel
      have HM := Lib.hid hM
      by_cases hlt : k < S.length
      · have hkL : k < L.length := by have := HLL.out; omega
        have HLS := Lib.hid (HL.out k hkL).2
        have hll := (HL.out k hkL).1
        have HTS := Lib.hid (HTO.out k hkL)
        have hv1 := HV1.out k hlt
        have hv2 := HV2.out k hlt
        rw [getD_l [] hkL] at hv1 hv2
        have HX1 := Lib.hid hv1
        have HX2 := Lib.hid hv2
        have HROW := Lib.hid (fun (X : World) (hX : Below w.heap.size w X) => row_at (RA.out.below hX) (fun k l hl => let ⟨u, hu, ha⟩ := HK.out k l hl; (⟨u, hu, ha.below hX⟩ : ∃ u, rows[k]? = some u ∧ ArcsAt X w.heap.size u l)) hkL)
        generalize L[k] = l at *
        have k0 : (0 : Int) ≤ (k : Int) := by omega
        have k1 : (k : Int) < (S.length : Int) := by omega
        have k2 : (k : Int) < (L.length : Int) := by omega
        clear hM hv1 hv2
        go_wp2_with fail
        go_loopw [10, 11, 12] (fun x y i wr => ∃ j : Nat, j ≤ l.length ∧ (isIn S k = true → j = 0) ∧ i = .int .i64 j ∧ x = .int .i64 (PlL.mx cOne f1 (l.take j) : Int) ∧ y = .int .i64 (PlL.mx cPop f2 (l.take j) : Int) ∧ Mem w [cB w.heap.size g2 3 (nums S.length f2).toArray, cB w.heap.size g1 3 (nums S.length f1).toArray, cB w.heap.size w.heap.size 25 #[.slice Ae E.length ce, .slice (some ad) L.length ca]] wr) (fun _ _ i _ => l.length - (intOf i).toNat)
        case atStart => exact ⟨0, Nat.zero_le _, fun _ => rfl, rfl, rfl, rfl, HM.out⟩
        case round =>
          clear HM
          obtain ⟨j, hj, hj0, rfl, rfl, rfl, hM⟩ := hrel
          have HM := Lib.hid hM
          obtain ⟨p0, p1, pf⟩ := blk2 (hM.get 2 rfl).2
          obtain ⟨sd', hA, hbs, cS⟩ := bool_at (SR.out.below hM.bel) hlt
          obtain rfl : sd = sd' := by injection hA
          rw [← isIn_of hlt] at cS
          obtain ⟨aL, Ak, ck, hAL, hbl, cr, rk⟩ := HROW.out wr hM.bel
          obtain rfl : ad = aL := by injection hAL
          have c1 := num_at (hM.get 1 rfl).2 hlt
          have c2 := num_at (hM.get 0 rfl).2 hlt
          have HJ0 := Lib.hid hj0
          have j0 : (0 : Int) ≤ (j : Int) := by omega
          clear hj0 hA hAL
          by_cases hgo : j < l.length ∧ isIn S k = false
          · obtain ⟨hjl, hs⟩ := hgo
            obtain ⟨ak, hA, hbk, a0, a1⟩ := arc_at rk hjl
            subst hA
            rw [hs] at cS
            have hx' := HTS.out l[j] (List.getElem_mem _)
            have hx1' := HLS.out j hjl
            have HMT1 := Lib.hid (PlL.mx_take (c := cOne) (f := f1) hjl)
            have HMT2 := Lib.hid (PlL.mx_take (c := cPop) (f := f2) hjl)
            have hlim1 : PlL.mx cOne f1 (l.take j) ≤ f1 k := by rw [HX1.out.2 hs]; exact PlL.mx_le fun a ha => PlL.mx_mem (List.mem_of_mem_take ha)
            have hlim2 : PlL.mx cPop f2 (l.take j) ≤ f2 k := by rw [HX2.out.2 hs]; exact PlL.mx_le fun a ha => PlL.mx_mem (List.mem_of_mem_take ha)
            have hf1k := HL1.out k hlt
            have hf2k := HL2.out k hlt
            generalize l[j] = a at *
            obtain ⟨ua, at_⟩ := a
            dsimp only at a0 a1 hx' hx1'
            obtain ⟨t, rfl⟩ : ∃ t : Nat, at_ = (t : Int) := ⟨at_.toNat, by omega⟩
            have htn : t < S.length := by omega
            have ht1 := HL1.out t htn
            have ht2 := HL2.out t htn
            have hpop := Pl.pop_le ua
            have j1 : (j : Int) < (l.length : Int) := by omega
            have t0 : (0 : Int) ≤ (t : Int) := by omega
            have t1 : (t : Int) < (S.length : Int) := by omega
            have HS0 := Lib.hid hs
            clear hM rk hx' hs
            go_upto_region 15 with fail
            have HM2 := Lib.hid (HM.out.new 42 #[.int .u32 (ua : Int), .int .i64 (t : Int)])
            generalize hW : wr.alloc (.cells #[.int .u32 (ua : Int), .int .i64 (t : Int)] 42) = W at *
            obtain ⟨b0, b1, bf⟩ := blk2 (HM2.out.get 0 rfl).2
            have d1 := num_at (HM2.out.get 2 rfl).2 htn
            have d2 := num_at (HM2.out.get 1 rfl).2 htn
            have HF := Lib.hid (HM2.out.erase 0)
            clear hW HM HM2 p0 p1 pf cS cr c1 c2 a0 a1
            generalize wr.heap.size = gt at *
            generalize PlL.mx cOne f1 (l.take j) = m1 at *
            generalize PlL.mx cPop f2 (l.take j) = m2 at *
            have hw1 := IntWalk.i64_in ((1 : Int) + (f1 t : Int)) (by omega)
            have hw2 := IntWalk.i64_in ((Pl.pop ua : Int) + (f2 t : Int)) (by omega)
            go_quiet ((go_at_call 25; with_reducible exact quiet_left (count_any ua hx1' _)))
            go_wp2
            refine ⟨⟨j + 1, by omega, fun h => (by rw [HS0.out] at h; cases h), by go_num, ?_, ?_, HF.out.drewN nq⟩, by simp [intOf]; omega⟩
            · rw [HMT1.out]; unfold cOne; go_num
            · rw [HMT2.out]; unfold cPop; go_num
          · have HO := Lib.hid (show PlL.mx cOne f1 (l.take j) = f1 k ∧ PlL.mx cPop f2 (l.take j) = f2 k from by
              cases hs : isIn S k
              · have hjl : l.length ≤ j := by
                  rcases Nat.lt_or_ge j l.length with h | h
                  · exact absurd ⟨h, hs⟩ hgo
                  · exact h
                rw [List.take_of_length_le hjl]
                exact ⟨(HX1.out.2 hs).symm, (HX2.out.2 hs).symm⟩
              · rw [HJ0.out hs, HX1.out.1 hs, HX2.out.1 hs]
                exact ⟨rfl, rfl⟩)
            rw [HO.out.1, HO.out.2]
            have e1 : ((f1 k : Int) != (f1 k : Int)) = false := by simp
            have e2 : ((f2 k : Int) != (f2 k : Int)) = false := by simp
            clear hM rk HO
            by_cases hjl : j < l.length
            · have hs : isIn S k = true := by
                cases hs : isIn S k
                · exact absurd ⟨hjl, hs⟩ hgo
                · rfl
              rw [hs] at cS
              have j1 : (j : Int) < (l.length : Int) := by omega
              clear hgo hs
              go_wp2
              exact ⟨⟨k + 1, by omega, by go_num, HM.out⟩, by simp [intOf]; omega⟩
            · have j1 : ¬ (j : Int) < (l.length : Int) := by omega
              clear hgo
              go_wp2
              exact ⟨⟨k + 1, by omega, by go_num, HM.out⟩, by simp [intOf]; omega⟩
      · obtain rfl : k = S.length := by omega
        clear hM
        go_wp2_with fail
        refine (awake_any _).mono ?_
        rintro e w4 ⟨rfl, hb4⟩
        go_wp2
        go_ret
        exact ⟨rfl, (HM.out.below hb4).bel⟩
  · have H1 := Lib.hid h1
    clear h1
    go_enter Try.func6, Try.ntmps6
    go_wp2_with fail
    refine (fair_no E L _ HE.out HV.out S A c H1.out _ (HS.out.go HM0.out.bel) (SR.out.go HM0.out.bel)).mono ?_
    rintro e w1 ⟨rfl, hb1⟩
    have HM1 := Lib.hid (HM0.out.below hb1)
    clear hb1
    go_wp2_with fail
    refine (awake_any _).mono ?_
    rintro e w2 ⟨rfl, hb2⟩
    go_wp2
    go_ret
    exact ⟨rfl, (HM1.out.below hb2).bel⟩
end Go.Proofs.Ytbilciiffecdgaa
