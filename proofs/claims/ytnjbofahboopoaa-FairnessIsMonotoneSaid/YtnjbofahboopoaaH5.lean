/- The walk of FairnessIsMonotone. -/
import Derived.Test.YtnjbofahboopoaaH1
import Derived.Test.YtnjbofahboopoaaF3m
namespace Go.Proofs.Ytnjbofahboopoaa
open Go.RowKit

theorem fcore_n (E : List Nat) (L : List (List Arc)) (v : Value) (hE : WfE E) (hL : WfL L) (hok : PlS.spaceOk E L = true) (S : List Bool) (n : Nat) (hn : S.length = n) (hSl : n = E.length) (A : Option Addr) (c : Nat) (w : World) (hS : SpaceAt w w.heap.size v E L) (hSr : Reads w w.heap.size 1 A n (S.map Value.bool)) :
    Calls Try.prog 12 #[v, .slice A n c] w (MarksPost w n (fun f => ∀ k, k < n → (f k = true ↔ PlT.FCore n E L (isIn S) k))) := by
  subst hn
  exact fcore_ok E L v hE hL hok S hSl A c w hS hSr

set_option maxRecDepth 100000 in
set_option maxHeartbeats 2000000 in
theorem mono_law (w : World) (E : List Nat) (L : List (List Arc)) (v : Value) (hE : WfE E) (hV : WfV L) (hS : SpaceAt w w.heap.size v E L) (S : List Bool) (A : Option Addr) (c : Nat) (_hm : S.length ≤ 9223372036854775807)
    (hSr : Reads w w.heap.size 1 A S.length (S.map Value.bool)) (M : List Bool) (Am : Option Addr) (cm : Nat) (_hmm : M.length ≤ 9223372036854775807) (hMr : Reads w w.heap.size 1 Am M.length (M.map Value.bool)) :
    Calls Try.prog 7 #[v, .slice A S.length c, .slice Am M.length cm] w fun e w' => e = .returned (.bool true) ∧ Below w.heap.size w w' := by
  have HS := Lib.hid hS
  obtain ⟨ve, va, rfl, ⟨Ae, ce, rfl, re⟩, ⟨Aa, ca, rows, rfl, ra, hk⟩⟩ := hS
  have HE := Lib.hid hE
  have HV := Lib.hid hV
  have SR := Lib.hid hSr
  have MR := Lib.hid hMr
  clear re ra hk hE hV hSr hMr
  have hb0 := (Below.refl w.heap.size w).alloc (Nat.le_refl _) (.cells #[.slice Ae E.length ce, .slice Aa L.length ca] 25)
  have HB0 := Lib.hid hb0
  clear hb0
  cases h1 : fairB E L S.length
  · have H1 := Lib.hid h1
    clear h1
    go_enter Try.func7, Try.ntmps7
    go_wp2_with fail
    refine (fair_is E L _ HE.out HV.out A S.length c false H1.out _ (HS.out.go HB0.out)).mono ?_
    rintro e w1 ⟨rfl, hb1⟩
    have HB1 := Lib.hid (below_end hb1 HB0.out)
    clear hb1
    go_wp2_with fail
    refine (awake_any _).mono ?_
    rintro e w2 ⟨rfl, hb2⟩
    go_wp2
    go_ret
    exact ⟨rfl, below_end hb2 HB1.out⟩
  · obtain ⟨f1, f2, f3⟩ := fair_parts h1
    have HL := Lib.hid (wfl_light HV.out f1)
    have HOK := Lib.hid f2
    have HSL := Lib.hid f3
    have H1 := Lib.hid h1
    have hn : S.length ≤ 120 := by have := (light_parts f1).1; omega
    clear f1 f2 f3 h1
    by_cases hml : M.length = S.length
    · have t1 : ((M.length : Int) != (S.length : Int)) = false := by simp [hml]
      have HML := Lib.hid hml
      rw [hml]
      rw [hml] at MR
      have t1 : ((S.length : Int) != (S.length : Int)) = false := by simp
      clear hml
      go_enter Try.func7, Try.ntmps7
      go_wp2_with fail
      refine (fair_is E L _ HE.out HV.out A S.length c true H1.out _ (HS.out.go HB0.out)).mono ?_
      rintro e w1 ⟨rfl, hb1⟩
      have HB1 := Lib.hid (below_end hb1 HB0.out)
      have bs := (Blk.new w 25 #[.slice Ae E.length ce, .slice Aa L.length ca]).below hb1 (by simp)
      obtain ⟨p0, p1, pf⟩ := blk2 bs
      clear hb1
      have BS := Lib.hid bs
      clear bs p0 p1 pf
      obtain ⟨i0, hi0, hz0, hz1, hz2⟩ := info_parts Try.infoBool
      go_wp2_with fail
      go_loopw [7, 8] (fun v i wr => ∃ k : Nat, k ≤ S.length ∧ i = .int .i64 k ∧ wr.ownsRow w.heap.size 4 1 v k ((marks k (fun j => isIn S j || isIn M j)).map Value.bool) ∧ Blk wr w.heap.size 25 #[.slice Ae E.length ce, .slice Aa L.length ca] ∧ Below w.heap.size w wr) (fun _ i _ => S.length - (intOf i).toNat)
      case atStart => exact ⟨0, Nat.zero_le _, rfl, World.ownsRow_nil _ _ _ _, BS.out, HB1.out⟩
      case round =>
        clear BS HB1
        obtain ⟨k, hk, rfl, ho, bs, hB⟩ := hrel
        have HO := Lib.hid ho
        have HB := Lib.hid hB
        have BS := Lib.hid bs
        have hbz := hB.size
        obtain ⟨Av, cv, hvv⟩ := own_sl ho
        subst hvv
        by_cases hlt : k < S.length
        · obtain ⟨sd, hA, hbl, cS⟩ := bool_at (SR.out.below hB) hlt
          subst hA
          have hltM : k < M.length := by have := HML.out; omega
          obtain ⟨md, hA, hblm, cM⟩ := bool_at (show Reads wr w.heap.size 1 Am M.length (M.map Value.bool) by rw [HML.out]; exact MR.out.below hB) hltM
          subst hA
          rw [← isIn_of hlt] at cS
          rw [← isIn_of hltM] at cM
          have k0 : (0 : Int) ≤ (k : Int) := by omega
          have k1 : (k : Int) < (S.length : Int) := by omega
          have HMS := Lib.hid (marks_snoc' k (fun j => isIn S j || isIn M j))
          clear ho hB bs
          generalize isIn S k = a at *
          generalize isIn M k = b at *
          cases a <;> cases b
          all_goals
            go_wp2_with (at_builtin; refine wpList_append_any _ rfl (.tmp 32) (.tmp 43) 26 rfl w.heap.size 4 i0 (.bool false) 1 1 Try.underlying26 hi0 hz0 hz1 hz2 rfl (by decide) (.slice Av k cv) _ _ rfl (HO.out.alloc _) (wr.heap.size + 1) (some ⟨wr.heap.size, 0, none⟩) 1 1 _ rfl (reads_new1 _ _ _) (one_B' _) (len_ok (by omega)) (by omega) (by simp; omega) ?_; intro v1 x1 ho1 hg1 hv1; have HO1 := Lib.hid ho1; have HB1 := Lib.hid ((HB.out.alloc hbz _).grown hg1 (by simp; omega) (fun b hb => (HO.out.lt b hb).1)); have HS1 := Lib.hid ((BS.out.alloc _).grown hg1 (Ne.symm (own_blk_ne HO.out BS.out (by decide)))); clear ho1 hg1 hv1)
            refine ⟨⟨k + 1, by omega, by go_num, ?_, HS1.out, HB1.out⟩, by simp [intOf]; omega⟩
            rw [HMS.out, List.map_append]
            exact HO1.out
        · obtain rfl : S.length = k := by omega
          obtain ⟨p0, p1, pf⟩ := blk2 bs
          clear ho hB
          go_wp2_with fail
          refine (fcore_ok E L _ HE.out HL.out HOK.out S HSL.out A c _ (HS.out.go HB.out) (SR.out.go HB.out)).mono ?_
          rintro e w2 ⟨g, f, rfl, hg, bm, hf, hb2⟩
          have HB2 := Lib.hid (below_end hb2 HB.out)
          have bs2 := bs.below hb2 bs.lt
          have HO2 := Lib.hid (own_below' HO.out hb2)
          have BM := Lib.hid bm
          have HF := Lib.hid hf
          clear hb2 p0 p1 pf bs BS bm hf hg HO
          obtain ⟨p0, p1, pf⟩ := blk2 bs2
          go_wp2_with fail
          refine (fcore_n E L _ HE.out HL.out HOK.out (marks S.length (fun j => isIn S j || isIn M j)) S.length (marks_len _ _) HSL.out Av cv _ (HS.out.go HB2.out) ((Reads.of_own HO2.out).more (Nat.le_refl _))).mono ?_
          rintro e w3 ⟨g', f', rfl, hg', bm', hf', hb3⟩
          have HB3 := Lib.hid (below_end hb3 HB2.out)
          have bm3 := BM.out.below hb3 BM.out.lt
          have BM3 := Lib.hid bm3
          have BM' := Lib.hid bm'
          have hisb : isIn (marks S.length (fun j => isIn S j || isIn M j)) = fun j => isIn S j || isIn M j := by
            funext j
            unfold isIn
            rw [getD_marks]
            by_cases hj : j < S.length
            · simp [hj]
            · rw [List.getD_eq_getElem?_getD, List.getElem?_eq_none (by omega), List.getD_eq_getElem?_getD, List.getElem?_eq_none (by have := HML.out; omega)]
              simp
          rw [hisb] at hf'
          have hsys := sys_of HE.out HOK.out HSL.out
          have HIMP := Lib.hid (fun k (hk : k < S.length) (h : f' k = true) => (HF.out k hk).2 (PlT.FCore.less hsys (S := isIn S) (fun x hx => by simp only [Bool.or_eq_false_iff] at hx; exact hx.1) hk ((hf' k hk).1 h)))
          have HLEG := Lib.hid (fun k (hk : k < S.length) (h : f k = true) => (show isIn S k = false from ((HF.out k hk).1 h).1))
          clear hb3 p0 p1 pf bs2 BM HO2 bm3 bm' hf' hg' hisb hsys
          go_wp2_with fail
          go_loopw [13] (fun i wr => ∃ k d : Nat, k ≤ S.length ∧ i = .int .i64 k ∧ wr = w3.drewN d) (fun i _ => S.length - (intOf i).toNat)
          case atStart => exact ⟨0, 0, Nat.zero_le _, rfl, rfl⟩
          case round =>
            obtain ⟨k, d, hk, rfl, rfl⟩ := hrel
            by_cases hlt : k < S.length
            · have m1 := mark_at BM3.out hlt
              have m2 := mark_at BM'.out hlt
              obtain ⟨sd, rfl, hbl, m3⟩ := bool_at (SR.out.below HB3.out) hlt
              rw [← isIn_of hlt] at m3
              have h1 := HIMP.out k hlt
              have h2 := HLEG.out k hlt
              generalize f k = a at *
              generalize f' k = b at *
              generalize isIn S k = s at *
              have k0 : (0 : Int) ≤ (k : Int) := by omega
              have k1 : (k : Int) < (S.length : Int) := by omega
              cases a
              · cases b
                · clear h1 h2
                  go_wp2
                  refine ⟨⟨k + 1, d, by omega, by go_num, rfl⟩, by simp [intOf]; omega⟩
                · cases h1 rfl
              · obtain rfl := h2 rfl
                clear h1 h2
                cases b
                all_goals
                  go_wp2
                  refine ⟨⟨k + 1, d, by omega, by go_num, rfl⟩, by simp [intOf]; omega⟩
            · go_wp2_with fail
              refine (awake_any _).mono ?_
              rintro e w4 ⟨rfl, hb4⟩
              go_wp2
              go_ret
              exact ⟨rfl, below_end hb4 (below_drewN HB3.out d)⟩
    · have t1 : ((M.length : Int) != (S.length : Int)) = true := by rw [bne_iff_ne]; omega
      go_enter Try.func7, Try.ntmps7
      go_wp2_with fail
      refine (fair_is E L _ HE.out HV.out A S.length c true H1.out _ (HS.out.go HB0.out)).mono ?_
      rintro e w1 ⟨rfl, hb1⟩
      have HB1 := Lib.hid (below_end hb1 HB0.out)
      clear hb1
      go_wp2_with fail
      refine (awake_any _).mono ?_
      rintro e w2 ⟨rfl, hb2⟩
      go_wp2
      go_ret
      exact ⟨rfl, below_end hb2 HB1.out⟩
end Go.Proofs.Ytnjbofahboopoaa
