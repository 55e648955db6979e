/- The walk of FairnessNumbersComponents. -/
import Derived.Test.YtnjbofahboopoaaH1
namespace Go.Proofs.Ytnjbofahboopoaa
open Go.RowKit

set_option maxRecDepth 100000 in
set_option maxHeartbeats 2000000 in
theorem numbers_law (w : World) (E : List Nat) (L : List (List Arc)) (v : Value) (hE : WfE E) (hV : WfV L) (hS : SpaceAt w w.heap.size v E L) (S : List Bool) (A : Option Addr) (c : Nat) (_hm : S.length ≤ 9223372036854775807)
    (hSr : Reads w w.heap.size 1 A S.length (S.map Value.bool)) :
    Calls Try.prog 9 #[v, .slice A S.length c] w fun e w' => e = .returned (.bool true) ∧ Below w.heap.size w w' := by
  have HS := Lib.hid hS
  obtain ⟨ve, va, rfl, ⟨Ae, ce, rfl, re⟩, ⟨Aa, ca, rows, rfl, ra, hk⟩⟩ := hS
  have HE := Lib.hid hE
  have HV := Lib.hid hV
  have SR := Lib.hid hSr
  clear re ra hk hE hV hSr
  have hb0 := (Below.refl w.heap.size w).alloc (Nat.le_refl _) (.cells #[.slice Ae E.length ce, .slice Aa L.length ca] 25)
  have HB0 := Lib.hid hb0
  clear hb0
  cases h1 : fairB E L S.length
  · have H1 := Lib.hid h1
    clear h1
    go_enter Try.func9, Try.ntmps9
    go_wp2_with fail
    refine (fair_is E L _ HE.out HV.out A S.length c false H1.out _ (HS.out.go HB0.out)).mono ?_
    rintro e w1 ⟨rfl, hb1⟩
    have HB1 := Lib.hid (below_end hb1 HB0.out)
    clear hb1
    go_wp2_with fail
    refine (awake_any _).mono ?_
    rintro e w2 ⟨rfl, hb2⟩
    go_wp2
    go_ret
    exact ⟨rfl, below_end hb2 HB1.out⟩
  · obtain ⟨f1, f2, f3⟩ := fair_parts h1
    have HL := Lib.hid (wfl_light HV.out f1)
    have HOK := Lib.hid f2
    have HSL := Lib.hid f3
    have H1 := Lib.hid h1
    have hn : S.length ≤ 120 := by have := (light_parts f1).1; omega
    clear f1 f2 f3 h1
    go_enter Try.func9, Try.ntmps9
    go_wp2_with fail
    refine (fair_is E L _ HE.out HV.out A S.length c true H1.out _ (HS.out.go HB0.out)).mono ?_
    rintro e w1 ⟨rfl, hb1⟩
    have HB1 := Lib.hid (below_end hb1 HB0.out)
    have bs := (Blk.new w 25 #[.slice Ae E.length ce, .slice Aa L.length ca]).below hb1 (by simp)
    obtain ⟨p0, p1, pf⟩ := blk2 bs
    clear hb1
    go_wp2_with fail
    refine (comps_ok E L _ HE.out HL.out HOK.out S HSL.out A c _ (HS.out.go HB1.out) (SR.out.go HB1.out)).mono ?_
    rintro e w2 ⟨g, rfl, hg, bm, hb2⟩
    have HB2 := Lib.hid (below_end hb2 HB1.out)
    have bs2 := bs.below hb2 bs.lt
    clear hb2 p0 p1 pf bs hg
    obtain ⟨p0, p1, pf⟩ := blk2 bs2
    go_wp2_with fail
    refine (keptF_ok E L _ HE.out HL.out HOK.out S HSL.out A c _ (HS.out.go HB2.out) (SR.out.go HB2.out)).mono ?_
    rintro e w3 ⟨g', f', rfl, hg', bm', hf', hb3⟩
    have HB3 := Lib.hid (below_end hb3 HB2.out)
    have bm3 := bm.below hb3 bm.lt
    clear hb3 p0 p1 pf bs2 hf' hg' bm bm'
    have BM := Lib.hid bm3
    have HNX := Lib.hid (fun k (hk : k < S.length) => PlT.num_next (G := PlG.tg L) (S := isIn S) hk)
    have HCL := Lib.hid (PlT.cnum_le S.length (PlG.tg L) (isIn S))
    have hc0 := PlT.cnum_zero S.length (PlG.tg L) (isIn S)
    have hcn := PlT.cnum_le S.length (PlG.tg L) (isIn S) S.length
    generalize hcm : PlT.cnum S.length (PlG.tg L) (isIn S) = cm at *
    generalize hcf : PlT.num S.length (PlG.tg L) (isIn S) = cf at *
    have HC0 := Lib.hid hc0
    clear bm3 hcm hcf hc0
    go_wp2_with fail
    go_loopw [9, 10] (fun x i wr => ∃ k d : Nat, k ≤ S.length ∧ i = .int .i64 k ∧ x = .int .i64 (cm k : Int) ∧ wr = w3.drewN d) (fun _ i _ => S.length - (intOf i).toNat)
    case atStart => exact ⟨0, 0, Nat.zero_le _, rfl, by rw [HC0.out]; rfl, rfl⟩
    case round =>
      obtain ⟨k, d, hk, rfl, rfl, rfl⟩ := hrel
      by_cases hlt : k < S.length
      · have m1 := num_at BM.out hlt
        obtain ⟨sd, rfl, hbl, m3⟩ := bool_at (SR.out.below HB3.out) hlt
        rw [← isIn_of hlt] at m3
        have hck := HCL.out k
        have k0 : (0 : Int) ≤ (k : Int) := by omega
        have k1 : (k : Int) < (S.length : Int) := by omega
        rcases HNX.out k hlt with ⟨h1, h2, h3⟩ | ⟨h1, h2, h2', h3⟩ | ⟨h1, h2, h3⟩
        · rw [h1] at m3
          rw [h2] at m1
          have q1 : decide ((cm k : Int) < -1) = false := decide_eq_false (by omega)
          have q2 : ((-1 : Int) == (cm k : Int)) = false := beq_eq_false_iff_ne.2 (by omega)
          have H3 := Lib.hid h3
          clear h1 h2 h3
          generalize cm k = q at *
          go_wp2_with fail
          go_quiet (fail)
          go_wp2
          refine ⟨⟨k + 1, d + nq, by omega, by go_num, by rw [H3.out], by first | rfl | rw [World.drewN_drewN]⟩, by simp [intOf]; omega⟩
        · rw [h1] at m3
          obtain ⟨J, hJ⟩ : ∃ J : Nat, cf k = (J : Int) := ⟨_, (Int.toNat_of_nonneg h2).symm⟩
          rw [hJ] at m1 h2'
          have q1 : decide ((J : Int) < -1) = false := decide_eq_false (by omega)
          have q2 : decide ((cm k : Int) < (J : Int)) = false := decide_eq_false (by omega)
          have q3 : decide ((J : Int) < 0) = false := decide_eq_false (by omega)
          have q4 : ((J : Int) == (cm k : Int)) = false := beq_eq_false_iff_ne.2 (by omega)
          have q5 : decide (cm k < J) = false := decide_eq_false (by omega)
          have q6 : (J == cm k) = false := beq_eq_false_iff_ne.2 (by omega)
          have H3 := Lib.hid h3
          clear h1 h2 h3 hJ
          generalize cm k = q at *
          go_wp2_with fail
          go_quiet (fail)
          go_wp2
          refine ⟨⟨k + 1, d + nq, by omega, by go_num, by rw [H3.out], by first | rfl | rw [World.drewN_drewN]⟩, by simp [intOf]; omega⟩
        · rw [h1] at m3
          rw [h2] at m1
          have q1 : decide ((cm k : Int) < -1) = false := decide_eq_false (by omega)
          have q2 : decide ((cm k : Int) < (cm k : Int)) = false := decide_eq_false (by omega)
          have q3 : decide ((cm k : Int) < 0) = false := decide_eq_false (by omega)
          have q4 : ((cm k : Int) == (cm k : Int)) = true := beq_self_eq_true _
          have H3 := Lib.hid h3
          clear h1 h2 h3
          generalize cm k = q at *
          go_wp2_with fail
          go_quiet (fail)
          go_wp2
          refine ⟨⟨k + 1, d + nq, by omega, by go_num, by rw [H3.out]; go_num, by first | rfl | rw [World.drewN_drewN]⟩, by simp [intOf]; omega⟩
      · obtain rfl : S.length = k := by omega
        have q4 : ((cm S.length : Int) == (cm S.length : Int)) = true := beq_self_eq_true _
        generalize cm S.length = q at *
        go_wp2_with fail
        refine (awake_any _).mono ?_
        rintro e w4 ⟨rfl, hb4⟩
        go_wp2
        go_ret
        exact ⟨rfl, below_end hb4 (below_drewN HB3.out d)⟩
end Go.Proofs.Ytnjbofahboopoaa
