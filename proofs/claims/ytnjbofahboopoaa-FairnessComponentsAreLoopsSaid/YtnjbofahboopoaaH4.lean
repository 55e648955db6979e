/- The walk of FairnessComponentsAreLoops. -/
import Derived.Test.YtnjbofahboopoaaH3
import Derived.BigQuiet
import Derived.Test.YtnjbofahboopoaaHD
import Derived.Deep.DeepCutAuto
namespace Go.Proofs.Ytnjbofahboopoaa
open Go.RowKit

theorem tmod_b' (x : Int) (n : Int) (hn : 0 < n) : -n < x.tmod n ∧ x.tmod n < n := by
  have h1 := Int.tmod_lt_of_pos x hn
  have h2 := Int.tmod_lt_of_pos (-x) hn
  rw [Int.neg_tmod] at h2
  omega
theorem tmod_p' (x : Int) (n : Int) (hx : 0 ≤ x) (hn : 0 < n) : 0 ≤ x.tmod n ∧ x.tmod n < n := ⟨Int.tmod_nonneg n hx, Int.tmod_lt_of_pos x hn⟩

set_option maxRecDepth 100000 in
set_option maxHeartbeats 8000000 in
theorem loops_law (w : World) (E : List Nat) (L : List (List Arc)) (v : Value) (hE : WfE E) (hV : WfV L) (hS : SpaceAt w w.heap.size v E L) (S : List Bool) (A : Option Addr) (c : Nat) (_hm : S.length ≤ 9223372036854775807)
    (hSr : Reads w w.heap.size 1 A S.length (S.map Value.bool)) (a : Int) (_ha : -9223372036854775808 ≤ a ∧ a ≤ 9223372036854775807) (b : Int) (_hb : -9223372036854775808 ≤ b ∧ b ≤ 9223372036854775807) :
    Calls Try.prog 4 #[v, .slice A S.length c, .int .i64 a, .int .i64 b] w fun e w' => e = .returned (.bool true) ∧ Below w.heap.size w w' := by
  have HS := Lib.hid hS
  obtain ⟨ve, va, rfl, ⟨Ae, ce, rfl, re⟩, ⟨Aa, ca, rows, rfl, ra, hk⟩⟩ := hS
  have HE := Lib.hid hE
  have HV := Lib.hid hV
  have SR := Lib.hid hSr
  clear re ra hk hE hV hSr
  have hb0 := (Below.refl w.heap.size w).alloc (Nat.le_refl _) (.cells #[.slice Ae E.length ce, .slice Aa L.length ca] 25)
  have HB0 := Lib.hid hb0
  clear hb0
  cases h1 : fairB E L S.length
  · have H1 := Lib.hid h1
    clear h1
    go_enter Try.func4, Try.ntmps4
    go_wp2_with fail
    refine (fair_is E L _ HE.out HV.out A S.length c false H1.out _ (HS.out.go HB0.out)).mono ?_
    rintro e w1 ⟨rfl, hb1⟩
    have HB1 := Lib.hid (below_end hb1 HB0.out)
    clear hb1
    go_wp2_with fail
    refine (awake_any _).mono ?_
    rintro e w2 ⟨rfl, hb2⟩
    go_wp2
    go_ret
    exact ⟨rfl, below_end hb2 HB1.out⟩
  · obtain ⟨f1, f2, f3⟩ := fair_parts h1
    have HL := Lib.hid (wfl_light HV.out f1)
    have HOK := Lib.hid f2
    have HSL := Lib.hid f3
    have H1 := Lib.hid h1
    have hn : S.length ≤ 120 := by have := (light_parts f1).1; omega
    clear f1 f2 f3 h1
    go_enter Try.func4, Try.ntmps4
    go_wp2_with fail
    refine (fair_is E L _ HE.out HV.out A S.length c true H1.out _ (HS.out.go HB0.out)).mono ?_
    rintro e w1 ⟨rfl, hb1⟩
    have HB1 := Lib.hid (below_end hb1 HB0.out)
    have bs := (Blk.new w 25 #[.slice Ae E.length ce, .slice Aa L.length ca]).below hb1 (by simp)
    obtain ⟨p0, p1, pf⟩ := blk2 bs
    clear hb1
    go_wp2_with fail
    refine (comps_ok E L _ HE.out HL.out HOK.out S HSL.out A c _ (HS.out.go HB1.out) (SR.out.go HB1.out)).mono ?_
    rintro e w2 ⟨g, rfl, hg, bm, hb2⟩
    have HB2 := Lib.hid (below_end hb2 HB1.out)
    have bs2 := bs.below hb2 bs.lt
    have BS2 := Lib.hid bs2
    have BM := Lib.hid bm
    clear hb2 p0 p1 pf bs hg bm bs2
    have hn1 : 1 ≤ S.length := by have := (PlG.ok_parts HOK.out).1; have := HSL.out; omega
    have a1 := tmod_b' a S.length (by omega)
    have a2 := tmod_p' (a.tmod S.length + S.length) S.length (by omega) (by omega)
    have b1 := tmod_b' b S.length (by omega)
    have b2 := tmod_p' (b.tmod S.length + S.length) S.length (by omega) (by omega)
    have q1 := IntWalk.i64_in (a.tmod S.length) (by omega)
    have q2 := IntWalk.i64_in (a.tmod S.length + S.length) (by omega)
    have q3 := IntWalk.i64_in ((a.tmod S.length + S.length).tmod S.length) (by omega)
    have r1 := IntWalk.i64_in (b.tmod S.length) (by omega)
    have r2 := IntWalk.i64_in (b.tmod S.length + S.length) (by omega)
    have r3 := IntWalk.i64_in ((b.tmod S.length + S.length).tmod S.length) (by omega)
    have n0 : ¬ (S.length : Int) = 0 := by omega
    have n1 : ((S.length : Int) == 0) = false := beq_eq_false_iff_ne.2 n0
    go_upto_region 7 with fail
    go_cut [2, 3] (fun p q wx => ∃ x y d : Nat, p = .int .i64 (x : Int) ∧ q = .int .i64 (y : Int) ∧ x < S.length ∧ y < S.length ∧ wx = w2.drewN d)
    case first =>
      go_quiet (fail)
      go_wp2_with fail
      go_meet
      have e1 := Int.emod_nonneg (a.tmod S.length + S.length) n0
      have e2 := Int.emod_lt_of_pos (a.tmod S.length + S.length) (show (0 : Int) < (S.length : Int) by omega)
      have e3 := Int.emod_nonneg (b.tmod S.length + S.length) n0
      have e4 := Int.emod_lt_of_pos (b.tmod S.length + S.length) (show (0 : Int) < (S.length : Int) by omega)
      exact ⟨((a.tmod S.length + S.length) % S.length).toNat, ((b.tmod S.length + S.length) % S.length).toNat, nq, by rw [Int.toNat_of_nonneg e1], by rw [Int.toNat_of_nonneg e3], by omega, by omega, rfl⟩
    case rest =>
      obtain ⟨x, y, d, rfl, rfl, hx, hy, rfl⟩ := hcut
      clear a1 a2 b1 b2 q1 q2 q3 r1 r2 r3 n0 n1
      have HBd := Lib.hid (below_drewN HB2.out d)
      have bsd := BS2.out.drewN d
      have bmd := BM.out.drewN d
      generalize w2.drewN d = W at *
      clear HB2 BS2 BM
      have HBS := Lib.hid bsd
      have HBM := Lib.hid bmd
      obtain ⟨sd, rfl, hbl, cX⟩ := bool_at (SR.out.below HBd.out) hx
      obtain ⟨sd', hA, -, cY⟩ := bool_at (SR.out.below HBd.out) hy
      obtain rfl : sd = sd' := by injection hA
      rw [← isIn_of hx] at cX
      rw [← isIn_of hy] at cY
      have x0 : (0 : Int) ≤ (x : Int) := by omega
      have x1 : (x : Int) < (S.length : Int) := by omega
      have y0 : (0 : Int) ≤ (y : Int) := by omega
      have y1 : (y : Int) < (S.length : Int) := by omega
      clear hA bmd
      cases hsx : isIn S x
      · rw [hsx] at cX
        cases hsy : isIn S y
        · rw [hsy] at cY
          obtain ⟨p0, p1, pf⟩ := blk2 bsd
          have lbs := bsd.lt
          have HSX := Lib.hid hsx
          have HSY := Lib.hid hsy
          have rule := below_rule W
          have HC1 := Lib.hid (fun X (hX : Below W.heap.size W X) => reach_ok E L _ HL.out HOK.out S HSL.out (some sd) c x hx X (HS.out.go (below_end hX HBd.out)) (SR.out.go (below_end hX HBd.out)))
          have HC2 := Lib.hid (fun X (hX : Below W.heap.size W X) => reach_ok E L _ HL.out HOK.out S HSL.out (some sd) c y hy X (HS.out.go (below_end hX HBd.out)) (SR.out.go (below_end hX HBd.out)))
          clear hsx hsy bsd
          go_upto_region 10 with fail
          go_cut [12, 13] (fun p q wx => ∃ (gx gy : Nat) (fx fy : Nat → Bool), p = .slice (some ⟨gx, 0, none⟩) S.length S.length ∧ q = .slice (some ⟨gy, 0, none⟩) S.length S.length ∧ Blk wx gx 4 ((marks S.length fx).map Value.bool).toArray ∧ Blk wx gy 4 ((marks S.length fy).map Value.bool).toArray ∧
            (∀ t, fx t = true ↔ PlT.Rch (PlG.tg L) (isIn S) x t) ∧ (∀ t, fy t = true ↔ PlT.Rch (PlG.tg L) (isIn S) y t) ∧ Below W.heap.size W wx)
          case first =>
            go_region_held3 (fun X => Below W.heap.size W X) (first | exact Below.refl _ _ | exact Below.drew (Below.refl _ _) | assumption | exact below_step (by assumption) (by assumption)) (first
              | (go_at_call 17; (with_reducible refine (HC1.out _ ?_).mono ?_); (first | exact Below.refl _ _ | exact Below.drew (Below.refl _ _) | assumption | exact below_step (by assumption) (by assumption)); rintro e wa ⟨ga, fa, rfl, hga, bma, hfa, hba⟩)
              | (go_at_call 17; (with_reducible refine (HC2.out _ ?_).mono ?_); (first | exact Below.refl _ _ | exact Below.drew (Below.refl _ _) | assumption | exact below_step (by assumption) (by assumption)); rintro e wb ⟨gb, fb, rfl, hgb, bmb, hfb, hbb⟩))
            all_goals
              go_wp2_with fail
              go_meet
              first
                | exact ⟨ga, gb, fa, fb, rfl, rfl, bma.below hbb bma.lt, bmb, hfa, hfb, by assumption⟩
                | exact ⟨ga, gb, fa, fb, rfl, rfl, bma, bmb.below hba bmb.lt, hfa, hfb, by assumption⟩
          case rest =>
            obtain ⟨gx, gy, fx, fy, rfl, rfl, bx, bY, hfx, hfy, hBw⟩ := hcut
            clear HC1 HC2 rule p0 p1 pf cX cY HBS
            have bm := HBM.out.below hBw HBM.out.lt
            have HBw := Lib.hid (below_end hBw HBd.out)
            have m1 := num_at bm hx
            have m2 := num_at bm hy
            have m3 := mark_at bx hy
            have m4 := mark_at bY hx
            have l1 := bm.lt
            have l2 := bx.lt
            have l3 := bY.lt
            have hmut : PlT.num S.length (PlG.tg L) (isIn S) x = PlT.num S.length (PlG.tg L) (isIn S) y ↔ fx y = true ∧ fy x = true :=
              (PlT.num_eq hx hy HSX.out HSY.out).trans ⟨fun h => ⟨(hfx y).2 h.1, (hfy x).2 h.2⟩, fun h => ⟨(hfx y).1 h.1, (hfy x).1 h.2⟩⟩
            have rule := below_rule wc
            clear bm bx bY hfx hfy hBw HBM HBd
            generalize PlT.num S.length (PlG.tg L) (isIn S) x = p at *
            generalize PlT.num S.length (PlG.tg L) (isIn S) y = q at *
            generalize fx y = b1 at *
            generalize fy x = b2 at *
            cases b1 <;> cases b2
            · have t1 : (p == q) = false := beq_eq_false_iff_ne.2 fun h => by cases (hmut.1 h).1
              clear hmut
              go_upto_region 11 with fail
              refine wp_region_head (by kernel_rfl) (by kernel_rfl) (by kernel_rfl) (by kernel_rfl) rfl ?_
              intro K hK
              go_simp
              refine (awake_any _).mono ?_
              rintro e w4 ⟨rfl, hb4⟩
              refine hK _ _ ?_
              clear hK K
              have HB4 := Lib.hid (below_end hb4 HBw.out.drew)
              have n1 := (hb4.cell (p := ⟨g, x, none⟩) l1).trans m1
              have n2 := (hb4.cell (p := ⟨g, y, none⟩) l1).trans m2
              have n3 := (hb4.cell (p := ⟨gx, y, none⟩) l2).trans m3
              have n4 := (hb4.cell (p := ⟨gy, x, none⟩) l3).trans m4
              clear hb4 m1 m2 m3 m4 rule
              repeat still_step
              refine wpStill_nil ?_
              go_wp2
              go_ret
              exact ⟨rfl, HB4.out⟩
            · have t1 : (p == q) = false := beq_eq_false_iff_ne.2 fun h => by cases (hmut.1 h).1
              clear hmut
              go_upto_region 11 with fail
              refine wp_region_head (by kernel_rfl) (by kernel_rfl) (by kernel_rfl) (by kernel_rfl) rfl ?_
              intro K hK
              go_simp
              refine (awake_any _).mono ?_
              rintro e w4 ⟨rfl, hb4⟩
              refine hK _ _ ?_
              clear hK K
              have HB4 := Lib.hid (below_end hb4 HBw.out.drew)
              have n1 := (hb4.cell (p := ⟨g, x, none⟩) l1).trans m1
              have n2 := (hb4.cell (p := ⟨g, y, none⟩) l1).trans m2
              have n3 := (hb4.cell (p := ⟨gx, y, none⟩) l2).trans m3
              have n4 := (hb4.cell (p := ⟨gy, x, none⟩) l3).trans m4
              clear hb4 m1 m2 m3 m4 rule
              repeat still_step
              refine wpStill_nil ?_
              go_wp2
              go_ret
              exact ⟨rfl, HB4.out⟩
            · have t1 : (p == q) = false := beq_eq_false_iff_ne.2 fun h => by cases (hmut.1 h).2
              clear hmut
              go_upto_region 11 with fail
              refine wp_region_head (by kernel_rfl) (by kernel_rfl) (by kernel_rfl) (by kernel_rfl) rfl ?_
              intro K hK
              go_simp
              refine (awake_any _).mono ?_
              rintro e w4 ⟨rfl, hb4⟩
              refine hK _ _ ?_
              clear hK K
              have HB4 := Lib.hid (below_end hb4 HBw.out.drew)
              have n1 := (hb4.cell (p := ⟨g, x, none⟩) l1).trans m1
              have n2 := (hb4.cell (p := ⟨g, y, none⟩) l1).trans m2
              have n3 := (hb4.cell (p := ⟨gx, y, none⟩) l2).trans m3
              have n4 := (hb4.cell (p := ⟨gy, x, none⟩) l3).trans m4
              clear hb4 m1 m2 m3 m4 rule
              repeat still_step
              refine wpStill_nil ?_
              go_wp2
              go_ret
              exact ⟨rfl, HB4.out⟩
            · have t1 : (p == q) = true := beq_iff_eq.2 (hmut.2 ⟨rfl, rfl⟩)
              clear hmut
              go_upto_region 11 with fail
              refine wp_region_head (by kernel_rfl) (by kernel_rfl) (by kernel_rfl) (by kernel_rfl) rfl ?_
              intro K hK
              go_simp
              refine (awake_any _).mono ?_
              rintro e w4 ⟨rfl, hb4⟩
              refine hK _ _ ?_
              clear hK K
              have HB4 := Lib.hid (below_end hb4 HBw.out.drew)
              have n1 := (hb4.cell (p := ⟨g, x, none⟩) l1).trans m1
              have n2 := (hb4.cell (p := ⟨g, y, none⟩) l1).trans m2
              have n3 := (hb4.cell (p := ⟨gx, y, none⟩) l2).trans m3
              have n4 := (hb4.cell (p := ⟨gy, x, none⟩) l3).trans m4
              clear hb4 m1 m2 m3 m4 rule
              repeat still_step
              refine wpStill_nil ?_
              go_wp2
              go_ret
              exact ⟨rfl, HB4.out⟩
        · rw [hsy] at cY
          clear hsx hsy
          go_wp2_with fail
          refine (awake_any _).mono ?_
          rintro e w4 ⟨rfl, hb4⟩
          go_wp2
          go_ret
          exact ⟨rfl, below_end hb4 HBd.out⟩
      · rw [hsx] at cX
        clear hsx
        go_wp2_with fail
        refine (awake_any _).mono ?_
        rintro e w4 ⟨rfl, hb4⟩
        go_wp2
        go_ret
        exact ⟨rfl, below_end hb4 HBd.out⟩
end Go.Proofs.Ytnjbofahboopoaa
