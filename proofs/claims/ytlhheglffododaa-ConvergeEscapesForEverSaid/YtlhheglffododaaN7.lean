/- The walk of ConvergeEscapesForEver. -/
import Derived.Test.YtlhheglffododaaN6
import Derived.Test.YtlhheglffododaaN4
import Derived.Test.YtlhheglffododaaPlX
import Derived.Test.YtlhheglffododaaF10
namespace Go.Proofs.Ytlhheglffododaa
open Go.RowKit

theorem gr_below {w w' : World} {B : Nat} (h : Below B w w') (hB : w.heap.size ≤ B) : w.grownBy w' none :=
  ⟨h.os, h.tape, h.output, h.size, fun i hi _ => h.block i (by omega)⟩
theorem own_I {w : World} {base e g n cap k x : Nat} {a : List Nat} (h : w.ownsRow base e 1 (.slice (some ⟨g, 0, none⟩) n cap) n (a.map I)) (hn : a.length = n) (hx : a[k]? = some x) : w.cell? ⟨g, k, none⟩ = some (.int .i64 (x : Int)) := by
  have hk := (List.getElem?_eq_some_iff.1 hx).1
  rw [h.cellAt k (by omega), List.getElem?_map, hx]; rfl

set_option maxRecDepth 100000 in
set_option maxHeartbeats 4000000 in
theorem forever_law (w : World) (E : List Nat) (L : List (List Arc)) (v : Value) (hE : WfE E) (hV : WfV L) (hS : SpaceAt w w.heap.size v E L) (S : List Bool) (A : Option Addr) (c : Nat) (_hm : S.length ≤ 9223372036854775807)
    (hSr : Reads w w.heap.size 1 A S.length (S.map Value.bool)) (from_ : Int) (hfr : -9223372036854775808 ≤ from_ ∧ from_ ≤ 9223372036854775807) :
    Calls Try.prog 9 #[v, .slice A S.length c, .int .i64 from_] w fun e w' => e = .returned (.bool true) ∧ Below w.heap.size w w' := by
  have HS := Lib.hid hS
  obtain ⟨ve, va, rfl, ⟨Ae, ce, rfl, re⟩, ⟨Aa, ca, rows, rfl, ra, hk⟩⟩ := hS
  have HE := Lib.hid hE
  have HV := Lib.hid hV
  have SR := Lib.hid hSr
  clear re ra hk hE hV hSr
  have hb0 := (Below.refl w.heap.size w).alloc (Nat.le_refl _) (.cells #[.slice Ae E.length ce, .slice Aa L.length ca] 25)
  have HB0 := Lib.hid hb0
  clear hb0
  cases h1 : fairB E L S.length
  · have H1 := Lib.hid h1
    clear h1
    go_enter Try.func9, Try.ntmps9
    go_wp2_with fail
    refine (fair_is E L _ HE.out HV.out A S.length c false H1.out _ (HS.out.go HB0.out)).mono ?_
    rintro e w1 ⟨rfl, hb1⟩
    have HB1 := Lib.hid (below_end hb1 HB0.out)
    clear hb1
    go_wp2_with fail
    refine (awake_any _).mono ?_
    rintro e w2 ⟨rfl, hb2⟩
    go_wp2
    go_ret
    exact ⟨rfl, below_end hb2 HB1.out⟩
  · obtain ⟨f1, f2, f3⟩ := fair_parts h1
    have HL := Lib.hid (wfl_light HV.out f1)
    have HOK := Lib.hid f2
    have HSL := Lib.hid f3
    have H1 := Lib.hid h1
    have hn : S.length ≤ 200 := by have := (light_parts f1).1; omega
    have hSL : S.length = L.length := by have := (PlG.ok_parts f2).2.2.1; omega
    have HTO := Lib.hid (fun k (hk : k < L.length) x (hx : x ∈ L[k]) => (show 0 ≤ x.2 ∧ x.2 < (L.length : Int) by have := (PlG.ok_parts f2).2.2.2 k hk x hx; omega))
    have HT := Lib.hid (fun k t (ht : t ∈ PlG.tg L k) => (show t < S.length by have := PlG.tg_lt f2 k t ht; omega))
    have hpos : 0 < S.length := by have := (PlG.ok_parts f2).1; omega
    have HSLL := Lib.hid hSL
    clear f1 f2 f3 h1 hSL
    have x1 := Int.emod_nonneg from_ (show (S.length : Int) ≠ 0 by omega)
    have x2 := Int.emod_lt_of_pos from_ (show (0 : Int) < S.length by omega)
    obtain ⟨x0, hx0⟩ : ∃ x0 : Nat, from_ % (S.length : Int) = x0 := ⟨(from_ % (S.length : Int)).toNat, by omega⟩
    have hx0s : x0 < S.length := by omega
    have x3 : (x0 : Int) < (S.length : Int) := by omega
    have x4 : (0 : Int) ≤ (x0 : Int) := by omega
    have HX0 := Lib.hid hx0
    clear x1 x2 hx0
    go_enter Try.func9, Try.ntmps9
    go_wp2_with fail
    refine (fair_is E L _ HE.out HV.out A S.length c true H1.out _ (HS.out.go HB0.out)).mono ?_
    rintro e w1 ⟨rfl, hb1⟩
    have HB1 := Lib.hid (below_end hb1 HB0.out)
    have bs := (Blk.new w 25 #[.slice Ae E.length ce, .slice Aa L.length ca]).below hb1 (by simp)
    clear hb1
    obtain ⟨p0, p1, pf⟩ := blk2 bs
    go_wp2_with fail
    refine (mod_any from_ S.length hfr (by omega) (by omega) _).mono ?_
    rintro e w1' ⟨rfl, rfl⟩
    rw [HX0.out]
    clear HX0 hfr
    cases hc : coreG L S x0
    · go_wp2_with fail
      refine (esc_no E L _ HE.out HL.out HOK.out S HSL.out A c x0 (coreG L S) (fun k _ => coreG_iff L S k) (by unfold inC; rw [Int.toNat_natCast, hc, Bool.and_false]) _ (HS.out.go HB1.out) (SR.out.go HB1.out)).mono ?_
      rintro e w2 ⟨A1, A2, c1, c2, rfl, hr1, hr2, hb2⟩
      have HB2 := Lib.hid (below_end hb2 HB1.out)
      have bs2 := bs.below hb2 bs.lt
      clear hb2 p0 p1 pf bs hr1 hr2
      obtain ⟨p0, p1, pf⟩ := blk2 bs2
      go_wp2_with fail
      refine (rcore_ok E L _ HE.out HL.out HOK.out S HSL.out A c _ (HS.out.go HB2.out) (SR.out.go HB2.out)).mono ?_
      rintro e w3 ⟨vm, f, rfl, ho, hf, hb3⟩
      have HB3 := Lib.hid (below_end hb3 HB2.out)
      obtain ⟨gb, cm, rfl, hgb, -⟩ := ho.form (by omega)
      have m1 := own_mark ho hx0s
      have hfx : f x0 = false := by
        cases h : f x0
        · rfl
        · rw [(coreG_iff L S x0).2 ((hf x0 hx0s).1 h)] at hc; cases hc
      rw [hfx] at m1
      clear hb3 p0 p1 pf bs2 ho hf hfx hc
      go_wp2_with fail
      refine (awake_any _).mono ?_
      rintro e w4 ⟨rfl, hb4⟩
      have HB4 := Lib.hid (below_end hb4 HB3.out)
      clear hb4 m1
      go_wp2
      go_ret
      exact ⟨rfl, HB4.out⟩
    · obtain ⟨⟨P, Q⟩, hPQ⟩ : ∃ Z, PlE.esc (fun k => (PlG.tg L k).find? (coreG L S)) (S.length + 1) [] x0 = Z := ⟨_, rfl⟩
      obtain ⟨l, w0, wl, wm, ws, we, wn, wo, wc⟩ := PlX.way (S := isIn S) (coreG_iff L S) HT.out hx0s hc hPQ
      have CE := Lib.hid (esc_ok E L (.agg #[.slice Ae E.length ce, .slice Aa L.length ca]) HE.out HL.out HOK.out S HSL.out A c x0 hx0s (coreG L S) (fun k _ => coreG_iff L S k) hc _ hPQ)
      have WM := Lib.hid wm
      have WS := Lib.hid ws
      have WC := Lib.hid wc
      have WO := Lib.hid wo
      have W0 := Lib.hid w0
      have WE := Lib.hid we
      clear wm ws wc wo w0 we hPQ
      dsimp only at CE
      go_wp2_with fail
      refine (CE.out _ (HS.out.go HB1.out) (SR.out.go HB1.out)).mono ?_
      rintro e w2 ⟨A1, A2, c1, c2, rfl, hr1, hr2, hb2⟩
      have HB2 := Lib.hid (below_end hb2 HB1.out)
      have bs2 := bs.below hb2 bs.lt
      have HR1 := Lib.hid hr1
      have HR2 := Lib.hid hr2
      clear hb2 p0 p1 pf bs hr1 hr2 CE
      obtain ⟨p0, p1, pf⟩ := blk2 bs2
      go_wp2_with fail
      refine (rcore_ok E L _ HE.out HL.out HOK.out S HSL.out A c _ (HS.out.go HB2.out) (SR.out.go HB2.out)).mono ?_
      rintro e w3 ⟨vm, f, rfl, ho, hf, hb3⟩
      have HB3 := Lib.hid (below_end hb3 HB2.out)
      have bs3 := bs2.below hb3 bs2.lt
      have HR13 := Lib.hid (HR1.out.go hb3)
      have HR23 := Lib.hid (HR2.out.go hb3)
      obtain ⟨gb, cm, rfl, hgb, -⟩ := ho.form (by omega)
      have m1 := own_mark ho hx0s
      have hfx : f x0 = true := (hf x0 hx0s).2 ((coreG_iff L S x0).1 hc)
      rw [hfx] at m1
      clear hb3 p0 p1 pf bs2 ho hf hfx hc HR1 HR2
      have hbz3 := HB3.out.size
      obtain ⟨i0, hi0, hz0, hz1, hz2⟩ := info_parts Try.infoInt
      rw [List.length_append] at wl
      have hsb := bs3.lt
      have BS3 := Lib.hid bs3
      clear bs3
      go_upto_region 9 with (first
        | (at_builtin; refine wpList_append_any _ rfl (.tmp 59) (.tmp 60) 43 rfl w3.heap.size 3 i0 (.int .i64 0) 1 8 Try.underlying43 hi0 hz0 hz1 hz2 rfl (by decide) v1 (0 + P.length) ([] ++ P.map I) rfl HO1.out y1.heap.size A2 Q.length c2 (Q.map I) rfl HR24.out (map_I _) (len_ok (by omega)) (by omega) hbz4 ?_; intro v2 y2 ho2 hg2 hv2; have HB5 := Lib.hid (HB4.out.grown hg2 hbz4 (fun b hb => (HO1.out.lt b hb).1)); have HO2 := Lib.hid ho2; clear hv2 hg2 ho2)
        | (at_builtin; refine wpList_append_any _ rfl (.const (.slice none 0 0)) (.tmp 58) 43 rfl w3.heap.size 3 i0 (.int .i64 0) 1 8 Try.underlying43 hi0 hz0 hz1 hz2 rfl (by decide) (.slice none 0 0) 0 [] rfl (World.ownsRow_nil _ _ _ _) w3.heap.size A1 P.length c1 (P.map I) rfl HR13.out (map_I _) (len_ok (by omega)) (by omega) (Nat.le_refl _) ?_; intro v1 y1 ho1 hg1 hv1; have HB4 := Lib.hid ((Below.refl w3.heap.size w3).grown hg1 (Nat.le_refl _) (fun b hb => by cases hb)); have hbz4 := HB4.out.size; have HR24 := Lib.hid (HR23.out.go HB4.out); have HO1 := Lib.hid ho1; clear hv1 hg1 ho1))
      have HB6 := Lib.hid (below_end HB5.out HB3.out)
      have BS5 := Lib.hid (BS3.out.below HB5.out hsb)
      have HRQ := Lib.hid (HR23.out.go HB5.out)
      have ho2 : y2.ownsRow w3.heap.size 3 1 v2 (P ++ Q).length ((P ++ Q).map I) := by have := HO2.out; simpa using this
      have hQl : Q.length ≤ S.length := by omega
      rw [← List.length_append] at wl
      clear HO2 HO1 HB4 hbz4 HR24 HR13 HR23 HB3 BS3 HB5
      generalize P ++ Q = a at *
      have hal := (List.getElem?_eq_some_iff.1 W0.out).1
      obtain ⟨ga, cv, rfl, hga, hgl⟩ := ho2.form (by omega)
      have q0 := own_I ho2 rfl W0.out
      have e1 : ((a.length : Int) == 0) = false := beq_eq_false_iff_ne.2 (by omega)
      have e2 : ((x0 : Int) == (x0 : Int)) = true := beq_self_eq_true _
      have e3 : ¬ (S.length < a.length) := by omega
      have e4 : decide ((S.length : Int) < (a.length : Int)) = false := decide_eq_false (by omega)
      have HO := Lib.hid ho2
      clear ho2
      go_wp2_with fail
      clear q0 e1 e2 e3 e4
      go_loopw [13] (fun i wr => ∃ k : Nat, k ≤ a.length ∧ i = .int .i64 k ∧ wr.ownsRow w3.heap.size 3 1 (.slice (some ⟨ga, 0, none⟩) a.length cv) a.length (a.map I) ∧ Reads wr wr.heap.size 1 A2 Q.length (Q.map I) ∧ Blk wr w.heap.size 25 #[.slice Ae E.length ce, .slice Aa L.length ca] ∧ Below w.heap.size w wr) (fun i _ => a.length - (intOf i).toNat)
      case atStart => exact ⟨0, Nat.zero_le _, rfl, HO.out, HRQ.out, BS5.out, HB6.out⟩
      case round =>
        clear HO BS5 HB6 HRQ
        obtain ⟨k, hk, rfl, ho, hrq, bs, hB⟩ := hrel
        have HRQ := Lib.hid hrq
        have HO := Lib.hid ho
        have HB := Lib.hid hB
        have BS := Lib.hid bs
        have hga' := (ho.lt ga rfl).2
        obtain ⟨p0, p1, pf⟩ := blk2 bs
        have hsb' := bs.lt
        by_cases hlt : k < a.length
        · obtain ⟨y, hy⟩ : ∃ y, a[k]? = some y := ⟨_, List.getElem?_eq_getElem hlt⟩
          have q1 := own_I ho rfl hy
          obtain ⟨hyn, hys⟩ := WM.out y (List.mem_of_getElem? hy)
          rw [isIn_of hyn] at hys
          obtain ⟨sd, hA, hbs, cs⟩ := bool_at (SR.out.below hB) hyn
          subst hA
          rw [hys] at cs
          have k0 : (0 : Int) ≤ (k : Int) := by omega
          have k1 : (k : Int) < (a.length : Int) := by omega
          have y0 : (0 : Int) ≤ (y : Int) := by omega
          have y1 : (y : Int) < (S.length : Int) := by omega
          have d1 : decide ((y : Int) < 0) = false := decide_eq_false (by omega)
          have d2 : decide ((S.length : Int) ≤ (y : Int)) = false := decide_eq_false (by omega)
          have d3 : decide (S.length ≤ y) = false := decide_eq_false (by omega)
          have HY := Lib.hid hy
          clear hys ho hB bs hy hrq
          by_cases hk0 : k = 0
          · subst hk0
            have d4 : decide ((0 : Int) < ((0 : Nat) : Int)) = false := rfl
            go_upto_region 16 with fail
            go_quiet (fail)
            go_wp2
            refine ⟨⟨0 + 1, by omega, by go_num, HO.out, HRQ.out, BS.out.drewN _, below_drewN HB.out _⟩, by simp [intOf]; omega⟩
          · obtain ⟨j, hj⟩ : ∃ j, k = j + 1 := ⟨k - 1, by omega⟩
            have HY' := HY.out
            rw [hj] at HY'
            obtain ⟨x, hx⟩ : ∃ x, a[j]? = some x := ⟨_, List.getElem?_eq_getElem (by omega)⟩
            have q2 := own_I HO.out rfl hx
            have hxn := (WM.out x (List.mem_of_getElem? hx)).1
            have hxL : x < L.length := by have := HSLL.out; omega
            have HLD := Lib.hid (fun W (hW : Below wr.heap.size wr W) => leads_yes E L (.agg #[.slice Ae E.length ce, .slice Aa L.length ca]) HL.out HTO.out x y hxL (by have := HSLL.out; omega) (WS.out j x y hx HY') W (HS.out.go (below_end hW HB.out)))
            have d4 : decide ((0 : Int) < (k : Int)) = true := decide_eq_true (by omega)
            have d7 : decide (0 < k) = true := decide_eq_true (by omega)
            have d5 := IntWalk.i64_in (j : Int) (by omega)
            have d6 : (k : Int) - 1 = (j : Int) := by omega
            have hkp : 0 < k := by omega
            have j0 : (0 : Int) ≤ (j : Int) := by omega
            have j1 : (j : Int) < (a.length : Int) := by omega
            clear hx hj HY' hk0
            go_upto_region 16 with fail
            have rule := below_rule wr
            go_region_held3 (fun x => Below wr.heap.size wr x) (first | exact Below.refl _ _ | exact Below.drew (Below.refl _ _) | assumption | exact below_step (by assumption) (by assumption))
              (first | (go_at_call 24; refine (HLD.out _ (by first | exact Below.refl _ _ | exact Below.drew (Below.refl _ _) | assumption)).mono ?_; rintro e x3 ⟨rfl, hx3⟩))
            have hx4 : Below wr.heap.size wr x3 := by assumption
            have HX4 := Lib.hid hx4
            clear hx3 hx4
            go_wp2
            refine ⟨⟨k + 1, by omega, by go_num, ?_, HRQ.out.go ?_, BS.out.below HX4.out hsb', below_end HX4.out HB.out⟩, by simp [intOf]; omega⟩
            · exact kept_none HO.out (gr_below HX4.out (Nat.le_refl _))
            · exact HX4.out
        · obtain rfl : k = a.length := by omega
          obtain ⟨m, hm⟩ : ∃ m, a.length = m + 1 := ⟨a.length - 1, by omega⟩
          have he := WE.out
          rw [hm, Nat.add_sub_cancel] at he
          have q1 := own_I ho rfl he
          have m0 : (0 : Int) ≤ (m : Int) := by omega
          have m1 : (m : Int) < (a.length : Int) := by omega
          have m2 := IntWalk.i64_in (m : Int) (by omega)
          have m3 : (a.length : Int) - 1 = (m : Int) := by omega
          have l0 : (0 : Int) ≤ (l : Int) := by omega
          have hlL : l < L.length := by have := HSLL.out; omega
          have l1 : (l : Int) < (L.length : Int) := by omega
          clear hm he ho hB bs hrq hlt
          by_cases hq : Q = []
          · have e0 : ((Q.length : Int) == 0) = true := by rw [hq]; rfl
            have e0' : (Q.length == 0) = true := by rw [hq]; rfl
            have hll : L[l].length = 0 := by rw [← PlG.tg_len L l hlL, WO.out hq]; rfl
            clear hq
            go_wp2_with fail
            refine (awake_any _).mono ?_
            rintro e w5 ⟨rfl, hb5⟩
            have HB7 := Lib.hid (below_end hb5 HB.out)
            have bs5 := BS.out.below hb5 hsb'
            clear p0 p1 pf
            obtain ⟨p0, p1, pf⟩ := blk2 bs5
            obtain ⟨rows', ra', hk'⟩ := rows_at HS.out HB7.out
            obtain ⟨ad, Ak, ck, hA, hbla, cr, rk⟩ := row_at ra' hk' hlL
            subst hA
            rw [hll] at cr
            clear hb5 rk ra' hk' bs5 q1
            go_wp2
            go_ret
            exact ⟨rfl, HB7.out⟩
          · have e0 : ((Q.length : Int) == 0) = false := beq_eq_false_iff_ne.2 (by have := List.length_pos_iff.2 hq; omega)
            have e0' : (Q.length == 0) = false := beq_eq_false_iff_ne.2 (by have := List.length_pos_iff.2 hq; omega)
            have hqp := List.length_pos_iff.2 hq
            obtain ⟨y, hy⟩ : ∃ y, Q[0]? = some y := ⟨_, List.getElem?_eq_getElem hqp⟩
            have q2i : (0 : Int) < (Q.length : Int) := by omega
            obtain ⟨qd, hA, hqb, hqc⟩ := HRQ.out.2 hqp
            subst hA
            have q2 := hqc 0 (I y) (by rw [List.getElem?_map, hy]; rfl)
            rw [show qd.add 0 = qd by cases qd; simp [Addr.add]] at q2
            unfold I at q2
            have HLD := Lib.hid (fun W (hW : Below wr.heap.size wr W) => leads_yes E L (.agg #[.slice Ae E.length ce, .slice Aa L.length ca]) HL.out HTO.out l y hlL (by have := HSLL.out; omega) (WC.out y hy) W (HS.out.go (below_end hW HB.out)))
            clear hq hy hqc
            go_upto_region 21 with fail
            have rule := below_rule wr
            have rule2 := below_addr wr
            go_region_held3 (fun x => Below wr.heap.size wr x) (first | exact Below.refl _ _ | exact Below.drew (Below.refl _ _) | assumption | exact below_step (by assumption) (by assumption))
              (first
                | (go_at_call 11; refine (awake_any _).mono ?_; rintro e x2 ⟨rfl, hx2⟩)
                | (go_at_call 24; refine (HLD.out _ (by first | exact Below.refl _ _ | exact Below.drew (Below.refl _ _) | assumption | exact Below.drew (by assumption))).mono ?_; rintro e x3 ⟨rfl, hx3⟩))
            go_wp2
            go_ret
            refine ⟨rfl, below_end ?_ HB.out⟩
            assumption
end Go.Proofs.Ytlhheglffododaa
