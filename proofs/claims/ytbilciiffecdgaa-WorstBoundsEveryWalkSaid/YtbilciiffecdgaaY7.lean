/- The walk of WorstBoundsEveryWalk. -/
import Derived.Test.YtbilciiffecdgaaY1
import Derived.Test.YtbilciiffecdgaaPlAc
import Derived.Test.YtbilciiffecdgaaAD
import Derived.Test.YtbilciiffecdgaaHD
import Derived.Test.YtbilciiffecdgaaN4a
namespace Go.Proofs.Ytbilciiffecdgaa
open Go.RowKit

set_option maxRecDepth 100000 in
set_option maxHeartbeats 8000000 in
theorem bound_law (w : World) (E : List Nat) (L : List (List Arc)) (v : Value) (hE : WfE E) (hV : WfV L) (hS : SpaceAt w w.heap.size v E L) (S : List Bool) (A : Option Addr) (c : Nat) (_hm : S.length ≤ 9223372036854775807)
    (hSr : Reads w w.heap.size 1 A S.length (S.map Value.bool)) (x : Int) (hx : -9223372036854775808 ≤ x ∧ x ≤ 9223372036854775807) (zs : List Int) (A2 : Option Addr) (c2 : Nat) (hm2 : zs.length ≤ 9223372036854775807) (hZr : Reads w w.heap.size 1 A2 zs.length (zs.map fun z : Int => Value.int .u8 z)) (hzw : ∀ z ∈ zs, (Lit.int .u8 z).wf = true) :
    Calls Try.prog 10 #[v, .slice A S.length c, .int .i64 x, .slice A2 zs.length c2] w fun e w' => e = .returned (.bool true) ∧ Below w.heap.size w w' := by
  have HS := Lib.hid hS
  obtain ⟨ve, va, rfl, ⟨Ae, ce, rfl, re⟩, ⟨Aa, ca, rows, rfl, ra, hk⟩⟩ := hS
  have HE := Lib.hid hE
  have HV := Lib.hid hV
  have SR := Lib.hid hSr
  have ZR := Lib.hid hZr
  have HZW := Lib.hid hzw
  have RA := Lib.hid ra
  have RE := Lib.hid re
  have HK := Lib.hid hk
  have HXX := Lib.hid hx
  have HM0 := Lib.hid ((Mem.start w).new 25 #[.slice Ae E.length ce, .slice Aa L.length ca])
  clear hE hV hZr hzw hx
  by_cases h1 : FairP E L S
  · obtain ⟨hn, hSE, hLS, hok, -⟩ := fair_len h1
    obtain ⟨hn1, hn2, hn3, hto⟩ := PlG.ok_parts hok
    have HL := Lib.hid (wfl_light HV.out h1.1)
    have H1 := Lib.hid h1
    have H0 := Lib.hid h1.2
    have HOK := Lib.hid hok
    have HEL := Lib.hid (show E.length ≤ 32768 by omega)
    have hn0 : 1 ≤ S.length := by omega
    obtain ⟨sd, hA, -⟩ := hSr.2 (by omega)
    subst hA
    obtain ⟨ad, hA, -⟩ := ra.2 (by omega)
    subst hA
    obtain ⟨ae, hA, -⟩ := re.2 (by omega)
    subst hA
    have HSE := Lib.hid hSE
    have HLL := Lib.hid hLS
    have HTO := Lib.hid (show ∀ k (hk : k < L.length), ∀ x ∈ L[k], 0 ≤ x.2 ∧ x.2 < (S.length : Int) from fun k hk x hx => by have := hto k hk x hx; omega)
    have HEN := Lib.hid (ok_en hok)
    clear h1 hSE hLS hok hn1 hn2 hn3 hto ra re hk hSr
    cases h2 : fewB E
    · have H2 := Lib.hid h2
      clear h2
      go_enter Try.func10, Try.ntmps10
      go_wp2_with fail
      refine (fair_yes E L _ HE.out HL.out S (some sd) c H1.out _ (HS.out.go HM0.out.bel) (SR.out.go HM0.out.bel)).mono ?_
      rintro e w1 ⟨rfl, hb1⟩
      have HM1 := Lib.hid (HM0.out.below hb1)
      obtain ⟨p0, p1, pf⟩ := blk2 (HM1.out.get 0 rfl).2
      clear hb1 HM0
      go_wp2_with fail
      refine (few_is E L _ HE.out HEL.out false H2.out _ (HS.out.go HM1.out.bel)).mono ?_
      rintro e w2 ⟨rfl, hb2⟩
      have HM2 := Lib.hid (HM1.out.below hb2)
      clear hb2 p0 p1 pf
      go_wp2_with fail
      refine (awake_any _).mono ?_
      rintro e w3 ⟨rfl, hb3⟩
      go_wp2
      go_ret
      exact ⟨rfl, (HM2.out.below hb3).bel⟩
    · have H2 := Lib.hid h2
      clear h2
      by_cases h200 : 200 < zs.length
      · have t1 : decide ((200 : Int) < (zs.length : Int)) = true := decide_eq_true (by omega)
        have t1' : decide (200 < zs.length) = true := decide_eq_true (by omega)
        go_enter Try.func10, Try.ntmps10
        go_wp2_with fail
        refine (fair_yes E L _ HE.out HL.out S (some sd) c H1.out _ (HS.out.go HM0.out.bel) (SR.out.go HM0.out.bel)).mono ?_
        rintro e w1 ⟨rfl, hb1⟩
        have HM1 := Lib.hid (HM0.out.below hb1)
        obtain ⟨p0, p1, pf⟩ := blk2 (HM1.out.get 0 rfl).2
        clear hb1 HM0
        go_wp2_with fail
        refine (few_is E L _ HE.out HEL.out true H2.out _ (HS.out.go HM1.out.bel)).mono ?_
        rintro e w2 ⟨rfl, hb2⟩
        have HM2 := Lib.hid (HM1.out.below hb2)
        clear hb2 p0 p1 pf
        go_wp2_with fail
        refine (awake_any _).mono ?_
        rintro e w3 ⟨rfl, hb3⟩
        go_wp2
        go_ret
        exact ⟨rfl, (HM2.out.below hb3).bel⟩
      · have t1 : decide ((200 : Int) < (zs.length : Int)) = false := decide_eq_false (by omega)
        have t1' : decide (200 < zs.length) = false := decide_eq_false (by omega)
        have hzl : zs.length ≤ 200 := by omega
        have hmod := Int.emod_nonneg x (show (S.length : Int) ≠ 0 by omega)
        have hmod2 := Int.emod_lt_of_pos x (show (0 : Int) < (S.length : Int) by omega)
        have hxe : x % (S.length : Int) = ((x % (S.length : Int)).toNat : Int) := by omega
        have hk0 : (x % (S.length : Int)).toNat < S.length := by omega
        have HXE := Lib.hid hxe
        generalize (x % (S.length : Int)).toNat = k0 at *
        clear hmod hmod2 hxe h200 hm2
        go_enter Try.func10, Try.ntmps10
        go_wp2_with fail
        refine (fair_yes E L _ HE.out HL.out S (some sd) c H1.out _ (HS.out.go HM0.out.bel) (SR.out.go HM0.out.bel)).mono ?_
        rintro e w1 ⟨rfl, hb1⟩
        have HM1 := Lib.hid (HM0.out.below hb1)
        obtain ⟨p0, p1, pf⟩ := blk2 (HM1.out.get 0 rfl).2
        clear hb1 HM0
        go_wp2_with fail
        refine (few_is E L _ HE.out HEL.out true H2.out _ (HS.out.go HM1.out.bel)).mono ?_
        rintro e w2 ⟨rfl, hb2⟩
        have HM2 := Lib.hid (HM1.out.below hb2)
        clear hb2 p0 p1 pf HM1
        obtain ⟨p0, p1, pf⟩ := blk2 (HM2.out.get 0 rfl).2
        go_wp2_with fail
        clear t1 t1'
        refine (mod_any x (S.length : Int) HXX.out (by omega) (by omega) _).mono ?_
        rintro e w' ⟨rfl, rfl⟩
        rw [HXE.out]
        go_wp2_with fail
        refine (wsteps_ok E L _ HE.out HL.out S (some sd) c H0.out _ (HS.out.go HM2.out.bel) (SR.out.go HM2.out.bel)).mono ?_
        rintro e w3 ⟨g1, f1, rfl, hg, bk, hv, hl, hr, hb3⟩
        have HM3 := Lib.hid (HM2.out.pushBlk hb3 hg bk)
        have HV1 := Lib.hid hv
        have HL1 := Lib.hid hl
        have HR := Lib.hid hr
        clear hb3 hg bk hv hl hr p0 p1 pf HM2
        obtain ⟨p0, p1, pf⟩ := blk2 (HM3.out.get 1 rfl).2
        go_wp2_with fail
        refine (wmoves_ok E L _ HE.out HL.out S (some sd) c H0.out _ (HS.out.go HM3.out.bel) (SR.out.go HM3.out.bel)).mono ?_
        rintro e w4 ⟨g2, f2, rfl, hg, bk, hv, hl, -, hb4⟩
        have HM4 := Lib.hid (HM3.out.pushBlk hb4 hg bk)
        have HV2 := Lib.hid hv
        have HL2 := Lib.hid hl
        clear hb4 hg bk hv hl p0 p1 pf HM3
        obtain ⟨p0, p1, pf⟩ := blk2 (HM4.out.get 2 rfl).2
        go_wp2_with fail
        refine (wrounds_ok E L _ HE.out HL.out S (some sd) c H0.out (fun k _ => few_at H2.out k) hn _ (HS.out.go HM4.out.bel) (SR.out.go HM4.out.bel)).mono ?_
        rintro e w5 ⟨g3, R, rfl, hg, bk, hv, hl, -, hb5⟩
        have HM5 := Lib.hid (HM4.out.pushBlk hb5 hg bk)
        have HV3 := Lib.hid hv
        have HL3 := Lib.hid hl
        have HA0 := Lib.hid (Acc.start (E := E) (S := isIn S) (f1 := f1) (f2 := f2) (R := R) hk0 HEN.out)
        clear hb5 hg bk hv hl p0 p1 pf HM4
        generalize rnd E (isIn S) R = f3 at *
        obtain ⟨p0, p1, pf⟩ := blk2 (HM5.out.get 3 rfl).2
        have hkE : k0 < E.length := by have := HSE.out; omega
        obtain ⟨aE, hAE, hble, ce0⟩ := set_at (RE.out.below HM5.out.bel) hkE
        obtain rfl : ae = aE := by injection hAE
        have hgd : E.getD k0 0 = E[k0] := getD_l 0 hkE
        have hen := HEN.out k0
        rw [hgd] at HA0 hen
        generalize E[k0] = en at *
        have kk0 : (0 : Int) ≤ (k0 : Int) := by omega
        have kk1 : (k0 : Int) < (S.length : Int) := by omega
        have kk2 : (k0 : Int) < (E.length : Int) := by omega
        clear hAE hgd
        go_wp2_with fail
        refine (acc_begin en (by omega) _).mono ?_
        rintro e w6 ⟨rfl, hb6⟩
        have HM6 := Lib.hid (HM5.out.below hb6)
        rw [Nat.mod_eq_of_lt hen]
        unfold cnt
        have HM7 := Lib.hid (HM6.out.new 50 #[.int .i64 0, .int .i64 0, .int .i64 0, .int .i64 0, .int .u32 (en : Int)])
        clear hb6 p0 p1 pf ce0 HM5
        go_wp2_with fail
        generalize w6.heap.size = gk at *
        go_loopw [16, 18] (fun av iv wr => ∃ i q s m r b p : Nat, i ≤ zs.length ∧ iv = .int .i64 i ∧ av = .int .i64 q ∧ s ≤ i ∧ Acc S.length (isIn S) f1 f2 R (f3 k0) k0 q s m r b p ∧ Mem w [cB w.heap.size gk 50 #[.int .i64 (s : Int), .int .i64 (m : Int), .int .i64 (r : Int), .int .i64 (b : Int), .int .u32 (p : Int)], cB w.heap.size g3 3 (nums S.length f3).toArray, cB w.heap.size g2 3 (nums S.length f2).toArray, cB w.heap.size g1 3 (nums S.length f1).toArray, cB w.heap.size w.heap.size 25 #[.slice (some ae) E.length ce, .slice (some ad) L.length ca]] wr) (fun _ iv _ => zs.length - (intOf iv).toNat)
        case atStart => exact ⟨0, k0, 0, 0, 0, 0, en, Nat.zero_le _, rfl, rfl, Nat.le_refl _, HA0.out, HM7.out⟩
        case round =>
          clear HM7 HM6 HA0 hen
          obtain ⟨i, q, s, m, r, b, p, hi, rfl, rfl, hsi, hacc, hM⟩ := hrel
          have HM := Lib.hid hM
          have HAC := Lib.hid hacc
          have hqn := hacc.lt
          have hz1 := hacc.st
          have hz2 := hacc.mv
          have hz3 := hacc.bz
          have hb1 := HL1.out k0 hk0
          have hb2 := HL2.out k0 hk0
          have hb3 := HL3.out k0 hk0
          obtain ⟨sd', hA, hbs, cS⟩ := bool_at (SR.out.below hM.bel) hqn
          obtain rfl : sd = sd' := by injection hA
          rw [← isIn_of hqn] at cS
          have i0 : (0 : Int) ≤ (i : Int) := by omega
          have q0 : (0 : Int) ≤ (q : Int) := by omega
          have q1 : (q : Int) < (S.length : Int) := by omega
          have u1 : (s : Int) ≤ (f1 k0 : Int) := by omega
          have u2 : (m : Int) ≤ (f2 k0 : Int) := by omega
          have u3 : (b : Int) ≤ (f3 k0 : Int) := by omega
          have hm3 : m ≤ 24 * s := hacc.ms
          have hrb := hacc.rb
          have hbr := hacc.br
          have hbs2 := hacc.bs
          have hsm := hacc.sm
          have hpl := hacc.pl
          clear hA hacc
          by_cases hlt : i < zs.length
          · have i1 : (i : Int) < (zs.length : Int) := by omega
            cases hs : isIn S q
            · rw [hs] at cS
              have HSF := Lib.hid hs
              have hqL : q < L.length := by have := HLL.out; omega
              obtain ⟨r0, hr0⟩ := HR.out
              have hne := (hr0.down q hqn hs).1
              rw [getD_l [] hqL] at hne
              have HMA := Lib.hid (fun a (ha : a ∈ L[q]) => (show a ∈ L.getD q [] from by rw [getD_l [] hqL]; exact ha))
              obtain ⟨aL, Ak, ck, hAL, hbl, cr, rk⟩ := row_at (RA.out.below hM.bel) (fun k l hl => let ⟨u, hu, ha⟩ := HK.out k l hl; (⟨u, hu, ha.below hM.bel⟩ : ∃ u, rows[k]? = some u ∧ ArcsAt wr w.heap.size u l)) hqL
              obtain rfl : ad = aL := by injection hAL
              have hll := (HL.out q hqL).1
              have HLS := Lib.hid (HL.out q hqL).2
              have HTS := Lib.hid (HTO.out q hqL)
              generalize L[q] = l at *
              have hlp : 0 < l.length := List.length_pos_iff.2 hne
              obtain ⟨zd, hAz, hblz, m4⟩ := u8_at ZR.out hM.bel hlt
              subst hAz
              have hz := u8_wf (HZW.out zs[i] (List.getElem_mem _))
              generalize zs[i] = zz at *
              obtain ⟨z, rfl⟩ : ∃ y : Nat, zz = (y : Int) := ⟨zz.toNat, by omega⟩
              have hzl2 : z % l.length < l.length := Nat.mod_lt _ hlp
              obtain ⟨ak, hA, hbk, a0, a1⟩ := arc_at rk hzl2
              subst hA
              have hx' := HTS.out l[z % l.length] (List.getElem_mem _)
              have hx1' := HLS.out (z % l.length) hzl2
              have ham := HMA.out l[z % l.length] (List.getElem_mem _)
              have hoa := ok_arc HOK.out HL.out ham
              have l0 : ((l.length : Int) == 0) = false := beq_eq_false_iff_ne.2 (by omega)
              have z1 := IntWalk.i64_in (z : Int) (by omega)
              have z2 : ((z : Int)).tmod (l.length : Int) = ((z % l.length : Nat) : Int) := by rw [Int.tmod_eq_emod_of_nonneg (by omega)]; simp
              have z2' : (z : Int) % (l.length : Int) = ((z % l.length : Nat) : Int) := by simp
              have l1' : ¬ (l.length : Int) = 0 := by omega
              have l2' : ¬ l.length = 0 := by omega
              have l3' : ¬ l = [] := hne
              have z3 := IntWalk.i64_in ((z % l.length : Nat) : Int) (by omega)
              have z4 : (0 : Int) ≤ ((z % l.length : Nat) : Int) := by omega
              have z5 : ((z % l.length : Nat) : Int) < (l.length : Int) := by omega
              generalize z % l.length = u at *
              generalize l[u] = a at *
              obtain ⟨ua, at_⟩ := a
              dsimp only at a0 a1 hx' hx1' hoa
              obtain ⟨t, rfl⟩ : ∃ t : Nat, at_ = (t : Int) := ⟨at_.toNat, by omega⟩
              have htn : t < S.length := by omega
              have hp1 := Pl.pop_pos ua (by omega) hx1'
              have hp2 := Pl.pop_le24 ua hoa.2.1
              have HNX := Lib.hid (HAC.out.next HV1.out HV2.out HV3.out HSF.out ham hp1 hp2 (by simpa using htn) HEN.out)
              simp only [Int.toNat_natCast] at HNX
              have htE : t < E.length := by have := HSE.out; omega
              have hgd : E.getD t 0 = E[t] := getD_l 0 htE
              have het := HEN.out t
              rw [hgd] at het
              have HLF := Lib.hid (show PlL.lft E p (ua, (t : Int)) = Pl.rest p ua E[t] from by unfold PlL.lft; simp only [Int.toNat_natCast]; rw [hgd])
              have HAF := Lib.hid (show PlL.aft E p (ua, (t : Int)) = if Pl.rest p ua E[t] = 0 then E[t] else Pl.rest p ua E[t] from by unfold PlL.aft; rw [HLF.out]; simp only [Int.toNat_natCast]; rw [hgd])
              rw [HLF.out, HAF.out] at HNX
              have HCE := Lib.hid (fun (X : World) (hX : Below w.heap.size w X) => set_at (RE.out.below hX) htE)
              generalize E[t] = et at *
              obtain ⟨s', hs'⟩ : ∃ s', s' = s + 1 := ⟨_, rfl⟩
              obtain ⟨m', hm'⟩ : ∃ m', m' = m + Pl.pop ua := ⟨_, rfl⟩
              obtain ⟨r', hr'⟩ : ∃ r', r' = r + (if Pl.rest p ua et = 0 then 1 else 0) := ⟨_, rfl⟩
              obtain ⟨b', hb'⟩ : ∃ b', b' = r + 1 := ⟨_, rfl⟩
              obtain ⟨p', hp'⟩ : ∃ p', p' = if Pl.rest p ua et = 0 then et else Pl.rest p ua et := ⟨_, rfl⟩
              rw [← hs', ← hm', ← hr', ← hb', ← hp'] at HNX
              have hval : Pl.valid s m r b p = true := decide_eq_true (by omega)
              have HADD := Lib.hid (acc_add s m r b p ua et s' m' r' b' p' (by omega) hval hoa.1 hoa.2.1 het (by omega) hs' hm' hr' hb' hp')
              have hss : s' ≤ i + 1 := by omega
              have HET := Lib.hid het
              have t0 : (0 : Int) ≤ (t : Int) := by omega
              have t1 : (t : Int) < (S.length : Int) := by omega
              have t2 : (t : Int) < (E.length : Int) := by omega
              have q2 : (q : Int) < (L.length : Int) := by omega
              obtain ⟨p0, p1, pf⟩ := blk2 (hM.get 4 rfl).2
              have lsp := (hM.get 4 rfl).2.lt
              have hwz := hM.size
              have hb1' : (ad.add q).block < wr.heap.size := by rw [block_of_add]; omega
              have hb2' : (zd.add i).block < wr.heap.size := by rw [block_of_add]; omega
              have hb3' : (ak.add (u * 2)).block < wr.heap.size := by rw [block_of_add]; omega
              clear hM rk hAL hs hne hr0 hx' hx1' ham hoa hval hs' hm' hr' hb' hp' hgd het HLF HAF
              go_upto_region 14 with fail
              have rule := below_rule wr
              have rule2 := below_addr wr
              go_cut [19] (fun s19 wx => ∃ g : Nat, s19 = .pointer (some ⟨g, 0, none⟩) ∧ Mem w [cB w.heap.size g 42 #[.int .u32 (ua : Int), .int .i64 (t : Int)], cB w.heap.size gk 50 #[.int .i64 (s : Int), .int .i64 (m : Int), .int .i64 (r : Int), .int .i64 (b : Int), .int .u32 (p : Int)], cB w.heap.size g3 3 (nums S.length f3).toArray, cB w.heap.size g2 3 (nums S.length f2).toArray, cB w.heap.size g1 3 (nums S.length f1).toArray, cB w.heap.size w.heap.size 25 #[.slice (some ae) E.length ce, .slice (some ad) L.length ca]] wx)
              case first =>
                go_region_held3 (fun x => Below wr.heap.size wr x) (repeat (with_reducible first | assumption | exact Below.refl _ _ | apply Below.drew | apply below_alloc' | apply below_set2' | (apply below_step; assumption))) (first | fail)
                all_goals
                  go_wp2_with fail
                  go_meet
                  refine ⟨wr.heap.size, rfl, ?_⟩
                  exact (HM.out.new 42 #[.int .u32 (ua : Int), .int .i64 (t : Int)]).drew
              case rest =>
                obtain ⟨gx, rfl, hM⟩ := hcut
                have HMX := Lib.hid hM
                clear rule rule2 hb1' hb2' hb3' p0 p1 pf lsp hwz cr m4 a0 a1 cS HM z1 z2 z2' z3 z4 z5 l0 l1' l2' l3'
                obtain ⟨p0, p1, pf⟩ := blk2 (hM.get 5 rfl).2
                obtain ⟨k0c, k1c, k2c, k3c, k4c, kf⟩ := blk5 (hM.get 1 rfl).2
                obtain ⟨x0, x1, xf⟩ := blk2 (hM.get 0 rfl).2
                have lsp := (hM.get 5 rfl).2.lt
                have lgk := (hM.get 1 rfl).2.lt
                have lgx := (hM.get 0 rfl).2.lt
                obtain ⟨ae', hAE, hbe, cE⟩ := HCE.out wc hM.bel
                obtain rfl : ae = ae' := by injection hAE
                have hb1' : (ae.add t).block < wc.heap.size := by rw [block_of_add]; have := hM.size; omega
                have rule := below_rule wc
                have rule2 := below_addr wc
                clear hM hAE
                go_upto_region 15 with fail
                go_cut [20, 21] (fun s20 s21 wx => ∃ g20 : Nat, s20 = .pointer (some ⟨g20, 0, none⟩) ∧ s21 = .int .i64 0 ∧ wc.heap.size ≤ g20 ∧ Below wc.heap.size wc wx ∧
                  Blk wx g20 50 #[.int .i64 (s' : Int), .int .i64 (m' : Int), .int .i64 (r' : Int), .int .i64 (b' : Int), .int .u32 (p' : Int)])
                case first =>
                  go_region_held3 (fun x => Below wc.heap.size wc x) (repeat (with_reducible first | assumption | exact Below.refl _ _ | apply Below.drew | apply below_alloc' | apply below_set5' | (apply below_step; assumption)))
                    (first
                      | (go_at_call 31; refine (HADD.out _).mono ?_; rintro e x2 ⟨rfl, hx2⟩; obtain ⟨bc, bf⟩ := bcell hx2; unfold cnt))
                  all_goals
                    go_wp2_with fail
                    go_meet
                    first
                      | ((with_reducible refine ⟨x2.heap.size, rfl, rfl, ?_, ?_, ?_⟩)
                         · exact hx2.size
                         · assumption
                         · exact Blk.new _ _ _)
                      | ((with_reducible refine ⟨wc.heap.size, rfl, rfl, Nat.le_refl _, ?_, ?_⟩)
                         · assumption
                         · have bn := ((Blk.new wc 50 #[.int .i64 0, .int .i64 0, .int .i64 0, .int .i64 0, .int .u32 0]).drew).below hx2 (by simp)
                           exact ((((bn.set_ 0 _).set_ 1 _).set_ 2 _).set_ 3 _).set_ 4 _)
                case rest =>
                  obtain ⟨g20, rfl, rfl, hg20, hx, b20⟩ := hcut
                  have hM := HMX.out.pushBlk hx hg20 b20
                  have HMY := Lib.hid hM
                  clear rule rule2 hb1' p0 p1 pf lsp k0c k1c k2c k3c k4c kf x0 x1 xf cE HMX hx b20 lgx
                  have lgk0 := lgk
                  clear lgk
                  obtain ⟨y0, y1, y2, y3, y4, yf⟩ := blk5 (hM.get 0 rfl).2
                  obtain ⟨x0, x1, xf⟩ := blk2 (hM.get 1 rfl).2
                  obtain ⟨k0c, k1c, k2c, k3c, k4c, kf⟩ := blk5 (hM.get 2 rfl).2
                  have lgk := (hM.get 2 rfl).2.lt
                  have hn1 : gx ≠ gk := Blk.ne_ (hM.get 1 rfl).2 (hM.get 2 rfl).2 (by decide)
                  have hn2 : gk ≠ gx := Ne.symm hn1
                  have hn3 : g20 ≠ gk := by omega
                  have hn4 : gk ≠ g20 := Ne.symm hn3
                  have HSET := Lib.hid (((((((HMY.out.set_ 2 rfl 0 (.int .i64 (s' : Int)) rfl).set_ 2 rfl 1 (.int .i64 (m' : Int)) rfl).set_ 2 rfl 2 (.int .i64 (r' : Int)) rfl).set_ 2 rfl 3 (.int .i64 (b' : Int)) rfl).set_ 2 rfl 4 (.int .u32 (p' : Int)) rfl).erase 0).erase 0)
                  clear hM hg20 lgk0
                  go_upto_region 18 with fail
                  go_region
                  all_goals
                    go_wp2
                    refine ⟨⟨i + 1, t, s', m', r', b', p', by omega, by go_num, rfl, hss, HNX.out, ?_⟩, by simp [intOf]; omega⟩
                    have h := HSET.out
                    have h2 := h.drew
                    first | with_reducible exact h2 | exact h2
            · rw [hs] at cS
              clear hM hs
              go_upto_region 19 with fail
              refine wp_region_head (by kernel_rfl) (by kernel_rfl) (by kernel_rfl) (by kernel_rfl) rfl ?_
              intro K hK
              go_simp
              refine (awake_any _).mono ?_
              rintro e w9 ⟨rfl, hb9⟩
              refine hK _ _ ?_
              clear hK K
              have HM9 := Lib.hid ((HM.out.drew).below hb9)
              clear hb9 cS
              obtain ⟨k0c, k1c, k2c, k3c, k4c, kf⟩ := blk5 (HM9.out.get 0 rfl).2
              have y1 := num_at (HM9.out.get 3 rfl).2 hk0
              have y2 := num_at (HM9.out.get 2 rfl).2 hk0
              have y3 := num_at (HM9.out.get 1 rfl).2 hk0
              repeat still_step
              refine wpStill_nil ?_
              go_wp2
              go_ret
              exact ⟨rfl, HM9.out.bel⟩
          · have i1 : ¬ (i : Int) < (zs.length : Int) := by omega
            clear hM
            go_upto_region 19 with fail
            refine wp_region_head (by kernel_rfl) (by kernel_rfl) (by kernel_rfl) (by kernel_rfl) rfl ?_
            intro K hK
            go_simp
            refine (awake_any _).mono ?_
            rintro e w9 ⟨rfl, hb9⟩
            refine hK _ _ ?_
            clear hK K
            have HM9 := Lib.hid ((HM.out.drew).below hb9)
            clear hb9 cS
            obtain ⟨k0c, k1c, k2c, k3c, k4c, kf⟩ := blk5 (HM9.out.get 0 rfl).2
            have y1 := num_at (HM9.out.get 3 rfl).2 hk0
            have y2 := num_at (HM9.out.get 2 rfl).2 hk0
            have y3 := num_at (HM9.out.get 1 rfl).2 hk0
            repeat still_step
            refine wpStill_nil ?_
            go_wp2
            go_ret
            exact ⟨rfl, HM9.out.bel⟩
  · have H1 := Lib.hid h1
    clear h1
    go_enter Try.func10, Try.ntmps10
    go_wp2_with fail
    refine (fair_no E L _ HE.out HV.out S A c H1.out _ (HS.out.go HM0.out.bel) (SR.out.go HM0.out.bel)).mono ?_
    rintro e w1 ⟨rfl, hb1⟩
    have HM1 := Lib.hid (HM0.out.below hb1)
    clear hb1
    go_wp2_with fail
    refine (awake_any _).mono ?_
    rintro e w2 ⟨rfl, hb2⟩
    go_wp2
    go_ret
    exact ⟨rfl, (HM1.out.below hb2).bel⟩
end Go.Proofs.Ytbilciiffecdgaa
