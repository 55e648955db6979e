/- The walk of WorstIsAttained. -/
import Derived.Test.YtbilciiffecdgaaY1
import Derived.Test.YtbilciiffecdgaaPlA
import Derived.Test.YtbilciiffecdgaaN4a
namespace Go.Proofs.Ytbilciiffecdgaa
open Go.RowKit

def toV (q j t : Nat) : Int := if q < j then (t : Int) else -1
theorem arc_one {l : List Arc} (hn : (l.map (·.1)).Nodup) {q j : Nat} (hq : q < l.length) (hj : j < l.length) : l[j].1 = l[q].1 ↔ j = q := by
  constructor
  · intro e
    have h1 : (l.map (·.1))[j]'(by simpa using hj) = (l.map (·.1))[q]'(by simpa using hq) := by simpa using e
    exact (List.getElem_inj hn).1 h1
  · rintro rfl; rfl

set_option maxRecDepth 100000 in
set_option maxHeartbeats 4000000 in
theorem att_law (w : World) (E : List Nat) (L : List (List Arc)) (v : Value) (hE : WfE E) (hV : WfV L) (hS : SpaceAt w w.heap.size v E L) (S : List Bool) (A : Option Addr) (c : Nat) (_hm : S.length ≤ 9223372036854775807)
    (hSr : Reads w w.heap.size 1 A S.length (S.map Value.bool)) (x : Int) (hx : -9223372036854775808 ≤ x ∧ x ≤ 9223372036854775807) :
    Calls Try.prog 8 #[v, .slice A S.length c, .int .i64 x] w fun e w' => e = .returned (.bool true) ∧ Below w.heap.size w w' := by
  have HS := Lib.hid hS
  obtain ⟨ve, va, rfl, ⟨Ae, ce, rfl, re⟩, ⟨Aa, ca, rows, rfl, ra, hk⟩⟩ := hS
  have HE := Lib.hid hE
  have HV := Lib.hid hV
  have SR := Lib.hid hSr
  have RA := Lib.hid ra
  have HK := Lib.hid hk
  clear hE hV re
  have HM0 := Lib.hid ((Mem.start w).new 25 #[.slice Ae E.length ce, .slice Aa L.length ca])
  by_cases h1 : FairP E L S
  · obtain ⟨hn, hSE, hLS, hok, -⟩ := fair_len h1
    obtain ⟨hn1, hn2, hn3, hto⟩ := PlG.ok_parts hok
    have HL := Lib.hid (wfl_light HV.out h1.1)
    have H1 := Lib.hid h1
    have H0 := Lib.hid h1.2
    obtain ⟨ad, hA, -⟩ := ra.2 (by omega)
    subst hA
    obtain ⟨sd, hA, -⟩ := hSr.2 (by omega)
    subst hA
    have HLL := Lib.hid hLS
    have HTO := Lib.hid (show ∀ k (hk : k < L.length), ∀ x ∈ L[k], 0 ≤ x.2 ∧ x.2 < (S.length : Int) from fun k hk x hx => by have := hto k hk x hx; omega)
    have HND := Lib.hid (fun k (hk : k < L.length) => (ok_row hok k hk).2)
    have hn0 : 1 ≤ S.length := by omega
    have hmod := Int.emod_nonneg x (show (S.length : Int) ≠ 0 by omega)
    have hmod2 := Int.emod_lt_of_pos x (show (0 : Int) < (S.length : Int) by omega)
    have HXX := Lib.hid hx
    have hxe : x % (S.length : Int) = ((x % (S.length : Int)).toNat : Int) := by omega
    have hk0 : (x % (S.length : Int)).toNat < S.length := by omega
    have HXE := Lib.hid hxe
    generalize (x % (S.length : Int)).toNat = k0 at *
    clear h1 hSE hLS hok hn1 hn2 hn3 hto ra hk hSr hx hmod hmod2 hxe
    go_enter Try.func8, Try.ntmps8
    go_wp2_with fail
    refine (fair_yes E L _ HE.out HL.out S (some sd) c H1.out _ (HS.out.go HM0.out.bel) (SR.out.go HM0.out.bel)).mono ?_
    rintro e w1 ⟨rfl, hb1⟩
    have HM1 := Lib.hid (HM0.out.below hb1)
    obtain ⟨p0, p1, pf⟩ := blk2 (HM1.out.get 0 rfl).2
    clear hb1 HM0
    go_wp2_with fail
    refine (mod_any x (S.length : Int) HXX.out (by omega) (by omega) _).mono ?_
    rintro e w' ⟨rfl, rfl⟩
    rw [HXE.out]
    go_wp2_with fail
    refine (wsched_ok E L _ HE.out HL.out S (some sd) c k0 hk0 H0.out _ (HS.out.go HM1.out.bel) (SR.out.go HM1.out.bel)).mono ?_
    rintro e w2 ⟨vs, f, rfl, hv, ho, hb2⟩
    have HM2 := Lib.hid (HM1.out.pushRow hb2 ho)
    obtain ⟨As, cs, hvs⟩ := own_sl ho
    subst hvs
    have HV := Lib.hid hv
    have hDl := PlL.sched_len (L := L) (S := isIn S) (c := cPop) (f := f) S.length k0
    have HD0 := Lib.hid (show (PlL.sched L (isIn S) cPop f S.length k0).drop 0 = PlL.sched L (isIn S) cPop f S.length k0 from rfl)
    clear hb2 ho hv p0 p1 pf HM1
    obtain ⟨p0, p1, pf⟩ := blk2 (HM2.out.get 1 rfl).2
    have hDz : ∃ D, PlL.sched L (isIn S) cPop f S.length k0 = D := ⟨_, rfl⟩
    obtain ⟨D, hD⟩ := hDz
    rw [hD] at HM2 HD0 hDl
    rw [hD]
    have HDD := Lib.hid (show D.drop 0 = PlL.sched L (isIn S) cPop f S.length k0 from hD.symm)
    clear hD HD0
    go_wp2_with fail
    refine (wmoves_ok E L _ HE.out HL.out S (some sd) c H0.out _ (HS.out.go HM2.out.bel) (SR.out.go HM2.out.bel)).mono ?_
    rintro e w3 ⟨g2, f2, rfl, hg, bk, hv, hl, hr, hb3⟩
    have HM3 := Lib.hid (HM2.out.pushBlk hb3 hg bk)
    have hfe : f2 k0 = f k0 := by
      obtain ⟨r, hr⟩ := hr
      exact PlL.IsVal.unique hr hv HV.out S.length k0 hk0 (hr.lt k0 hk0)
    have hl0 := hl k0 hk0
    have HR := Lib.hid hr
    have m0 := num_at (HM3.out.get 0 rfl).2 hk0
    rw [hfe] at m0 hl0
    have k00 : (0 : Int) ≤ (k0 : Int) := by omega
    have k01 : (k0 : Int) < (S.length : Int) := by omega
    clear hb3 hg bk hv hl hr p0 p1 pf HM2 hfe
    go_upto_region 8 with fail
    go_quiet (fail)
    have HM4 := Lib.hid (HM3.out.drewN nq)
    generalize w3.drewN nq = w4 at *
    clear m0 HM3
    go_wp2_with fail
    go_loopw [7, 12, 14] (fun av mv iv wr => ∃ i k m : Nat, i ≤ D.length ∧ k < S.length ∧ m + f k = f k0 ∧ iv = .int .i64 i ∧ av = .int .i64 k ∧ mv = .int .i64 m ∧ Hid (D.drop i = PlL.sched L (isIn S) cPop f S.length k) ∧ Mem w [cB w.heap.size g2 3 (nums S.length f2).toArray, cR w.heap.size 40 1 (.slice As D.length cs) D.length (D.map U32), cB w.heap.size w.heap.size 25 #[.slice Ae E.length ce, .slice (some ad) L.length ca]] wr) (fun _ _ iv _ => D.length - (intOf iv).toNat)
    case atStart => exact ⟨0, k0, 0, Nat.zero_le _, hk0, Nat.zero_add _, rfl, rfl, rfl, HDD, HM4.out⟩
    case round =>
      clear HM4 HDD
      obtain ⟨i, k, m, hi, hk, hmf, rfl, rfl, rfl, HDR, hM⟩ := hrel
      have HM := Lib.hid hM
      have HMF := Lib.hid hmf
      obtain ⟨sd', hA, hbs, cS⟩ := bool_at (SR.out.below hM.bel) hk
      obtain rfl : sd = sd' := by injection hA
      rw [← isIn_of hk] at cS
      have i0 : (0 : Int) ≤ (i : Int) := by omega
      have k0' : (0 : Int) ≤ (k : Int) := by omega
      have k1' : (k : Int) < (S.length : Int) := by omega
      clear hA
      by_cases hlt : i < D.length
      · have i1 : (i : Int) < (D.length : Int) := by omega
        have hdr := List.drop_eq_getElem_cons hlt
        have hs : isIn S k = false := by
          cases hs : isIn S k
          · rfl
          · have h := HDR.out
            rw [PlL.sched_done hs, hdr] at h
            cases h
        obtain ⟨r, hr⟩ := HR.out
        obtain ⟨a, ha1, ha2, ha3⟩ := PlL.nxt_some hr HV.out hk hs
        have hnx := PlL.sched_next hr HV.out hk hs ha1
        have hh := HDR.out
        rw [hnx, hdr] at hh
        injection hh with hh1 hh2
        have HDN := Lib.hid hh2
        have hkL : k < L.length := by have := HLL.out; omega
        rw [getD_l [] hkL] at ha2
        obtain ⟨q, hq, hqe⟩ := List.getElem_of_mem ha2
        have HON := Lib.hid (fun j (hj : j < L[k].length) => arc_one (HND.out k hkL) hq hj)
        have HLS := Lib.hid (HL.out k hkL).2
        have hll := (HL.out k hkL).1
        have HTS := Lib.hid (HTO.out k hkL)
        have hta := HTS.out a ha2
        have hpa := (HL.out k hkL).2 q hq
        rw [hqe] at hpa HON
        have HROW := Lib.hid (fun (X : World) (hX : Below w.heap.size w X) => row_at (RA.out.below hX) (fun k l hl => let ⟨u, hu, ha⟩ := HK.out k l hl; (⟨u, hu, ha.below hX⟩ : ∃ u, rows[k]? = some u ∧ ArcsAt X w.heap.size u l)) hkL)
        have HQE := Lib.hid hqe
        generalize L[k] = l at *
        have hrow := hM.get 1 rfl
        obtain ⟨gx, cx2, hfo, -, -⟩ := hrow.form (by omega)
        injection hfo with hfo _ hco
        subst hfo hco
        have HDI := Lib.hid (show D[i]? = some a.1 by rw [List.getElem?_eq_getElem hlt, hh1])
        obtain ⟨ua, at_⟩ := a
        dsimp only at hta hpa ha3 HDN HDI HON
        obtain ⟨t, rfl⟩ : ∃ t : Nat, at_ = (t : Int) := ⟨at_.toNat, by omega⟩
        have htn : t < S.length := by omega
        unfold cPop at ha3
        dsimp only [Int.toNat_natCast] at ha3
        have HA3 := Lib.hid ha3
        have hpop := Pl.pop_le ua
        have k2' : (k : Int) < (L.length : Int) := by omega
        rw [hs] at cS
        have HSF := Lib.hid hs
        clear hM hmf hdr hs hr ha1 ha2 ha3 hnx hh1 hh2 hrow hqe hta
        go_wp2_with fail
        go_loopw [15, 16] (fun tv jv wr => ∃ j : Nat, j ≤ l.length ∧ jv = .int .i64 j ∧ tv = .int .i64 (toV q j t) ∧ Mem w [cB w.heap.size g2 3 (nums S.length f2).toArray, cR w.heap.size 40 1 (.slice (some ⟨gx, 0, none⟩) D.length cs) D.length (D.map U32), cB w.heap.size w.heap.size 25 #[.slice Ae E.length ce, .slice (some ad) L.length ca]] wr) (fun _ jv _ => l.length - (intOf jv).toNat)
        case atStart => exact ⟨0, Nat.zero_le _, rfl, rfl, HM.out⟩
        case round =>
          clear HM
          obtain ⟨j, hj, rfl, rfl, hM⟩ := hrel
          have HM := Lib.hid hM
          obtain ⟨p0, p1, pf⟩ := blk2 (hM.get 2 rfl).2
          obtain ⟨aL, Ak, ck, hAL, hbl, cr, rk⟩ := HROW.out wr hM.bel
          obtain rfl : ad = aL := by injection hAL
          have cd := own_u32 (hM.get 1 rfl) HDI.out
          have j0 : (0 : Int) ≤ (j : Int) := by omega
          clear hAL
          by_cases hlt2 : j < l.length
          · obtain ⟨ak, hA, hbk, a0, a1⟩ := arc_at rk hlt2
            subst hA
            have hx1' := HLS.out j hlt2
            have hx' := HTS.out l[j] (List.getElem_mem _)
            have hon := HON.out j hlt2
            have hqe : j = q → l[j] = (ua, (t : Int)) := fun e => by subst e; exact HQE.out
            generalize l[j] = b at *
            obtain ⟨ub, bt⟩ := b
            dsimp only at a0 a1 hx1' hx' hon
            have j1 : (j : Int) < (l.length : Int) := by omega
            clear hM rk
            by_cases hjq : j = q
            · have hqe' := hqe hjq
              injection hqe' with hq1 hq2
              subst hq1 hq2
              have HTV := Lib.hid (show toV q (j + 1) t = (t : Int) from by unfold toV; rw [if_pos (by omega)])
              have e1 : ((ub : Int) == (ub : Int)) = true := by simp
              clear hqe hon hjq
              go_upto_region 16 with fail
              go_quiet (fail)
              go_wp2
              refine ⟨⟨j + 1, by omega, by go_num, by rw [HTV.out], HM.out.drewN nq⟩, by simp [intOf]; omega⟩
            · have hne : ub ≠ ua := fun e => hjq (hon.1 e)
              have HTV := Lib.hid (show toV q (j + 1) t = toV q j t from by
                unfold toV
                by_cases h : q < j
                · rw [if_pos h, if_pos (by omega)]
                · rw [if_neg h, if_neg (by omega)])
              have e1 : ((ub : Int) == (ua : Int)) = false := beq_eq_false_iff_ne.2 (by omega)
              clear hqe hon hjq hne
              go_upto_region 16 with fail
              go_quiet (fail)
              go_wp2
              refine ⟨⟨j + 1, by omega, by go_num, by rw [HTV.out], HM.out.drewN nq⟩, by simp [intOf]; omega⟩
          · obtain rfl : j = l.length := by omega
            obtain ⟨sd', hA, hbs', cS2⟩ := bool_at (SR.out.below hM.bel) hk
            obtain rfl : sd = sd' := by injection hA
            rw [← isIn_of hk, HSF.out] at cS2
            have HTV := Lib.hid (show toV q l.length t = (t : Int) from by unfold toV; rw [if_pos hq])
            rw [HTV.out]
            have hsum := HA3.out
            have hmf := HMF.out
            have hmm : m + Pl.pop ua + f t = f k0 := by omega
            have HMM := Lib.hid hmm
            have t0 : (0 : Int) ≤ (t : Int) := by omega
            have hml : m + Pl.pop ua ≤ 32 * S.length := by omega
            clear hM rk hA hlt2 hsum hmf hmm HTV
            go_wp2_with fail
            refine (count_any ua hpa _).mono ?_
            rintro e w' ⟨rfl, rfl⟩
            go_wp2
            exact ⟨⟨i + 1, t, m + Pl.pop ua, by omega, htn, HMM.out, by go_num, rfl, by go_num, HDN, HM.out⟩, by simp [intOf]; omega⟩
      · obtain rfl : i = D.length := by omega
        have hs : isIn S k = true := by
          cases hs : isIn S k
          · obtain ⟨r, hr⟩ := HR.out
            obtain ⟨a, ha1, -, -⟩ := PlL.nxt_some hr HV.out hk hs
            have hh := HDR.out
            rw [PlL.sched_next hr HV.out hk hs ha1, List.drop_length] at hh
            cases hh
          · rfl
        have hf0 := (HV.out k hk).1 hs
        have HS0 := Lib.hid hs
        have hme : m = f k0 := by omega
        subst hme
        have e1 : ((f k0 : Int) == (f k0 : Int)) = true := by simp
        clear hM hmf hs hf0 cS
        go_wp2_with fail
        refine (awake_any _).mono ?_
        rintro e w5 ⟨rfl, hb5⟩
        have HM5 := Lib.hid (HM.out.below hb5)
        obtain ⟨sd', hA, hbs', cS2⟩ := bool_at (SR.out.below HM5.out.bel) hk
        obtain rfl : sd = sd' := by injection hA
        rw [← isIn_of hk, HS0.out] at cS2
        clear hb5 hA
        go_wp2
        go_ret
        exact ⟨rfl, HM5.out.bel⟩
  · have H1 := Lib.hid h1
    clear h1
    go_enter Try.func8, Try.ntmps8
    go_wp2_with fail
    refine (fair_no E L _ HE.out HV.out S A c H1.out _ (HS.out.go HM0.out.bel) (SR.out.go HM0.out.bel)).mono ?_
    rintro e w1 ⟨rfl, hb1⟩
    have HM1 := Lib.hid (HM0.out.below hb1)
    clear hb1
    go_wp2_with fail
    refine (awake_any _).mono ?_
    rintro e w2 ⟨rfl, hb2⟩
    go_wp2
    go_ret
    exact ⟨rfl, (HM1.out.below hb2).bel⟩
end Go.Proofs.Ytbilciiffecdgaa
