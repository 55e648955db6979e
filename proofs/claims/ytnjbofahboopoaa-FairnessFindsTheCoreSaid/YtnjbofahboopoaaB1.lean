/- ref21.back. -/
import Derived.Test.YtnjbofahboopoaaG7
namespace Go.Proofs.Ytnjbofahboopoaa
open Go.RowKit

def BackRel (w : World) (sp : Array Value) (g : Nat) (L : List (List Arc)) (S : Nat → Bool) (n k j : Nat) (wr : World) : Prop :=
  ∃ (vs : List Value) (R : List (List Nat)), Blk wr w.heap.size 25 sp ∧ Grid wr w.heap.size g 33 3 vs R ∧ PlT.SrcS L n S (fun t => !S t) R k j ∧ Below w.heap.size w wr
def BackPost (w : World) (L : List (List Arc)) (S : Nat → Bool) (n : Nat) (e : Ending) (w' : World) : Prop :=
  ∃ (g : Nat) (vs : List Value) (R : List (List Nat)), e = .returned (.slice (some ⟨g, 0, none⟩) n n) ∧ w.heap.size ≤ g ∧ Grid w' w.heap.size g 33 3 vs R ∧ PlT.SrcS L n S (fun t => !S t) R n 0 ∧ Below w.heap.size w w'

set_option maxRecDepth 100000 in
set_option maxHeartbeats 4000000 in
theorem back_ok (E : List Nat) (L : List (List Arc)) (v : Value) (hL : WfL L) (S : List Bool) (hSL : S.length = L.length) (hn1 : 1 ≤ S.length) (hn : S.length ≤ 32768) (hto : ∀ k (hk : k < L.length), ∀ x ∈ L[k], 0 ≤ x.2 ∧ x.2 < (S.length : Int))
    (Al : Option Addr) (cl : Nat) (w : World) (hS : SpaceAt w w.heap.size v E L) (hSr : Reads w w.heap.size 1 Al S.length (S.map Value.bool)) :
    Calls Try.prog 30 #[v, .slice Al S.length cl] w (BackPost w L (isIn S) S.length) := by
  obtain ⟨ve, va, rfl, ⟨Ae, ce, rfl, re⟩, ⟨Aa, ca, rows, rfl, ra, hk⟩⟩ := hS
  obtain ⟨ad, hA, -⟩ := ra.2 (by omega)
  subst hA
  obtain ⟨sd, hA, -⟩ := hSr.2 (by omega)
  subst hA
  have RA := Lib.hid ra
  have HK := Lib.hid hk
  have HL := Lib.hid hL
  have SR := Lib.hid hSr
  have HSL := Lib.hid hSL
  have HTO := Lib.hid hto
  have hn6 : L.length ≤ 32768 := by omega
  clear re ra hk hL hSr hto hSL
  have hmk := run_make_row' (P := Try.prog) 51 33 (.slice none 0 0) 24 Try.underlying51 Try.infoIntsG rfl .i64 .i64 S.length (by omega) (by omega)
  obtain ⟨i0, hi0, hz0, hz1, hz2⟩ := info_parts Try.infoIntG
  have HST := Lib.hid (show BackRel w #[.slice Ae E.length ce, .slice (some ad) L.length ca] (w.heap.size + 1) L (isIn S) S.length 0 0 ((w.alloc (.cells #[.slice Ae E.length ce, .slice (some ad) L.length ca] 25)).alloc (.cells (madeCells #[.slice none 0 0] S.length) 33)) from by
    refine ⟨List.replicate S.length (.slice none 0 0), List.replicate S.length [], (Blk.new _ _ _).alloc _, ?_, PlT.SrcS.start _ _ _ _, ((Below.refl _ _).alloc (Nat.le_refl _) _).alloc (by simp) _⟩
    have := Grid.start (w.alloc (.cells #[.slice Ae E.length ce, .slice (some ad) L.length ca] 25)) w.heap.size 33 3 S.length
    rw [← made_list, World.size_alloc] at this
    exact this)
  go_enter Try.func30, Try.ntmps30
  go_wp2_with fail
  clear hmk
  go_loopw [6] (fun i wr => ∃ k : Nat, k ≤ S.length ∧ i = .int .i64 k ∧ BackRel w #[.slice Ae E.length ce, .slice (some ad) L.length ca] (w.heap.size + 1) L (isIn S) S.length k 0 wr) (fun i _ => S.length - (intOf i).toNat)
  case atStart => exact ⟨0, Nat.zero_le _, rfl, HST.out⟩
  case round =>
    clear HST
    obtain ⟨k, hk, rfl, hR⟩ := hrel
    have HR := Lib.hid hR
    by_cases hlt : k < S.length
    · obtain ⟨vs0, R0, -, -, -, hB0⟩ := hR
      have hkL : k < L.length := by have := HSL.out; omega
      obtain ⟨ad', Ak, ck, hA, hbl, cr, rk⟩ := row_at (RA.out.below hB0) (fun k l hl => let ⟨u, hu, ha⟩ := HK.out k l hl; (⟨u, hu, ha.below hB0⟩ : ∃ u, rows[k]? = some u ∧ ArcsAt wr w.heap.size u l)) hkL
      obtain rfl : ad = ad' := by injection hA
      have hll := (HL.out k hkL).1
      have HTS := Lib.hid (HTO.out k hkL)
      have RK0 := Lib.hid (show Reads w w.heap.size 2 Ak L[k].length (L[k].flatMap arcCells) from rk.keep fun p hp => (hB0.cell hp).symm)
      have HCR := Lib.hid ((hB0.cell (p := ad.add k) (by rw [block_of_add]; exact hbl)).symm.trans cr)
      have HTG := Lib.hid (PlG.tg_get L k · hkL)
      have HTL := Lib.hid (PlG.tg_len L k hkL)
      generalize L[k] = l at *
      have k0 : (0 : Int) ≤ (k : Int) := by omega
      have k1 : (k : Int) < (S.length : Int) := by omega
      have k2 : (k : Int) < (L.length : Int) := by omega
      clear hA rk cr hB0
      go_wp2_with fail
      go_loopw [7] (fun i wr => ∃ j : Nat, j ≤ l.length ∧ i = .int .i64 j ∧ BackRel w #[.slice Ae E.length ce, .slice (some ad) L.length ca] (w.heap.size + 1) L (isIn S) S.length k j wr ∧ (isIn S k = true → j = 0)) (fun i _ => l.length - (intOf i).toNat)
      case atStart => exact ⟨0, Nat.zero_le _, rfl, HR.out, fun _ => rfl⟩
      case round =>
        clear HR
        obtain ⟨j, hj, rfl, ⟨vs, R, bs, gr, hsrc, hB⟩, hj0⟩ := hrel
        obtain ⟨p0, p1, pf⟩ := blk2 bs
        have cr := (hB.cell (p := ad.add k) (by rw [block_of_add]; exact hbl)).trans HCR.out
        obtain ⟨sd', hA, hbls, cS⟩ := bool_at (SR.out.below hB) hlt
        obtain rfl : sd = sd' := by injection hA
        rw [← isIn_of hlt] at cS
        clear hA
        by_cases hlt2 : j < l.length
        · have t1 : decide ((j : Int) < (l.length : Int)) = true := decide_eq_true (by omega)
          have t1' : decide (j < l.length) = true := decide_eq_true hlt2
          cases hs : isIn S k
          · rw [hs] at cS
            obtain ⟨ad2, hA, hbl2, a0, a1⟩ := arc_at (RK0.out.below hB) hlt2
            subst hA
            have hx := HTS.out l[j] (List.getElem_mem _)
            have htg := HTG.out j hlt2
            generalize l[j] = x at *
            obtain ⟨xs, xt⟩ := x
            dsimp only at a0 a1 hx htg
            obtain ⟨t, rfl⟩ : ∃ t : Nat, xt = (t : Int) := ⟨xt.toNat, by omega⟩
            have htn : t < S.length := by omega
            rw [Int.toNat_natCast] at htg
            obtain ⟨sd', hA, -, cT⟩ := bool_at (SR.out.below hB) htn
            obtain rfl : sd = sd' := by injection hA
            rw [← isIn_of htn] at cT
            have j0 : (0 : Int) ≤ (j : Int) := by omega
            have j1 : (j : Int) < (l.length : Int) := by omega
            have t0 : (0 : Int) ≤ (t : Int) := by omega
            have t2 : (t : Int) < (S.length : Int) := by omega
            have HGR := Lib.hid gr
            have HB := Lib.hid hB
            have HBS := Lib.hid bs
            cases hst : isIn S t
            · rw [hst] at cT
              have htr : t < R.length := by rw [hsrc.len]; exact htn
              have htv : t < vs.length := by rw [gr.len]; exact htr
              have hsize : R[t].length ≤ k * 1000000 + j := by have := hsrc.size t; rwa [List.getD_eq_getElem?_getD, List.getElem?_eq_getElem htr] at this
              have HSN := Lib.hid (hsrc.next hs htg htn (by simp [hst]) htr)
              have hrow := gr.row t htv htr
              have HROW := Lib.hid hrow
              have gcell := gr.blk.get htv
              have gfrz := gr.blk.frozen t
              have hgs := gr.blk.lt
              have hbz := hB.size
              obtain ⟨At, ct, hvt⟩ := own_sl hrow
              rw [hvt] at gcell
              have HV := Lib.hid hvt
              have HS0 := Lib.hid hs
              clear hvt hrow gr hsrc hB bs hA hx htg hs hst
              go_wp2_with (at_builtin; refine wpList_append_any _ rfl (.tmp 54) (.tmp 56) 33 rfl w.heap.size 3 i0 (.int .i64 0) 1 8 Try.underlying33 hi0 hz0 hz1 hz2 rfl (by decide) (.slice At R[t].length ct) R[t].length (R[t].map I) rfl (by have h := HROW.out.alloc (.cells #[I k] 3); rw [HV.out] at h; exact h) (wr.heap.size + 1) (some ⟨wr.heap.size, 0, none⟩) 1 1 [I k] rfl (reads_new1 _ _ _) (one_I k) (len_ok (by omega)) (by omega) (by simp; omega) ?_; intro v1 x1 ho1 hg1 hv1; obtain ⟨gv, cv, rfl, -, -⟩ := ho1.form (by omega); have hgw := grown_pre hg1; have hap := HGR.out.app (by decide) (k := k) (S := wr.heap.size + 1) (by omega) htv htr (by rw [HV.out]; exact hgw) ho1 (by rw [HV.out]; simpa using hv1); have HG2 := Lib.hid hap.2; have z2 := hap.1.get htv; rw [HV.out] at z2; have z3 := hap.1.frozen t; have z4 := hap.1.lt; have HB2 := Lib.hid (HB.out.grown hgw (by omega) (fun b hb => (HROW.out.lt b (by rw [HV.out]; exact hb)).1)); have HS2 := Lib.hid (HBS.out.grown hgw (Ne.symm (by rw [← HV.out]; exact own_blk_ne HROW.out HBS.out (by decide)))); clear hap hgw hg1 hv1 ho1)
              refine ⟨⟨j + 1, by omega, by go_num, ⟨_, _, HS2.out.far (by simp) _, HG2.out, HSN.out, HB2.out.setCell (by simp) _⟩, fun h => (by first | cases h | (rw [HS0.out] at h; cases h))⟩, by simp [intOf]; omega⟩
            · rw [hst] at cT
              have HSN := Lib.hid (hsrc.skip htg (by simp [hst]))
              clear gr hsrc hB bs hA hx htg hst
              have HS0 := Lib.hid hs
              clear hs
              go_wp2
              exact ⟨⟨j + 1, by omega, by go_num, ⟨vs, R, HBS.out, HGR.out, HSN.out, HB.out⟩, fun h => (by first | cases h | (rw [HS0.out] at h; cases h))⟩, by simp [intOf]; omega⟩
          · rw [hs] at cS
            obtain rfl := hj0 hs
            have HO := Lib.hid (show BackRel w #[.slice Ae E.length ce, .slice (some ad) L.length ca] (w.heap.size + 1) L (isIn S) S.length (k + 1) 0 wr from ⟨vs, R, bs, gr, hsrc.legit hs, hB⟩)
            clear gr hsrc hB bs hs hj0
            go_wp2
            exact ⟨⟨k + 1, by omega, by go_num, HO.out⟩, by simp [intOf]; omega⟩
        · have t1 : decide ((j : Int) < (l.length : Int)) = false := decide_eq_false (by omega)
          have t1' : decide (j < l.length) = false := decide_eq_false hlt2
          have HO := Lib.hid (show BackRel w #[.slice Ae E.length ce, .slice (some ad) L.length ca] (w.heap.size + 1) L (isIn S) S.length (k + 1) 0 wr from ⟨vs, R, bs, gr, hsrc.row (by have := HTL.out; omega) (by omega), hB⟩)
          clear gr hsrc hB bs hj0
          go_wp2
          exact ⟨⟨k + 1, by omega, by go_num, HO.out⟩, by simp [intOf]; omega⟩
    · obtain rfl : S.length = k := by omega
      obtain ⟨vs, R, bs, gr, hsrc, hB⟩ := hR
      have HF := Lib.hid (show BackPost w L (isIn S) S.length (.returned (.slice (some ⟨w.heap.size + 1, 0, none⟩) S.length S.length)) wr from ⟨_, vs, R, rfl, by omega, gr, hsrc, hB⟩)
      clear bs gr hsrc hB HR
      go_wp2
      go_ret
      exact HF.out
end Go.Proofs.Ytnjbofahboopoaa
