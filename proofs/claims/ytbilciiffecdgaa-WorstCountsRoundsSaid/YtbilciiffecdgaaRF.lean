/- ref20.Rounds. -/
import Derived.Test.YtbilciiffecdgaaRE
import Derived.Test.YtbilciiffecdgaaRA
namespace Go.Proofs.Ytbilciiffecdgaa
open Go.RowKit
open PlL (Pr)

set_option maxHeartbeats 1000000 in
theorem rrounds_err (E : List Nat) (L : List (List Arc)) (v : Value) (hE : WfE E) (hL : WfL L) (S : List Bool) (A : Option Addr) (c : Nat) (z : Int) (hz : z ≠ 0) (h : wchk E L S = z) (w : World) (hS : SpaceAt w w.heap.size v E L) (hSr : Reads w w.heap.size 1 A S.length (S.map Value.bool)) :
    Calls Try.prog 20 #[v, .slice A S.length c] w fun e w' => e = .returned (.tuple #[.slice none 0 0, .int .i64 z]) ∧ Below w.heap.size w w' := by
  have HS := Lib.hid hS
  obtain ⟨ve, va, rfl, ⟨Ae, ce, rfl, re⟩, ⟨Aa, ca, rows, rfl, ra, hk⟩⟩ := hS
  have HM0 := Lib.hid ((Mem.start w).new 25 #[.slice Ae E.length ce, .slice Aa L.length ca])
  have HE := Lib.hid hE
  have HL := Lib.hid hL
  have H := Lib.hid h
  have SR1 := Lib.hid hSr
  have t1 : (z != 0) = true := by rw [bne_iff_ne]; exact hz
  clear hE hL h re ra hk hz hSr
  go_enter Try.func20, Try.ntmps20
  go_wp2_with fail
  refine (rbegin_any E L _ HE.out HL.out S A c z H.out _ (HS.out.go HM0.out.bel) (SR1.out.go HM0.out.bel)).mono ?_
  rintro e w1 ⟨rfl, hb1⟩
  have HM1 := Lib.hid (HM0.out.below hb1)
  clear hb1
  go_wp2
  go_ret2
  exact ⟨rfl, HM1.out.bel⟩
/-- the greatest numbers of rounds, in a list of the call's own -/
def RRd (w : World) (E : List Nat) (L : List (List Arc)) (S : List Bool) (e : Ending) (w' : World) : Prop :=
  ∃ (v : Value) (R : Pr → Nat), e = .returned (.tuple #[v, .int .i64 0]) ∧ w'.ownsRow w.heap.size 3 1 v S.length (nums S.length (rnd E (isIn S) R)) ∧ PlL.IsRd S.length E L (isIn S) R ∧ Below w.heap.size w w'
/-- a row's pair in memory -/
theorem own_pr {w : World} {base b n c j : Nat} {Q : List Pr} {G : Pr → Nat} {k P : Nat} (h : w.ownsRow base 74 2 (.slice (some ⟨b, 0, none⟩) n c) n ((rowP Q G k).flatMap arcCells)) (hj : (rowOf Q k)[j]? = some P) :
    w.cell? ⟨b, j * 2, none⟩ = some (.int .u32 (P : Int)) ∧ w.cell? ⟨b, j * 2 + 1, none⟩ = some (.int .i64 (G (k, P) : Int)) := by
  obtain ⟨hjl, hjP⟩ := List.getElem?_eq_some_iff.1 hj
  have hl : j < (rowP Q G k).length := by rw [rowP_len]; exact hjl
  obtain ⟨h1, h2⟩ := flat_get (rowP Q G k) j hl
  have hP : (rowP Q G k)[j] = (P, (G (k, P) : Int)) := by simp [rowP, hjP]
  rw [hP] at h1 h2
  have hlen := h.1
  have hb : j * 2 + 1 < ((rowP Q G k).flatMap arcCells).length := (List.getElem?_eq_some_iff.1 h2).1
  exact ⟨(h.cellAt _ (by omega)).trans h1, (h.cellAt _ (by omega)).trans h2⟩
theorem nums_one (k : Nat) (f : Nat → Nat) : nums (k + 1) f = nums k f ++ [.int .i64 (f k : Int)] := nums_snoc k f

set_option maxRecDepth 100000 in
set_option maxHeartbeats 8000000 in
theorem rrounds_ok (E : List Nat) (L : List (List Arc)) (v : Value) (hE : WfE E) (hL : WfL L) (h40 : ∀ k (hk : k < L.length), L[k].length ≤ 40) (S : List Bool) (A : Option Addr) (c : Nat) (h : wchk E L S = 0) (hfew : ∀ k, k < S.length → Pl.pop (E.getD k 0) ≤ 8) (hn : S.length ≤ 120) (w : World) (hS : SpaceAt w w.heap.size v E L) (hSr : Reads w w.heap.size 1 A S.length (S.map Value.bool)) :
    Calls Try.prog 20 #[v, .slice A S.length c] w (RRd w E L S) := by
  have HS := Lib.hid hS
  obtain ⟨ve, va, rfl, ⟨Ae, ce, rfl, re⟩, ⟨Aa, ca, rows, rfl, ra, hk⟩⟩ := hS
  obtain ⟨hok, hSl, hc⟩ := wchk_zero h
  obtain ⟨hn1, hn2, hn3, hto⟩ := PlG.ok_parts hok
  obtain ⟨ad, hA, -⟩ := ra.2 (by omega)
  subst hA
  obtain ⟨ae, hA, -⟩ := re.2 (by omega)
  subst hA
  obtain ⟨sd, hA, -⟩ := hSr.2 (by omega)
  subst hA
  obtain ⟨r, hr⟩ := conv_rank h
  have HR := Lib.hid hr
  have HV := Lib.hid (PlL.rdF_is (E := E) hr)
  have HVL := Lib.hid (fun k (hk : k < S.length) (hs : isIn S k = false) P => (PlL.rdF_is (E := E) hr).le hr (S.length - 1) k hk hs (by have := hr.lt k hk; omega) P)
  have HE := Lib.hid hE
  have HL := Lib.hid hL
  have H40 := Lib.hid h40
  have SR1 := Lib.hid hSr
  have RA := Lib.hid ra
  have RE := Lib.hid re
  have HK := Lib.hid hk
  have HOK := Lib.hid hok
  have HSE := Lib.hid hSl
  have H0 := Lib.hid h
  have HFEW := Lib.hid hfew
  have HLL := Lib.hid (show L.length = S.length by omega)
  have HTO := Lib.hid (show ∀ k (hk : k < L.length), ∀ x ∈ L[k], 0 ≤ x.2 ∧ x.2 < (S.length : Int) from fun k hk x hx => by have := hto k hk x hx; omega)
  have hn0 : 1 ≤ S.length := by omega
  have HM0 := Lib.hid ((Mem.start w).new 25 #[.slice (some ae) E.length ce, .slice (some ad) L.length ca])
  obtain ⟨i0, hi0, hz0, hz1, hz2⟩ := info_parts Try.infoIntG
  clear hE hL h40 hSr re ra hk hok hSl hn1 hn2 hn3 hto hfew h hc hr
  generalize PlL.rdF E L (isIn S) S.length = f at *
  go_enter Try.func20, Try.ntmps20
  go_wp2_with fail
  refine (rbegin_any E L _ HE.out HL.out S (some sd) c 0 H0.out _ (HS.out.go HM0.out.bel) (SR1.out.go HM0.out.bel)).mono ?_
  rintro e w1 ⟨rfl, hb1⟩
  have HM1 := Lib.hid (HM0.out.below hb1)
  obtain ⟨p0, p1, pf⟩ := blk2 (HM1.out.get 0 rfl).2
  clear hb1 HM0
  go_wp2_with fail
  refine (rreach_ok E L _ HE.out HL.out H40.out HOK.out S HSE.out HFEW.out hn (some sd) c _ (HS.out.go HM1.out.bel) (SR1.out.go HM1.out.bel)).mono ?_
  rintro e w2 ⟨g, vs, Q, rfl, hg, hgr, hBF, hini, hb2⟩
  have HM2 := Lib.hid (HM1.out.pushGV hb2 hg hgr)
  have HQN := Lib.hid hBF.nodup
  have HQO := Lib.hid hBF.ok
  have HQC := Lib.hid (show ∀ x ∈ Q, ∀ a ∈ L.getD x.1 [], isIn S a.2.toNat = false → PlL.suc E x a ∈ Q from fun x hx a ha hs => by
    obtain ⟨j, hj, e⟩ := List.getElem_of_mem hx
    exact hBF.done j hj x (by rw [List.getElem?_eq_getElem hj, e]) a ha hs)
  have HINI := Lib.hid hini
  have hQl := PlL.pairs_few HFEW.out hBF.nodup hBF.ok
  clear hb2 hg hgr hBF hini p0 p1 pf HM1
  go_wp2_with fail
  go_loopg [9] (gapP f (fun _ => 0) Q + 1) (fun gk ch wr => ∃ (b : Bool) (G : Pr → Nat), ch = .bool b ∧ gk = gapP f G Q + (if b = true then 1 else 0) ∧ (∀ x ∈ Q, G x ≤ f x) ∧ (b = false → ∀ x ∈ Q, SatP E L (isIn S) G x) ∧ Mem w [cV w.heap.size g 71 74 2 vs (rowsV S.length Q G), cB w.heap.size w.heap.size 25 #[.slice (some ae) E.length ce, .slice (some ad) L.length ca]] wr)
  case atStart => exact ⟨true, _, rfl, rfl, fun x _ => Nat.zero_le _, (fun h => by cases h), HM2.out⟩
  case round =>
    clear HM2
    obtain ⟨b, G, rfl, rfl, hG, hsat, hM⟩ := hrel
    cases b
    · have HGF := Lib.hid (rd_done HR.out HV.out HQO.out HQC.out hG (hsat rfl))
      have HM := Lib.hid hM
      clear hG hsat hM
      go_wp2_with fail
      go_loopw [14, 15] (fun ov kv wr => ∃ k : Nat, k ≤ S.length ∧ kv = .int .i64 k ∧ Mem w [cR w.heap.size 3 1 ov k (nums k (rnd E (isIn S) f)), cV w.heap.size g 71 74 2 vs (rowsV S.length Q G), cB w.heap.size w.heap.size 25 #[.slice (some ae) E.length ce, .slice (some ad) L.length ca]] wr) (fun _ kv _ => S.length - (intOf kv).toNat)
      case atStart => exact ⟨0, Nat.zero_le _, rfl, HM.out.nil_ 3 1⟩
      case round =>
        clear HM
        obtain ⟨k, hk, rfl, hM⟩ := hrel
        have HM := Lib.hid hM
        obtain ⟨Ao, co, hvo⟩ := own_sl (hM.get 0 rfl)
        subst hvo
        by_cases hlt : k < S.length
        · have hkE : k < E.length := by have := HSE.out; omega
          obtain ⟨aE, hAE, hble, ce0⟩ := set_at (RE.out.below hM.bel) hkE
          obtain rfl : ae = aE := by injection hAE
          obtain ⟨sd', hA, hbl, cS⟩ := bool_at (SR1.out.below hM.bel) hlt
          obtain rfl : sd = sd' := by injection hA
          rw [← isIn_of hlt] at cS
          have hgd : E.getD k 0 = E[k] := getD_l 0 hkE
          have HIK := Lib.hid (show isIn S k = false → (k, E[k]) ∈ Q from fun hs => by have h := HINI.out k hlt hs; rwa [hgd] at h)
          have HRK := Lib.hid (show isIn S k = false → rnd E (isIn S) f k = f (k, E[k]) from fun hs => by unfold rnd; rw [if_neg (by rw [hs]; simp), hgd])
          have HR0 := Lib.hid (show isIn S k = true → rnd E (isIn S) f k = 0 from fun hs => by unfold rnd; rw [if_pos hs])
          generalize E[k] = en at *
          have hlen := (hM.get 1 rfl).2.len
          rw [rowsV_len] at hlen
          have hkv : k < vs.length := by omega
          have hkr : k < (rowsV S.length Q G).length := by rw [rowsV_len]; omega
          have hrow := (hM.get 1 rfl).2.row k hkv hkr
          rw [rowsV_get] at hrow
          dsimp only at hrow
          have gcell := (hM.get 1 rfl).2.blk.get hkv
          have hRl : (rowOf Q k).length ≤ 30720 := by have := rowOf_len Q k; omega
          obtain ⟨Ak, ck, hvk⟩ := own_sl hrow
          rw [hvk] at gcell hrow
          have HROW := Lib.hid hrow
          have RK := Lib.hid (show Reads wr wr.heap.size 2 Ak (rowOf Q k).length ((rowP Q G k).flatMap arcCells) from Reads.of_own hrow)
          obtain ⟨p0, p1, pf⟩ := blk2 (hM.get 2 rfl).2
          have HRP := Lib.hid (rowP_len Q G k)
          have k0 : (0 : Int) ≤ (k : Int) := by omega
          have k1 : (k : Int) < (S.length : Int) := by omega
          have k2 : (k : Int) < (E.length : Int) := by omega
          have HN1 := Lib.hid (nums_one k (rnd E (isIn S) f))
          have hwz := hM.size
          have HVK := Lib.hid hvk
          clear hM hrow hvk hAE hA hgd
          cases hs : isIn S k
          · rw [hs] at cS
            have hxQ := HIK.out hs
            obtain ⟨j, hj, hjP, hjG, hjn⟩ := row_index HQN.out (G := G) hxQ
            have HJ := Lib.hid hj
            have HJP := Lib.hid hjP
            have HJN := Lib.hid hjn
            have hjs : j < (rowOf Q k).length := by rw [← HRP.out]; exact hj
            have hjo : (rowOf Q k)[j]? = some en := by
              rw [List.getElem?_eq_getElem hjs]
              have : (rowP Q G k)[j].1 = en := hjP
              simpa [rowP] using this
            obtain ⟨bk, ck2, hfo, -, -⟩ := World.ownsRow.form HROW.out (by omega)
            injection hfo with hfo _ hco
            subst hfo hco
            obtain ⟨d0, d1⟩ := own_pr HROW.out hjo
            have hgf : G (k, en) = rnd E (isIn S) f k := (HGF.out _ hxQ).trans (HRK.out hs).symm
            rw [hgf] at d1
            have j0 : (0 : Int) ≤ (j : Int) := by omega
            have j1 : (j : Int) < ((rowOf Q k).length : Int) := by omega
            generalize rnd E (isIn S) f k = z at *
            clear hjP hjG hjn hxQ hjo hs hgf d0
            go_upto_region 28 with fail
            go_quiet ((go_at_call 43; (with_reducible refine quiet_left (place_atn (rowP Q G k) (rowOf Q k).length HRP.out (by omega) en j HJ.out HJP.out HJN.out (some ⟨bk, 0, none⟩) ck wr.heap.size _ ?_)); exact RK.out))
            have HMW := Lib.hid (HM.out.drewN nq)
            generalize wr.drewN nq = W at *
            have HOW := Lib.hid (show W.ownsRow w.heap.size 3 1 (.slice Ao k co) k (nums k (rnd E (isIn S) f)) from HMW.out.get 0 rfl)
            have hWz := HMW.out.size
            clear d1 gcell p0 p1 pf cS ce0
            go_wp2_with (at_builtin; refine wpList_append_any _ rfl (.tmp 123) (.tmp 125) 29 rfl w.heap.size 3 i0 (.int .i64 0) 1 8 Try.underlying29 hi0 hz0 hz1 hz2 rfl (by decide) (.slice Ao k co) k (nums k (rnd E (isIn S) f)) rfl (HOW.out.alloc _) (W.heap.size + 1) (some ⟨W.heap.size, 0, none⟩) 1 1 [.int .i64 (z : Int)] rfl (reads_new1 _ _ _) (one_Z _) (len_ok (by omega)) (by omega) (by simp; omega) ?_; intro v1 x1 ho1 hg1 hv1; have HA := Lib.hid (HMW.out.app 0 (S := W.heap.size + 1) rfl (grown_pre hg1) ho1 (by simpa using hv1) (by omega)); clear ho1 hg1 hv1)
            refine ⟨⟨k + 1, by omega, by go_num, ?_⟩, by simp [intOf]; omega⟩
            rw [HN1.out]
            exact HA.out
          · rw [hs] at cS
            have hz := HR0.out hs
            rw [hz] at HN1
            have HOW := Lib.hid (show wr.ownsRow w.heap.size 3 1 (.slice Ao k co) k (nums k (rnd E (isIn S) f)) from HM.out.get 0 rfl)
            clear hs hz gcell
            go_wp2_with (at_builtin; refine wpList_append_any _ rfl (.tmp 123) (.tmp 125) 29 rfl w.heap.size 3 i0 (.int .i64 0) 1 8 Try.underlying29 hi0 hz0 hz1 hz2 rfl (by decide) (.slice Ao k co) k (nums k (rnd E (isIn S) f)) rfl (HOW.out.alloc _) (wr.heap.size + 1) (some ⟨wr.heap.size, 0, none⟩) 1 1 [.int .i64 0] rfl (reads_new1 _ _ _) (one_Z _) (len_ok (by omega)) (by omega) (by simp; omega) ?_; intro v1 x1 ho1 hg1 hv1; have HA := Lib.hid (HM.out.app 0 (S := wr.heap.size + 1) rfl (grown_pre hg1) ho1 (by simpa using hv1) (by omega)); clear ho1 hg1 hv1)
            refine ⟨⟨k + 1, by omega, by go_num, ?_⟩, by simp [intOf]; omega⟩
            rw [HN1.out]
            exact HA.out
        · obtain rfl : k = S.length := by omega
          have HF := Lib.hid (show RRd w E L S (.returned (.tuple #[.slice Ao S.length co, .int .i64 0])) wr from ⟨_, f, rfl, hM.get 0 rfl, HV.out, hM.bel⟩)
          clear hM HM
          go_wp2
          go_ret2
          exact HF.out
    · have HM := Lib.hid hM
      have HG := Lib.hid hG
      clear hG hsat hM
      go_wp2_with fail
      go_loopw [9, 10] (fun ch kv wr => ∃ (k : Nat) (b : Bool) (G' : Pr → Nat), k ≤ S.length ∧ ch = .bool b ∧ kv = .int .i64 k ∧ SwpP E L (isIn S) Q f G b G' k 0 0 ∧ Mem w [cV w.heap.size g 71 74 2 vs (rowsV S.length Q G'), cB w.heap.size w.heap.size 25 #[.slice (some ae) E.length ce, .slice (some ad) L.length ca]] wr) (fun _ kv _ => S.length - (intOf kv).toNat)
      case atStart => exact ⟨0, false, G, Nat.zero_le _, rfl, rfl, .start HG.out, HM.out⟩
      case round =>
        clear HM HG
        obtain ⟨k, b, G', hk, rfl, rfl, hsw, hM⟩ := hrel
        have HM := Lib.hid hM
        have HSW := Lib.hid hsw
        have hlen := (hM.get 0 rfl).2.len
        rw [rowsV_len] at hlen
        by_cases hlt : k < S.length
        · have hkL : k < L.length := by have := HLL.out; omega
          have HLS := Lib.hid (HL.out k hkL).2
          have hll := (HL.out k hkL).1
          have HTS := Lib.hid (HTO.out k hkL)
          have HGD := Lib.hid (show L.getD k [] = L[k] from getD_l [] hkL)
          have HROWL := Lib.hid (fun (X : World) (hX : Below w.heap.size w X) => row_at (RA.out.below hX) (fun k l hl => let ⟨u, hu, ha⟩ := HK.out k l hl; (⟨u, hu, ha.below hX⟩ : ∃ u, rows[k]? = some u ∧ ArcsAt X w.heap.size u l)) hkL)
          have hkv : k < vs.length := by omega
          have hRl : (rowOf Q k).length ≤ 30720 := by have := rowOf_len Q k; omega
          generalize L[k] = l at *
          have k0 : (0 : Int) ≤ (k : Int) := by omega
          have k1 : (k : Int) < (S.length : Int) := by omega
          have k2 : (k : Int) < (L.length : Int) := by omega
          clear hM hsw
          go_wp2_with fail
          go_loopw [9, 11] (fun ch jv wr => ∃ (j : Nat) (b : Bool) (G' : Pr → Nat), j ≤ (rowOf Q k).length ∧ ch = .bool b ∧ jv = .int .i64 j ∧ SwpP E L (isIn S) Q f G b G' k j 0 ∧ Mem w [cV w.heap.size g 71 74 2 vs (rowsV S.length Q G'), cB w.heap.size w.heap.size 25 #[.slice (some ae) E.length ce, .slice (some ad) L.length ca]] wr) (fun _ jv _ => (rowOf Q k).length - (intOf jv).toNat)
          case atStart => exact ⟨0, b, G', Nat.zero_le _, rfl, rfl, HSW.out, HM.out⟩
          case round =>
            clear HM HSW
            obtain ⟨j, b, G', hj, rfl, rfl, hsw, hM⟩ := hrel
            have HM := Lib.hid hM
            have HSW := Lib.hid hsw
            have hkr : k < (rowsV S.length Q G').length := by rw [rowsV_len]; omega
            have hrow := (hM.get 0 rfl).2.row k hkv hkr
            rw [rowsV_get] at hrow
            dsimp only at hrow
            have gcell := (hM.get 0 rfl).2.blk.get hkv
            obtain ⟨Ak, ck, hvk⟩ := own_sl hrow
            rw [hvk] at gcell
            have j0 : (0 : Int) ≤ (j : Int) := by omega
            have lg := (hM.get 0 rfl).2.blk.lt
            by_cases hjl : j < (rowOf Q k).length
            · obtain ⟨P, hP⟩ : ∃ P, (rowOf Q k)[j]? = some P := ⟨_, List.getElem?_eq_getElem hjl⟩
              have hxQ : (k, P) ∈ Q := rowOf_mem.1 (List.mem_of_getElem? hP)
              obtain ⟨-, hks, hP32, -⟩ := HQO.out _ hxQ
              dsimp only at hks hP32
              have hfb := HVL.out k hlt hks P
              rw [hvk] at hrow
              obtain ⟨bk, ck2, hfo, -, -⟩ := World.ownsRow.form hrow (by omega)
              injection hfo with hfo _ hco
              subst hfo hco
              have HVK := Lib.hid hvk
              have HPJ := Lib.hid hP
              have HXQ := Lib.hid hxQ
              have j1 : (j : Int) < ((rowOf Q k).length : Int) := by omega
              clear hM hrow hsw hvk hP hxQ hks
              go_wp2_with fail
              clear gcell lg
              go_loopw [9, 12] (fun ch iv wr => ∃ (i : Nat) (b : Bool) (G' : Pr → Nat), i ≤ l.length ∧ ch = .bool b ∧ iv = .int .i64 i ∧ SwpP E L (isIn S) Q f G b G' k j i ∧ Mem w [cV w.heap.size g 71 74 2 vs (rowsV S.length Q G'), cB w.heap.size w.heap.size 25 #[.slice (some ae) E.length ce, .slice (some ad) L.length ca]] wr) (fun _ iv _ => l.length - (intOf iv).toNat)
              case atStart => exact ⟨0, b, G', Nat.zero_le _, rfl, rfl, HSW.out, HM.out⟩
              case round =>
                clear HM HSW
                obtain ⟨i, b, G', hi, rfl, rfl, hsw, hM⟩ := hrel
                have HM := Lib.hid hM
                have HSW := Lib.hid hsw
                obtain ⟨p0, p1, pf⟩ := blk2 (hM.get 1 rfl).2
                obtain ⟨aL, Al, cl, hAL, hbla, cr, rk⟩ := HROWL.out wr hM.bel
                obtain rfl : ad = aL := by injection hAL
                have i0' : (0 : Int) ≤ (i : Int) := by omega
                by_cases hil : i < l.length
                · obtain ⟨al, hA, hbl2, a0, a1⟩ := arc_at rk hil
                  subst hA
                  have hx' := HTS.out l[i] (List.getElem_mem _)
                  have hx1' := HLS.out i hil
                  have hiG : i < (L.getD k []).length := by rw [HGD.out]; exact hil
                  have hGe : (L.getD k [])[i] = l[i] := by simp only [HGD.out]
                  have ham : l[i] ∈ L.getD k [] := by rw [HGD.out]; exact List.getElem_mem _
                  have HKEEP := Lib.hid (fun h => hsw.keep HPJ.out hiG h)
                  have HUP := Lib.hid (fun h => hsw.up HQN.out HV.out HQO.out HQC.out HPJ.out hiG h)
                  have hbet := thr_better HV.out HQO.out HQC.out hsw.le HXQ.out (a := l[i]) ham
                  have HLE := Lib.hid hsw.le
                  have hlex := hsw.le _ HXQ.out
                  rw [hGe] at HKEEP HUP
                  have HCL := Lib.hid (HQC.out _ HXQ.out l[i] ham)
                  generalize l[i] = a at *
                  obtain ⟨ua, at_⟩ := a
                  dsimp only at a0 a1 hx' hx1' hbet
                  obtain ⟨t, rfl⟩ : ∃ t : Nat, at_ = (t : Int) := ⟨at_.toNat, by omega⟩
                  have htn : t < S.length := by omega
                  obtain ⟨z, hz⟩ : ∃ z, thr E (isIn S) G' P (ua, (t : Int)) = z := ⟨_, rfl⟩
                  rw [hz] at HKEEP HUP hbet
                  have hkr : k < (rowsV S.length Q G').length := by rw [rowsV_len]; omega
                  have HKR := Lib.hid hkr
                  have hrow := (hM.get 0 rfl).2.row k hkv hkr
                  rw [rowsV_get, HVK.out] at hrow
                  dsimp only at hrow
                  obtain ⟨d0, d1⟩ := own_pr hrow HPJ.out
                  have gcell := (hM.get 0 rfl).2.blk.get hkv
                  rw [HVK.out] at gcell
                  have lg := (hM.get 0 rfl).2.blk.lt
                  have lb := (hrow.lt bk rfl).2
                  have hwz := hM.size
                  have lsp := (hM.get 1 rfl).2.lt
                  have hb1' : (ad.add k).block < wr.heap.size := by rw [block_of_add]; omega
                  have hb2' : (al.add (i * 2)).block < wr.heap.size := by rw [block_of_add]; omega
                  have i1' : (i : Int) < (l.length : Int) := by omega
                  have t0 : (0 : Int) ≤ (t : Int) := by omega
                  have t1 : (t : Int) < (S.length : Int) := by omega
                  have HTHR := Lib.hid (show ∀ X, Below wr.heap.size wr X → Calls Try.prog 42 #[.agg #[.slice (some ae) E.length ce, .slice (some ad) L.length ca], .slice (some sd) S.length c, .slice (some ⟨g, 0, none⟩) S.length S.length, .int .u32 (P : Int), .agg #[.int .u32 (ua : Int), .int .i64 (t : Int)]] X (fun e X' => e = .returned (.int .i64 (z : Int)) ∧ Below X.heap.size X X') from fun X hX => by
                    have hMX := HM.out.below hX
                    cases hst : isIn S t
                    · have hsuc := HCL.out (by simpa using hst)
                      unfold PlL.suc at hsuc
                      simp only [Int.toNat_natCast] at hsuc
                      obtain ⟨j', hj', hjP', hjG', hjn'⟩ := row_index HQN.out (G := G') hsuc
                      dsimp only at hj' hjP' hjG' hjn'
                      have htv : t < vs.length := by omega
                      have htr : t < (rowsV S.length Q G').length := by rw [rowsV_len]; omega
                      have hrt := (hMX.get 0 rfl).2.row t htv htr
                      rw [rowsV_get] at hrt
                      dsimp only at hrt
                      rw [← rowP_len Q G' t] at hrt
                      obtain ⟨At, ct, hvt⟩ := own_sl hrt
                      have gc := (hMX.get 0 rfl).2.blk.get htv
                      rw [hvt] at gc hrt
                      have hRt : (rowP Q G' t).length ≤ 1000000 := by rw [rowP_len]; have := rowOf_len Q t; omega
                      have hle2 := HLE.out _ hsuc
                      have hle3 := HVL.out t htn hst (PlL.aft E P (ua, (t : Int)))
                      exact thr_pair E L _ HE.out S (some sd) c g S.length S.length P ua t htn htn (by omega) (by omega) HSE.out hst hP32 hx1' (rowP Q G' t) hRt At ct j' (G' (t, PlL.aft E P (ua, (t : Int)))) (PlL.aft E P (ua, (t : Int))) z rfl hj' hjP' hjG' (by omega) hjn' (by
                        rw [← hz]
                        unfold thr PlL.rst
                        simp only [Int.toNat_natCast]
                        rw [if_neg (by rw [hst]; simp)]) X (HS.out.go hMX.bel) (SR1.out.go hMX.bel) (hMX.get 0 rfl).2.blk.lt gc (Reads.of_own hrt)
                    · have hz1 : z = 1 := by rw [← hz]; unfold thr; simp only [Int.toNat_natCast]; rw [if_pos hst]
                      subst hz1
                      exact thr_legit E L _ S (some sd) c g S.length S.length P ua t htn (by omega) hst X (HS.out.go hMX.bel) (SR1.out.go hMX.bel))
                  have rule := below_rule wr
                  have rule2 := below_addr wr
                  have HZ := Lib.hid hz
                  have HPB := Lib.hid (show z ≤ S.length by omega)
                  clear hM hsw rk hAL hx' hiG hGe ham hbet hz hrow hkr hlex
                  go_upto_region 19 with fail
                  go_cut [13] (fun v wx => v = .int .i64 (z : Int) ∧ Below wr.heap.size wr wx)
                  case first =>
                    go_region_held3 (fun X => Below wr.heap.size wr X) (first | exact Below.refl _ _ | exact Below.drew (Below.refl _ _) | assumption | exact below_step (by assumption) (by assumption))
                      (first
                        | (go_at_call 42; (with_reducible refine (HTHR.out _ ?_).mono ?_); (first | exact Below.refl _ _ | exact Below.drew (Below.refl _ _) | assumption | exact Below.drew (by assumption)); rintro e u1 ⟨rfl, hu1⟩))
                    all_goals
                      go_wp2_with fail
                      go_meet
                      refine ⟨rfl, ?_⟩
                      first | assumption | exact Below.drew (by assumption) | exact below_step (by assumption) (by assumption)
                  case rest =>
                    obtain ⟨rfl, hb⟩ := hcut
                    have HMC := Lib.hid (HM.out.below hb)
                    have hM := HMC.out
                    clear rule rule2 d0 d1 gcell lg lb hwz lsp hb1' hb2' a0 a1 cr p0 p1 pf hb HTHR HM
                    have hrow := (hM.get 0 rfl).2.row k hkv HKR.out
                    rw [rowsV_get, HVK.out] at hrow
                    dsimp only at hrow
                    obtain ⟨d0, d1⟩ := own_pr hrow HPJ.out
                    have gcell := (hM.get 0 rfl).2.blk.get hkv
                    rw [HVK.out] at gcell
                    have lg := (hM.get 0 rfl).2.blk.lt
                    have lb := (hrow.lt bk rfl).2
                    have cf := hrow.frozenAt (j * 2 + 1)
                    have HGL := Lib.hid (show (rowsV S.length Q G')[k]'HKR.out = ((rowOf Q k).length, (rowP Q G' k).flatMap arcCells) from rowsV_get _)
                    clear hM hrow
                    by_cases hgt : G' (k, P) < z
                    · have HU := Lib.hid (HUP.out hgt)
                      have HSET := Lib.hid (HMC.out.storeV 0 rfl (by decide) (u := .int .i64 (z : Int)) hkv HKR.out HVK.out HGL.out (rowsV_upd HQN.out HPJ.out))
                      generalize G' (k, P) = y at *
                      have e1 : decide ((y : Int) < (z : Int)) = true := decide_eq_true (by omega)
                      have e2 : decide (y < z) = true := decide_eq_true hgt
                      clear hgt HUP HKEEP
                      go_wp2
                      exact ⟨⟨i + 1, true, updP G' (k, P) z, by omega, rfl, by go_num, HU.out, HSET.out⟩, by simp [intOf]; omega⟩
                    · have HKP := Lib.hid (HKEEP.out (by omega))
                      generalize hy : G' (k, P) = y at d1 hgt
                      have e1 : decide ((y : Int) < (z : Int)) = false := decide_eq_false (by omega)
                      have e2 : decide (y < z) = false := decide_eq_false hgt
                      clear hgt HUP HKEEP hy
                      go_wp2
                      exact ⟨⟨i + 1, b, G', by omega, rfl, by go_num, HKP.out, HMC.out⟩, by simp [intOf]; omega⟩
                · obtain rfl : i = l.length := by omega
                  have HNX := Lib.hid (hsw.pair (by rw [HGD.out]; exact Nat.le_refl _))
                  clear hM hsw rk hAL hil
                  go_wp2
                  exact ⟨⟨j + 1, b, G', by omega, rfl, by go_num, HNX.out, HM.out⟩, by simp [intOf]; omega⟩
            · obtain rfl : j = (rowOf Q k).length := by omega
              have HNX := Lib.hid (hsw.row (Nat.le_refl _))
              clear hM hsw hrow hjl hvk
              go_wp2
              exact ⟨⟨k + 1, b, G', by omega, rfl, by go_num, HNX.out, HM.out⟩, by simp [intOf]; omega⟩
        · obtain rfl : k = S.length := by omega
          have hend := hsw.fin
          have HSAT := Lib.hid (show b = false → ∀ x ∈ Q, SatP E L (isIn S) G' x from fun hb x hx => (hsw.no hb).2.1 x hx (HQO.out x hx).1)
          have HLE := Lib.hid hsw.le
          clear hM hsw hlt HSW
          generalize hq : gapP f G' Q + (if b = true then 1 else 0) = q at *
          have HQ := Lib.hid hq
          clear hq
          go_wp2
          go_roundg q
          case measure => simpa using hend
          case rel => exact ⟨b, G', rfl, HQ.out.symm, HLE.out, HSAT.out, HM.out⟩
end Go.Proofs.Ytbilciiffecdgaa
