/- ref20.Schedule. -/
import Derived.Test.YtbilciiffecdgaaRA
import Derived.Test.YtbilciiffecdgaaE3
namespace Go.Proofs.Ytbilciiffecdgaa
open Go.RowKit

set_option maxHeartbeats 1000000 in
theorem rsched_err (E : List Nat) (L : List (List Arc)) (v : Value) (hE : WfE E) (hL : WfL L) (S : List Bool) (A : Option Addr) (c : Nat) (from_ : Int) (z : Int) (hz : z ≠ 0) (h : wchk E L S = z) (w : World) (hS : SpaceAt w w.heap.size v E L) (hSr : Reads w w.heap.size 1 A S.length (S.map Value.bool)) :
    Calls Try.prog 22 #[v, .slice A S.length c, .int .i64 from_] w fun e w' => e = .returned (.tuple #[.slice none 0 0, .int .i64 z]) ∧ Below w.heap.size w w' := by
  have HS := Lib.hid hS
  obtain ⟨ve, va, rfl, ⟨Ae, ce, rfl, re⟩, ⟨Aa, ca, rows, rfl, ra, hk⟩⟩ := hS
  have HM0 := Lib.hid ((Mem.start w).new 25 #[.slice Ae E.length ce, .slice Aa L.length ca])
  have HE := Lib.hid hE
  have HL := Lib.hid hL
  have H := Lib.hid h
  have HZ := Lib.hid hz
  have SR := Lib.hid hSr
  have t1 : (z != 0) = true := by rw [bne_iff_ne]; exact hz
  clear hE hL h re ra hk hz hSr
  go_enter Try.func22, Try.ntmps22
  go_wp2_with fail
  refine (rmoves_err E L _ HE.out HL.out S A c z HZ.out H.out _ (HS.out.go HM0.out.bel) (SR.out.go HM0.out.bel)).mono ?_
  rintro e w1 ⟨rfl, hb1⟩
  have HM1 := Lib.hid (HM0.out.below hb1)
  clear hb1
  go_wp2
  go_ret2
  exact ⟨rfl, HM1.out.bel⟩
set_option maxHeartbeats 1000000 in
theorem rsched_range (E : List Nat) (L : List (List Arc)) (v : Value) (hE : WfE E) (hL : WfL L) (S : List Bool) (A : Option Addr) (c : Nat) (from_ : Int) (h : wchk E L S = 0) (hf : from_ < 0 ∨ (S.length : Int) ≤ from_) (w : World) (hS : SpaceAt w w.heap.size v E L) (hSr : Reads w w.heap.size 1 A S.length (S.map Value.bool)) :
    Calls Try.prog 22 #[v, .slice A S.length c, .int .i64 from_] w fun e w' => e = .returned (.tuple #[.slice none 0 0, .int .i64 2]) ∧ Below w.heap.size w w' := by
  have HS := Lib.hid hS
  obtain ⟨ve, va, rfl, ⟨Ae, ce, rfl, re⟩, ⟨Aa, ca, rows, rfl, ra, hk⟩⟩ := hS
  have HM0 := Lib.hid ((Mem.start w).new 25 #[.slice Ae E.length ce, .slice Aa L.length ca])
  have HE := Lib.hid hE
  have HL := Lib.hid hL
  have SR := Lib.hid hSr
  have H := Lib.hid h
  obtain ⟨hok, hSl, -⟩ := wchk_zero h
  obtain ⟨hn1, hn2, -, -⟩ := PlG.ok_parts hok
  have hn0 : 1 ≤ S.length := by omega
  have hn5 : S.length ≤ 32768 := by omega
  have I1 := Lib.hid (show (decide ((0 : Int) ≤ from_) && decide (from_ ≤ (S.length : Int) - 1)) = false from by
    rw [Bool.and_eq_false_iff]
    rcases hf with h | h
    · exact .inl (decide_eq_false (by omega))
    · exact .inr (decide_eq_false (by omega)))
  clear hE hL h re ra hk hSr hf hok hSl hn1 hn2
  go_enter Try.func22, Try.ntmps22
  go_wp2_with fail
  refine (rmoves_ok E L _ HE.out HL.out S A c H.out _ (HS.out.go HM0.out.bel) (SR.out.go HM0.out.bel)).mono ?_
  rintro e w1 ⟨g, f, rfl, hg, bk, hv, hb1⟩
  have HM1 := Lib.hid (HM0.out.below hb1)
  clear hb1 bk hv hg
  go_wp2_with fail
  refine (in_is _ _ _ _ I1.out _).mono ?_
  rintro e w' ⟨rfl, rfl⟩
  go_wp2
  go_ret2
  exact ⟨rfl, HM1.out.bel⟩

set_option maxRecDepth 100000 in
set_option maxHeartbeats 4000000 in
theorem rsched_ok (E : List Nat) (L : List (List Arc)) (v : Value) (hE : WfE E) (hL : WfL L) (S : List Bool) (A : Option Addr) (c : Nat) (k0 : Nat) (hk0 : k0 < S.length) (h : wchk E L S = 0) (w : World) (hS : SpaceAt w w.heap.size v E L) (hSr : Reads w w.heap.size 1 A S.length (S.map Value.bool)) :
    Calls Try.prog 22 #[v, .slice A S.length c, .int .i64 (k0 : Int)] w (WSch w L S k0) := by
  have HS := Lib.hid hS
  obtain ⟨ve, va, rfl, ⟨Ae, ce, rfl, re⟩, ⟨Aa, ca, rows, rfl, ra, hk⟩⟩ := hS
  have HM0 := Lib.hid ((Mem.start w).new 25 #[.slice Ae E.length ce, .slice Aa L.length ca])
  obtain ⟨hok, hSl, hc⟩ := wchk_zero h
  obtain ⟨hn1, hn2, hn3, hto⟩ := PlG.ok_parts hok
  obtain ⟨ad, hA, -⟩ := ra.2 (by omega)
  subst hA
  obtain ⟨sd, hA, -⟩ := hSr.2 (by omega)
  subst hA
  have HE := Lib.hid hE
  have HL := Lib.hid hL
  have SR := Lib.hid hSr
  have RA := Lib.hid ra
  have HK := Lib.hid hk
  have H0 := Lib.hid h
  have HLL := Lib.hid (show L.length = S.length by omega)
  have HTO := Lib.hid (show ∀ k (hk : k < L.length), ∀ x ∈ L[k], 0 ≤ x.2 ∧ x.2 < (S.length : Int) from fun k hk x hx => by have := hto k hk x hx; omega)
  have hn5 : S.length ≤ 32768 := by omega
  have I1 := Lib.hid (show (decide ((0 : Int) ≤ (k0 : Int)) && decide ((k0 : Int) ≤ (S.length : Int) - 1)) = true from by
    rw [Bool.and_eq_true]; exact ⟨decide_eq_true (by omega), decide_eq_true (by omega)⟩)
  obtain ⟨j0, hj0, hy0, hy1, hy2⟩ := info_parts Try.infoU32
  obtain ⟨r, hr⟩ := conv_rank h
  have HR := Lib.hid hr
  have HCB := Lib.hid (cost_ok cPop hL cPop_le (n := S.length))
  clear hE hL hSr re ra hk h hc hok hSl hn1 hn2 hn3 hto hr
  go_enter Try.func22, Try.ntmps22
  go_wp2_with fail
  refine (rmoves_ok E L _ HE.out HL.out S (some sd) c H0.out _ (HS.out.go HM0.out.bel) (SR.out.go HM0.out.bel)).mono ?_
  rintro e w1 ⟨gm, f, rfl, hg, bk, hv, hb1⟩
  have HM1 := Lib.hid ((HM0.out.pushBlk hb1 hg bk).nil_ 40 1)
  have HV := Lib.hid hv
  have HVL := Lib.hid (fun k (hk : k < S.length) => hv.le HR.out HCB.out S.length k hk (Nat.le_of_lt (HR.out.lt k hk)))
  clear hb1 bk hv hg HM0 HCB
  go_wp2_with fail
  refine (in_is _ _ _ _ I1.out _).mono ?_
  rintro e w' ⟨rfl, rfl⟩
  go_wp2_with fail
  go_loopg [10, 11] (r k0) (ScR w #[.slice Ae E.length ce, .slice (some ad) L.length ca] gm S.length L (isIn S) f r k0)
  case atStart => exact ⟨k0, [], rfl, hk0, rfl, rfl, HM1.out⟩
  case round =>
    clear HM1
    obtain ⟨k, D, rfl, hkn, hgh, hD, hM⟩ := hrel
    have HM := Lib.hid hM
    have HD := Lib.hid hD
    obtain ⟨As, cs, hvs⟩ := own_sl (hM.get 0 rfl)
    subst hvs
    obtain ⟨sd', hA, hbl, cS⟩ := bool_at (SR.out.below hM.bel) hkn
    obtain rfl : sd = sd' := by injection hA
    rw [← isIn_of hkn] at cS
    have k0' : (0 : Int) ≤ (k : Int) := by omega
    have k1 : (k : Int) < (S.length : Int) := by omega
    clear hA hD
    cases hs : isIn S k
    · rw [hs] at cS
      have hkL : k < L.length := by have := HLL.out; omega
      have hll := (HL.out k hkL).1
      have HLS := Lib.hid (HL.out k hkL).2
      have HTS := Lib.hid (HTO.out k hkL)
      have hgd : L.getD k [] = L[k] := getD_l [] hkL
      obtain ⟨a0, ha0, hm0, he0⟩ := PlL.nxt_some HR.out HV.out hkn hs
      rw [hgd] at ha0 hm0
      have HNX := Lib.hid (PlL.sched_next HR.out HV.out hkn hs (a := a0) (by rw [hgd]; exact ha0))
      have hdn := (HR.out.down k hkn hs).2 a0 (by rw [hgd]; exact hm0)
      have hlenS := PlL.sched_len (L := L) (S := isIn S) (c := cPop) (f := f) S.length k0
      have hDl : D.length ≤ S.length := by have := congrArg List.length HD.out; simp at this; omega
      have HROW := Lib.hid (fun (X : World) (hX : Below w.heap.size w X) => row_at (RA.out.below hX) (fun k l hl => let ⟨u, hu, ha⟩ := HK.out k l hl; (⟨u, hu, ha.below hX⟩ : ∃ u, rows[k]? = some u ∧ ArcsAt X w.heap.size u l)) hkL)
      have k2 : (k : Int) < (L.length : Int) := by omega
      generalize L[k] = l at *
      unfold PlL.nxt at ha0
      obtain ⟨-, q, hq, hqe, hno⟩ := List.find?_eq_some_iff_getElem.1 ha0
      have HNO := Lib.hid (fun j (hj : j < q) => (show cPop (l[j]'(by omega)) + f (l[j]'(by omega)).2.toNat ≠ f k from by have := hno j hj; simpa using this))
      have HQE := Lib.hid hqe
      have HE0 := Lib.hid he0
      have HDN := Lib.hid hdn
      clear hM hs hgd ha0 hm0 he0 hno hqe
      go_wp2_with fail
      clear cS
      go_loopw [12] (fun iv wr => ∃ j : Nat, j ≤ q ∧ iv = .int .i64 j ∧ Mem w [cR w.heap.size 40 1 (.slice As D.length cs) D.length (D.map U32), cB w.heap.size gm 3 (nums S.length f).toArray, cB w.heap.size w.heap.size 25 #[.slice Ae E.length ce, .slice (some ad) L.length ca]] wr) (fun iv _ => q - (intOf iv).toNat)
      case atStart => exact ⟨0, Nat.zero_le _, rfl, HM.out⟩
      case round =>
        clear HM
        obtain ⟨j, hj, rfl, hM⟩ := hrel
        have HM := Lib.hid hM
        have hjl : j < l.length := by omega
        obtain ⟨p0, p1, pf⟩ := blk2 (hM.get 2 rfl).2
        obtain ⟨aL, Ak, ck, hAL, hbl, cr, rk⟩ := HROW.out wr hM.bel
        obtain rfl : ad = aL := by injection hAL
        obtain ⟨ak, hA, hbk, b0, b1⟩ := arc_at rk hjl
        subst hA
        have hx' := HTS.out l[j] (List.getElem_mem _)
        have hx1' := HLS.out j hjl
        have HNOJ := Lib.hid (show j < q → cPop l[j] + f l[j].2.toNat ≠ f k from fun h => HNO.out j h)
        have HQJ := Lib.hid (show j = q → l[j] = a0 from fun h => by subst h; exact HQE.out)
        have hcl := cPop_le l[j]
        have HLJ := Lib.hid (show l[j]? = some l[j] from List.getElem?_eq_getElem hjl)
        unfold cPop at HNOJ hcl
        generalize hla : l[j] = a at *
        obtain ⟨ua, at_⟩ := a
        dsimp only at b0 b1 hx' hx1' HNOJ HQJ hcl
        obtain ⟨t, rfl⟩ : ∃ t : Nat, at_ = (t : Int) := ⟨at_.toNat, by omega⟩
        rw [Int.toNat_natCast] at HNOJ
        have htn : t < S.length := by omega
        have hvt := HVL.out t htn
        have hvk := HVL.out k hkn
        have c1 := num_at (hM.get 1 rfl).2 hkn
        have c2 := num_at (hM.get 1 rfl).2 htn
        have j0' : (0 : Int) ≤ (j : Int) := by omega
        have j1' : (j : Int) < (l.length : Int) := by omega
        have t0 : (0 : Int) ≤ (t : Int) := by omega
        have t1 : (t : Int) < (S.length : Int) := by omega
        have hw1 := IntWalk.i64_in ((Pl.pop ua : Int) + (f t : Int)) (by omega)
        clear hM hx' hla rk hAL
        by_cases hjq : j = q
        · have HA0 := Lib.hid (HQJ.out hjq)
          have hsum := HE0.out
          rw [← HA0.out] at hsum
          unfold cPop at hsum
          dsimp only [Int.toNat_natCast] at hsum
          have te : ((f k : Int) != (Pl.pop ua : Int) + (f t : Int)) = false := by
            have : (f k : Int) = (Pl.pop ua : Int) + (f t : Int) := by omega
            rw [this]; simp
          have HNX2 := Lib.hid (show PlL.sched L (isIn S) cPop f S.length k = ua :: PlL.sched L (isIn S) cPop f S.length t from by rw [HNX.out, ← HA0.out, Int.toNat_natCast])
          have hrt : r t < r k := by have := HDN.out.2; rw [← HA0.out, Int.toNat_natCast] at this; exact this
          clear hsum HQJ HNOJ hjq
          go_upto_region 10 with fail
          go_quiet ((go_at_call 25; with_reducible exact quiet_left (count_any ua hx1' _)))
          have HM5 := Lib.hid (HM.out.drewN nq)
          have hM5 := HM5.out
          generalize wr.drewN nq = W5 at *
          clear p0 p1 pf cr b0 b1 c1 c2 te hw1
          obtain ⟨p0, p1, pf⟩ := blk2 (hM5.get 2 rfl).2
          obtain ⟨aL, Ak', ck', hAL, hbl', cr, rk⟩ := HROW.out W5 hM5.bel
          obtain rfl : ad = aL := by injection hAL
          obtain ⟨ak', hA, hbk', b0, b1⟩ := arc_at rk hjl
          subst hA
          have hlj : l[j] = (ua, (t : Int)) := by have := HLJ.out; rw [List.getElem?_eq_getElem hjl] at this; injection this
          rw [hlj] at b0 b1
          dsimp only at b0 b1
          have HOW := Lib.hid (show W5.ownsRow w.heap.size 40 1 (.slice As D.length cs) D.length (D.map U32) from hM5.get 0 rfl)
          have hsz5 := hM5.size
          clear hM5 rk hAL hlj
          go_upto_region 12 with fail
          go_wp2_with (at_builtin; refine wpList_append_any _ rfl (.tmp 64) (.tmp 74) 22 rfl w.heap.size 40 j0 (.int .u32 0) 1 4 Try.underlying22 hj0 hy0 hy1 hy2 rfl (by decide) (.slice As D.length cs) D.length (D.map U32) rfl (HOW.out.alloc _) (W5.heap.size + 1) (some ⟨W5.heap.size, 0, none⟩) 1 1 [U32 ua] rfl (reads_new1 _ _ _) (one_U ua) (len_ok (by omega)) (by omega) (by simp; omega) ?_; intro v1 x1 ho1 hg1 hv1; have HA := Lib.hid ((HM5.out.app 0 (S := W5.heap.size + 1) rfl (grown_pre hg1) ho1 (by simpa using hv1) (by omega))); clear p0 p1 pf cr b0 b1; obtain ⟨p0, p1, pf⟩ := blk2 (HA.out.get 2 rfl).2; obtain ⟨aL, Ak2, ck2, hAL, hbl2, cr, rk⟩ := HROW.out x1 HA.out.bel; obtain rfl : ad = aL := (by injection hAL); obtain ⟨ak2, hA2, hbk2, b0, b1⟩ := arc_at rk hjl; subst hA2; have hlj : l[j] = (ua, (t : Int)) := (by have := HLJ.out; rw [List.getElem?_eq_getElem hjl] at this; injection this); rw [hlj] at b0 b1; dsimp only at b0 b1; clear ho1 hg1 hv1 rk hAL hlj)
          go_roundg (r t)
          case measure => omega
          case rel =>
            refine ⟨t, D ++ [ua], rfl, htn, rfl, ?_, ?_⟩
            · rw [← HD.out, HNX2.out]; simp
            · rw [List.length_append, List.map_append]
              exact HA.out
        · have hne : Pl.pop ua + f t ≠ f k := HNOJ.out (by omega)
          have te : ((f k : Int) != (Pl.pop ua : Int) + (f t : Int)) = true := by rw [bne_iff_ne]; omega
          clear HQJ HNOJ
          go_upto_region 10 with fail
          go_quiet ((go_at_call 25; with_reducible exact quiet_left (count_any ua hx1' _)))
          go_wp2
          exact ⟨⟨j + 1, by omega, by go_num, HM.out.drewN nq⟩, by simp [intOf]; omega⟩
    · rw [hs] at cS
      have hdn : PlL.sched L (isIn S) cPop f S.length k = [] := PlL.sched_done hs _
      have HF := Lib.hid (show WSch w L S k0 (.returned (.tuple #[.slice As D.length cs, .int .i64 0])) wr from by
        have hd := HD.out
        rw [hdn, List.append_nil] at hd
        refine ⟨_, f, rfl, HV.out, ?_, hM.bel⟩
        rw [← hd]
        exact hM.get 0 rfl)
      clear hM hs hdn
      go_wp2
      go_ret2
      exact HF.out
end Go.Proofs.Ytbilciiffecdgaa
