/- worst.Rounds. -/
import Derived.Test.YtbilciiffecdgaaE6
import Derived.Test.YtbilciiffecdgaaPlJ
namespace Go.Proofs.Ytbilciiffecdgaa
open Go.RowKit

set_option maxHeartbeats 1000000 in
theorem wrounds_err (E : List Nat) (L : List (List Arc)) (v : Value) (hE : WfE E) (hL : WfL L) (S : List Bool) (A : Option Addr) (c : Nat) (z : Int) (hz : z ≠ 0) (h : wchk E L S = z) (w : World) (hS : SpaceAt w w.heap.size v E L) (hSr : Reads w w.heap.size 1 A S.length (S.map Value.bool)) :
    Calls Try.prog 19 #[v, .slice A S.length c] w fun e w' => e = .returned (.tuple #[.slice none 0 0, .int .i64 z]) ∧ Below w.heap.size w w' := by
  have HS := Lib.hid hS
  obtain ⟨ve, va, rfl, ⟨Ae, ce, rfl, re⟩, ⟨Aa, ca, rows, rfl, ra, hk⟩⟩ := hS
  have HB0 := Lib.hid ((Below.refl w.heap.size w).alloc (Nat.le_refl _) (.cells #[.slice Ae E.length ce, .slice Aa L.length ca] 25))
  have HE := Lib.hid hE
  have HL := Lib.hid hL
  have SR := Lib.hid hSr
  have H := Lib.hid h
  have t1 : (z != 0) = true := by rw [bne_iff_ne]; exact hz
  clear hE hL h re ra hk hSr
  go_enter Try.func19, Try.ntmps19
  go_wp2_with fail
  refine (word_err E L _ HE.out HL.out S A c z hz H.out _ (HS.out.go HB0.out) (SR.out.go HB0.out)).mono ?_
  rintro e w1 ⟨rfl, hb1⟩
  have HB1 := Lib.hid (below_end hb1 HB0.out)
  clear hb1
  go_wp2
  go_ret2
  exact ⟨rfl, HB1.out⟩
/-- the greatest numbers of rounds -/
def WRd (w : World) (E : List Nat) (L : List (List Arc)) (S : List Bool) (e : Ending) (w' : World) : Prop :=
  ∃ (g : Nat) (R : Nat × Nat → Nat), e = .returned (.tuple #[.slice (some ⟨g, 0, none⟩) S.length S.length, .int .i64 0]) ∧ w.heap.size ≤ g ∧ Blk w' g 3 (nums S.length (rnd E (isIn S) R)).toArray ∧ PlL.IsRd S.length E L (isIn S) R ∧ (∀ k, k < S.length → rnd E (isIn S) R k ≤ S.length) ∧ (∃ r, PlL.Ranked S.length L (isIn S) r) ∧ Below w.heap.size w w'
theorem Try.zeroI (w : World) : (zeroValue 3).run Try.prog w = .ok (.int .i64 0) w := by kernel_rfl
theorem own_u32 {w : World} {base e g n c k x : Nat} {l : List Nat} (h : w.ownsRow base e 1 (.slice (some ⟨g, 0, none⟩) n c) n (l.map U32)) (hk : l[k]? = some x) : w.cell? ⟨g, k, none⟩ = some (.int .u32 (x : Int)) := by
  have hl : k < l.length := (List.getElem?_eq_some_iff.1 hk).1
  have h1 := h.1
  have := h.cellAt k (by rw [List.length_map] at h1; omega)
  rw [this, List.getElem?_map, hk]
  rfl
/-- rows of rows that a callee has made -/
theorem Mem.pushGU {w0 w w' : World} {l : List (Ch w0.heap.size)} (h : Mem w0 l w) (hb : Below w.heap.size w w') {g te e : Nat} {vs : List Value} {R : List (List Nat)} (hg : w.heap.size ≤ g) (gr : GridU w' w.heap.size g te e vs R) : Mem w0 (cU w0.heap.size g te e vs R :: l) w' :=
  h.pushBelow hb ⟨Nat.le_trans h.size hg, ⟨gr.len, gr.blk, fun x hv hr => own_base (gr.row x hv hr) h.size, gr.ne⟩⟩ (fun b e => by
    rcases e with rfl | ⟨x, hx, e⟩
    · exact hg
    · exact ((gr.row x hx (by have := gr.len; omega)).lt _ e).1)

set_option maxRecDepth 100000 in
set_option maxHeartbeats 4000000 in
theorem wrounds_ok (E : List Nat) (L : List (List Arc)) (v : Value) (hE : WfE E) (hL : WfL L) (S : List Bool) (A : Option Addr) (c : Nat) (h : wchk E L S = 0) (hfew : ∀ k, k < S.length → Pl.pop (E.getD k 0) ≤ 8) (hn : S.length ≤ 120) (w : World) (hS : SpaceAt w w.heap.size v E L) (hSr : Reads w w.heap.size 1 A S.length (S.map Value.bool)) :
    Calls Try.prog 19 #[v, .slice A S.length c] w (WRd w E L S) := by
  have HS := Lib.hid hS
  obtain ⟨ve, va, rfl, ⟨Ae, ce, rfl, re⟩, ⟨Aa, ca, rows, rfl, ra, hk⟩⟩ := hS
  obtain ⟨hok, hSl, hc⟩ := wchk_zero h
  have HOK := Lib.hid hok
  obtain ⟨hn1, hn2, hn3, hto⟩ := PlG.ok_parts hok
  obtain ⟨ad, hA, -⟩ := ra.2 (by omega)
  subst hA
  obtain ⟨ae, hA, -⟩ := re.2 (by omega)
  subst hA
  obtain ⟨sd, hA, -⟩ := hSr.2 (by omega)
  subst hA
  rw [← hSl] at HS ⊢
  have HB0 := Lib.hid ((Below.refl w.heap.size w).alloc (Nat.le_refl _) (.cells #[.slice (some ae) S.length ce, .slice (some ad) L.length ca] 25))
  have HE := Lib.hid hE
  have HL := Lib.hid hL
  have SR := Lib.hid hSr
  have RA := Lib.hid ra
  have RE := Lib.hid re
  have HK := Lib.hid hk
  have HSE := Lib.hid hSl
  have HFEW := Lib.hid hfew
  have H0 := Lib.hid h
  have HC := Lib.hid hc
  have HLL := Lib.hid (show L.length = S.length by omega)
  have HTO := Lib.hid (show ∀ k (hk : k < L.length), ∀ x ∈ L[k], 0 ≤ x.2 ∧ x.2 < (S.length : Int) from fun k hk x hx => by have := hto k hk x hx; omega)
  have hn0 : 1 ≤ S.length := by omega
  clear hE hL hSr re ra hk hok hSl hn1 hn2 hn3 hto hfew h hc
  go_enter Try.func19, Try.ntmps19
  go_wp2_with fail
  refine (word_ok E L _ HE.out HL.out S (some sd) c H0.out _ (HS.out.go HB0.out) (SR.out.go HB0.out)).mono ?_
  rintro e w1 ⟨O, vo, rfl, hOl, ho, hO, hb1⟩
  have hM1 := (((Mem.start w).new 25 #[.slice (some ae) S.length ce, .slice (some ad) L.length ca]).pushRow hb1 ho)
  obtain ⟨Ao, co, hvo⟩ := own_sl ho
  subst hvo
  obtain ⟨go, co', hfo, -, -⟩ := ho.form (by omega)
  injection hfo with hfo _ hco
  subst hfo hco
  obtain ⟨r, hr⟩ := conv_ranked rfl hO HC.out (fun k t ht => tg_lt' HTO.out ht)
  have HV := Lib.hid (PlL.rdF_is (E := E) hr)
  have HVL := Lib.hid (fun k (hk : k < S.length) (hs : isIn S k = false) P => (PlL.rdF_is (E := E) hr).le hr (S.length - 1) k hk hs (by have := hr.lt k hk; omega) P)
  have HO := Lib.hid hO
  have HRK := Lib.hid (show ∃ r, PlL.Ranked S.length L (isIn S) r from ⟨r, hr⟩)
  have HOL := Lib.hid hOl
  have HALL := Lib.hid (show ∀ k, k < S.length → k ∈ O from fun k hk => (hO.all k hk).2 (HC.out k hk))
  obtain ⟨p0, p1, pf⟩ := blk2 (hM1.get 1 rfl).2
  have HM1 := Lib.hid hM1
  clear hb1 ho hO hOl hr hM1 HB0
  generalize PlL.rdF E L (isIn S) S.length = R at *
  go_wp2_with fail
  refine (reachable_ok E L _ HE.out HL.out HOK.out S HSE.out HFEW.out hn (some sd) c _ (HS.out.go HM1.out.bel) (SR.out.go HM1.out.bel)).mono ?_
  rintro e w2 ⟨gp, vs, Q, rfl, hgp, hgr, hBF, hini, hb2⟩
  have HST := Lib.hid (show Mem w [cM w.heap.size w2.heap.size (kvR R (dn O Q 0)), cU w.heap.size gp 22 40 vs (rowsOf S.length Q), cR w.heap.size 3 1 (.slice (some ⟨go, 0, none⟩) S.length co) S.length (O.map I), cB w.heap.size w.heap.size 25 #[.slice (some ae) S.length ce, .slice (some ad) L.length ca]] (w2.alloc (.map #[] 0)) from by
    have h := (HM1.out.pushGU hb2 hgp hgr).newMap
    exact h)
  have HBF := Lib.hid hBF
  have HINI := Lib.hid hini
  clear hgp hgr hBF hini hb2 HM1 p0 p1 pf
  have hmm := @run_makeMap Try.prog
  go_wp2_with fail
  clear hmm
  generalize w2.heap.size = b at *
  go_loopw [44] (fun i wr => ∃ p : Nat, p ≤ S.length ∧ i = .int .i64 p ∧ Mem w [cM w.heap.size b (kvR R (dn O Q p)), cU w.heap.size gp 22 40 vs (rowsOf S.length Q), cR w.heap.size 3 1 (.slice (some ⟨go, 0, none⟩) S.length co) S.length (O.map I), cB w.heap.size w.heap.size 25 #[.slice (some ae) S.length ce, .slice (some ad) L.length ca]] wr) (fun i _ => S.length - (intOf i).toNat)
  case atStart => exact ⟨0, Nat.zero_le _, rfl, HST.out⟩
  case round =>
    clear HST
    obtain ⟨p, hp, rfl, hM⟩ := hrel
    have HM := Lib.hid hM
    by_cases hlt : p < S.length
    · have hpO : p < O.length := by have := HOL.out; omega
      have hOp : O[p]? = some O[p] := List.getElem?_eq_getElem hpO
      have cx := own_at (hM.get 2 rfl) hOp
      have hxn := HO.out.lt _ (List.getElem_mem hpO)
      have HTP := Lib.hid (HO.out.topo p _ hOp)
      have HNI := Lib.hid (take_not HO.out.nodup hpO)
      have HDN := Lib.hid (dn_next (Q := Q) hOp)
      generalize O[p] = x at *
      have hlen := (hM.get 1 rfl).2.len
      rw [rowsOf_len] at hlen
      have hxv : x < vs.length := by omega
      have hxr : x < (rowsOf S.length Q).length := by rw [rowsOf_len]; omega
      have gcell := (hM.get 1 rfl).2.blk.get hxv
      have hrow := (hM.get 1 rfl).2.row x hxv hxr
      rw [rowsOf_get] at hrow
      have hRN := rowOf_nodup HBF.out.nodup x
      have HRM := Lib.hid (fun P (h : P ∈ rowOf Q x) => rowOf_mem.1 h)
      have hRl := rowOf_len Q x
      have hQl := PlL.pairs_few HFEW.out HBF.out.nodup HBF.out.ok
      obtain ⟨Ax, cx', hvx⟩ := own_sl hrow
      have HVX := Lib.hid hvx
      rw [hvx] at gcell
      have HRW := Lib.hid (show ∀ X D, Mem w [cM w.heap.size b (kvR R (D)), cU w.heap.size gp 22 40 vs (rowsOf S.length Q), cR w.heap.size 3 1 (.slice (some ⟨go, 0, none⟩) S.length co) S.length (O.map I), cB w.heap.size w.heap.size 25 #[.slice (some ae) S.length ce, .slice (some ad) L.length ca]] X → X.ownsRow w.heap.size 40 1 (.slice Ax (rowOf Q x).length cx') (rowOf Q x).length ((rowOf Q x).map U32) from fun X D hX => by
        have h := (hX.get 1 rfl).2.row x hxv hxr
        rw [rowsOf_get, HVX.out] at h
        exact h)
      have k0 : (0 : Int) ≤ (p : Int) := by omega
      have k1 : (p : Int) < (S.length : Int) := by omega
      have x0 : (0 : Int) ≤ (x : Int) := by omega
      have x1 : (x : Int) < (S.length : Int) := by omega
      clear hM hOp hrow hvx
      generalize rowOf Q x = row at *
      have HRN := Lib.hid hRN
      clear hRN
      go_wp2_with fail
      clear cx gcell
      go_loopw [53] (fun i wr => ∃ j : Nat, j ≤ row.length ∧ i = .int .i64 j ∧ Mem w [cM w.heap.size b (kvR R (dn O Q p ++ prs x (row.take j))), cU w.heap.size gp 22 40 vs (rowsOf S.length Q), cR w.heap.size 3 1 (.slice (some ⟨go, 0, none⟩) S.length co) S.length (O.map I), cB w.heap.size w.heap.size 25 #[.slice (some ae) S.length ce, .slice (some ad) L.length ca]] wr) (fun i _ => row.length - (intOf i).toNat)
      case atStart => exact ⟨0, Nat.zero_le _, rfl, by rw [show dn O Q p ++ prs x (row.take 0) = dn O Q p by simp [prs]]; exact HM.out⟩
      case round =>
        clear HM
        obtain ⟨j, hj, rfl, hM⟩ := hrel
        have HM := Lib.hid hM
        by_cases hlt2 : j < row.length
        · have hjr : row[j]? = some row[j] := List.getElem?_eq_getElem hlt2
          have hrow := HRW.out _ _ hM
          obtain ⟨gx, cx2, hfo, -, -⟩ := hrow.form (by omega)
          injection hfo with hfo _ hco
          subst hfo hco
          have cP := own_u32 hrow hjr
          have hPQ := HRM.out _ (List.getElem_mem hlt2)
          have HNEW := Lib.hid (dn_new (Q := Q) (p := p) HNI.out HRN.out hlt2)
          have HPT := Lib.hid (prs_take (k := x) hlt2)
          generalize row[j] = P at *
          have hPO := HBF.out.ok _ hPQ
          have hs : isIn S x = false := hPO.2.1
          have hP : P < 4294967296 := hPO.2.2.1
          have hxL : x < L.length := by have := HLL.out; omega
          have hRx := HV.out x hxn hs P
          rw [getD_l [] hxL] at hRx
          have HRX := Lib.hid hRx
          have hRb := HVL.out x hxn hs P
          have HTT := Lib.hid (show ∀ a ∈ L[x], isIn S a.2.toNat = false → PlL.suc E (x, P) a ∈ dn O Q p from fun a ha hsa => by
            refine dn_mem.2 ⟨?_, ?_⟩
            · rcases HTP.out with h | h
              · rw [hs] at h; cases h
              · exact h.2 _ (by have := PlL.tg_mem' (L := L) (x := x) (a := a) (by rw [getD_l [] hxL]; exact ha); exact this)
            · obtain ⟨i, hi, e⟩ := List.getElem_of_mem hPQ
              exact HBF.out.done i hi (x, P) (by rw [List.getElem?_eq_getElem hi, e]) a (by rw [getD_l [] hxL]; exact ha) hsa)
          have hll := (HL.out x hxL).1
          have HLS := Lib.hid (HL.out x hxL).2
          have HTS := Lib.hid (HTO.out x hxL)
          have hbz := hM.size
          have j0 : (0 : Int) ≤ (j : Int) := by omega
          have j1 : (j : Int) < (row.length : Int) := by omega
          have hL1 : (x : Int) < (L.length : Int) := by omega
          have HM2 := Lib.hid (hM.new 65 #[.int .i64 (x : Int), .int .u32 (P : Int)])
          have HDJ := Lib.hid (show ∀ y, y ∈ dn O Q p → y ∈ dn O Q p ++ prs x (row.take j) from fun y hy => List.mem_append_left _ hy)
          clear hM hrow hjr hRx hPO
          go_upto_region 16 with fail
          generalize hW : wr.alloc (.cells #[.int .i64 (x : Int), .int .u32 (P : Int)] 65) = W at *
          generalize wr.heap.size = ga at *
          clear hW cP
          have hM2 := HM2.out
          obtain ⟨aL, Ak, ck, hAL, hbla, cr, rk⟩ := row_at (RA.out.below hM2.bel) (fun k l hl => let ⟨u, hu, ha⟩ := HK.out k l hl; (⟨u, hu, ha.below hM2.bel⟩ : ∃ u, rows[k]? = some u ∧ ArcsAt W w.heap.size u l)) hxL
          obtain rfl : ad = aL := by injection hAL
          have RK0 := Lib.hid (show Reads w w.heap.size 2 Ak L[x].length (L[x].flatMap arcCells) from rk.keep fun p hp => (hM2.bel.cell hp).symm)
          obtain ⟨p0, p1, pf⟩ := blk2 (hM2.get 4 rfl).2
          generalize L[x] = l at *
          clear hM2 rk hAL
          go_wp2_with fail
          clear cr p0 p1 pf
          go_loopw [15, 66] (fun m i wr => ∃ k : Nat, k ≤ l.length ∧ i = .int .i64 k ∧ m = .int .i64 (PlL.mr E (isIn S) R P (l.take k) : Int) ∧ Mem w [cB w.heap.size ga 65 #[.int .i64 (x : Int), .int .u32 (P : Int)], cM w.heap.size b (kvR R (dn O Q p ++ prs x (row.take j))), cU w.heap.size gp 22 40 vs (rowsOf S.length Q), cR w.heap.size 3 1 (.slice (some ⟨go, 0, none⟩) S.length co) S.length (O.map I), cB w.heap.size w.heap.size 25 #[.slice (some ae) S.length ce, .slice (some ad) L.length ca]] wr) (fun _ i _ => l.length - (intOf i).toNat)
          case atStart => exact ⟨0, Nat.zero_le _, rfl, rfl, HM2.out⟩
          case round =>
            clear HM2 HM
            obtain ⟨k, hk, rfl, rfl, hM⟩ := hrel
            have HM := Lib.hid hM
            by_cases hlt3 : k < l.length
            · obtain ⟨ad2, hA, hbl2, c0', c1'⟩ := arc_at (RK0.out.below hM.bel) hlt3
              subst hA
              have hx' := HTS.out l[k] (List.getElem_mem _)
              have hx1' := HLS.out k hlt3
              have HTA := Lib.hid (HTT.out l[k] (List.getElem_mem _))
              have HMR := Lib.hid (PlL.mr_take (E := E) (S := isIn S) (R := R) (P := P) hlt3)
              generalize l[k] = a at *
              obtain ⟨ua, at_⟩ := a
              dsimp only at c0' c1' hx' hx1'
              obtain ⟨t, rfl⟩ : ∃ t : Nat, at_ = (t : Int) := ⟨at_.toNat, by omega⟩
              have htn : t < S.length := by omega
              unfold PlL.mrS PlL.rst at HMR
              simp only [Int.toNat_natCast] at HMR
              unfold PlL.suc at HTA
              simp only [Int.toNat_natCast] at HTA
              have htE : t < E.length := by have := HSE.out; omega
              have HEL := Lib.hid (show E.length ≤ 32768 by have := HSE.out; omega)
              have k0' : (0 : Int) ≤ (k : Int) := by omega
              have k1' : (k : Int) < (l.length : Int) := by omega
              have t0' : (0 : Int) ≤ (t : Int) := by omega
              have t1' : (t : Int) < (S.length : Int) := by omega
              have hHA := HM.out.new 42 #[.int .u32 (ua : Int), .int .i64 (t : Int)]
              have HMA := Lib.hid hHA
              clear hM hx' hHA
              generalize PlL.mr E (isIn S) R P (l.take k) = m0 at *
              go_upto_region 19 with fail
              generalize hW : wr.alloc (.cells #[.int .u32 (ua : Int), .int .i64 (t : Int)] 42) = W at *
              generalize wr.heap.size = gb at *
              clear hW c0' c1' HM
              obtain ⟨sd', hA, hbl, cS⟩ := bool_at (SR.out.below HMA.out.bel) htn
              obtain rfl : sd = sd' := by injection hA
              rw [← isIn_of htn] at cS
              obtain ⟨b0, b1, bf⟩ := blk2 (HMA.out.get 1 rfl).2
              obtain ⟨p0, p1, pf⟩ := blk2 (HMA.out.get 5 rfl).2
              obtain ⟨a0, a1, af⟩ := blk2 (HMA.out.get 0 rfl).2
              have HME := Lib.hid (HMA.out.erase 0)
              clear hA
              cases hst : isIn S t
              · rw [hst] at cS
                have hqin := HTA.out hst
                have hRq := HVL.out t htn hst (PlL.aft E P (ua, (t : Int)))
                rw [hst] at HMR
                simp only [Bool.false_eq_true, if_false] at HMR
                go_wp2_with fail
                refine (after_any E L _ HE.out x P ua t hP hx1' htE HEL.out _ (HS.out.go HMA.out.bel)).mono ?_
                rintro e w2 ⟨rfl, hb2⟩
                have HM7 := Lib.hid (HME.out.below hb2)
                generalize PlL.aft E P (ua, (t : Int)) = q at *
                have HM8 := Lib.hid (HM7.out.new 65 #[.int .i64 (t : Int), .int .u32 (q : Int)])
                unfold pK
                dsimp only
                clear hb2 b0 b1 bf p0 p1 pf cS a0 a1 af
                by_cases hc : PlL.lft E P (ua, (t : Int)) = 0
                · rw [decide_eq_true hc]
                  rw [if_pos hc] at HMR
                  go_upto_region 22 with fail
                  generalize hW2 : w2.alloc (.cells #[.int .i64 (t : Int), .int .u32 (q : Int)] 65) = W2 at *
                  obtain ⟨b0, b1, bf⟩ := blk2 (HM8.out.get 0 rfl).2
                  have hlook := pk_lookup (w := W2) Try.underlying63 (Try.zeroI W2) (HM8.out.get 2 rfl).2 (t, q)
                  rw [kvR_get (HDJ.out _ hqin)] at hlook
                  unfold pK at hlook
                  dsimp only [Option.getD_some] at hlook
                  have HF := Lib.hid (HM8.out.erase 0)
                  generalize R (t, q) = rq at *
                  clear hW2 HM8 HM7 HME HMA
                  go_wp2
                  refine ⟨⟨k + 1, by omega, by go_num, ?_, HF.out⟩, by simp [intOf]; omega⟩
                  rw [HMR.out]
                  go_num
                · rw [decide_eq_false hc]
                  rw [if_neg hc] at HMR
                  go_upto_region 23 with fail
                  generalize hW2 : w2.alloc (.cells #[.int .i64 (t : Int), .int .u32 (q : Int)] 65) = W2 at *
                  obtain ⟨b0, b1, bf⟩ := blk2 (HM8.out.get 0 rfl).2
                  have hlook := pk_lookup (w := W2) Try.underlying63 (Try.zeroI W2) (HM8.out.get 2 rfl).2 (t, q)
                  rw [kvR_get (HDJ.out _ hqin)] at hlook
                  unfold pK at hlook
                  dsimp only [Option.getD_some] at hlook
                  have HF := Lib.hid (HM8.out.erase 0)
                  generalize R (t, q) = rq at *
                  clear hW2 HM8 HM7 HME HMA
                  go_wp2
                  refine ⟨⟨k + 1, by omega, by go_num, ?_, HF.out⟩, by simp [intOf]; omega⟩
                  rw [HMR.out]
                  go_num
              · rw [hst] at cS
                rw [hst] at HMR
                simp only [if_true] at HMR
                go_wp2
                refine ⟨⟨k + 1, by omega, by go_num, by rw [HMR.out], HME.out⟩, by simp [intOf]; omega⟩
            · obtain rfl : k = l.length := by omega
              have HML := Lib.hid (show PlL.mr E (isIn S) R P (l.take l.length) = R (x, P) from by rw [List.take_length]; exact HRX.out.symm)
              rw [HML.out]
              obtain ⟨b0, b1, bf⟩ := blk2 (hM.get 0 rfl).2
              clear hM HML HRX
              go_wp2_with (at_mapUpdate; refine wpList_update_pair _ rfl _ _ _ 63 rfl 3 Try.underlying63 b (kvR R (dn O Q p ++ prs x (row.take j))) rfl (HM.out.get 1 rfl).2 (x, P) rfl (.int .i64 (R (x, P) : Int)) rfl (kvR_none HNEW.out) ?_; intro w2 hm2 hg2; have HM2 := Lib.hid (HM.out.put 1 rfl hm2 hg2); clear hm2 hg2)
              refine ⟨⟨j + 1, by omega, by go_num, ?_⟩, by simp [intOf]; omega⟩
              have h := HM2.out.erase 0
              rw [kvR_snoc, List.append_assoc, ← HPT.out] at h
              exact h
        · obtain rfl : j = row.length := by omega
          have HMN := Lib.hid (show Mem w [cM w.heap.size b (kvR R (dn O Q (p + 1))), cU w.heap.size gp 22 40 vs (rowsOf S.length Q), cR w.heap.size 3 1 (.slice (some ⟨go, 0, none⟩) S.length co) S.length (O.map I), cB w.heap.size w.heap.size 25 #[.slice (some ae) S.length ce, .slice (some ad) L.length ca]] wr from by
            rw [HDN.out]
            rw [List.take_length] at hM
            exact hM)
          clear hM HM
          go_wp2
          exact ⟨⟨p + 1, by omega, by go_num, HMN.out⟩, by simp [intOf]; omega⟩
    · obtain rfl : p = S.length := by omega
      have hmk := run_make_row' (P := Try.prog) 29 3 (.int .i64 0) 8 Try.underlying29 Try.infoIntG rfl .i64 .i64 S.length (by omega) (by omega)
      have HDA := Lib.hid (show ∀ k, k < S.length → isIn S k = false → (k, E.getD k 0) ∈ dn O Q S.length from fun k hk hs => dn_all (by have := HOL.out; omega) HALL.out (HINI.out k hk hs) hk)
      have HST2 := Lib.hid (show Mem w [cB w.heap.size wr.heap.size 3 (nums S.length (fun j => if j < 0 then rnd E (isIn S) R j else 0)).toArray, cM w.heap.size b (kvR R (dn O Q S.length)), cU w.heap.size gp 22 40 vs (rowsOf S.length Q), cR w.heap.size 3 1 (.slice (some ⟨go, 0, none⟩) S.length co) S.length (O.map I), cB w.heap.size w.heap.size 25 #[.slice (some ae) S.length ce, .slice (some ad) L.length ca]] (wr.alloc (.cells (madeCells #[.int .i64 0] S.length) 3)) from by
        have h := hM.new 3 (madeCells #[.int .i64 0] S.length)
        rw [nums_made] at h ⊢
        rw [nums_congr (g := fun _ => 0) (fun j _ => by simp)]
        exact h)
      obtain ⟨p0, p1, pf⟩ := blk2 (hM.get 3 rfl).2
      have lsp := (hM.get 3 rfl).2.lt
      clear hM HM hlt
      go_wp2_with fail
      clear hmk p0 p1 pf lsp
      generalize wr.heap.size = gr at *
      generalize dn O Q S.length = D at *
      go_loopw [106] (fun i wr => ∃ k : Nat, k ≤ S.length ∧ i = .int .i64 k ∧ Mem w [cB w.heap.size gr 3 (nums S.length (fun j => if j < k then rnd E (isIn S) R j else 0)).toArray, cM w.heap.size b (kvR R D), cU w.heap.size gp 22 40 vs (rowsOf S.length Q), cR w.heap.size 3 1 (.slice (some ⟨go, 0, none⟩) S.length co) S.length (O.map I), cB w.heap.size w.heap.size 25 #[.slice (some ae) S.length ce, .slice (some ad) L.length ca]] wr) (fun i _ => S.length - (intOf i).toNat)
      case atStart => exact ⟨0, Nat.zero_le _, rfl, HST2.out⟩
      case round =>
        clear HST2
        obtain ⟨k, hk, rfl, hM⟩ := hrel
        have HM := Lib.hid hM
        by_cases hlt : k < S.length
        · have hkE : k < E.length := by have := HSE.out; omega
          obtain ⟨aE, hAE, hble, ce0⟩ := set_at (RE.out.below hM.bel) hkE
          obtain rfl : ae = aE := by injection hAE
          obtain ⟨sd', hA, hbl, cS⟩ := bool_at (SR.out.below hM.bel) hlt
          obtain rfl : sd = sd' := by injection hA
          rw [← isIn_of hlt] at cS
          have HRN := Lib.hid (show ∀ v, rnd E (isIn S) R k = v → (nums S.length (fun j => if j < k then rnd E (isIn S) R j else 0)).toArray.setIfInBounds k (.int .i64 (v : Int)) = (nums S.length (fun j => if j < k + 1 then rnd E (isIn S) R j else 0)).toArray from fun v hv => nums_set _ _ _ _ _ (fun q => by
            unfold PlL.upd
            by_cases e : q = k
            · subst e; rw [if_pos (by omega), if_pos rfl, hv]
            · rw [if_neg e]
              dsimp only
              by_cases h1 : q < k
              · rw [if_pos h1, if_pos (by omega)]
              · rw [if_neg h1, if_neg (by omega)]))
          have HRS := Lib.hid (show rnd E (isIn S) R k = 0 → nums S.length (fun j => if j < k then rnd E (isIn S) R j else 0) = nums S.length (fun j => if j < k + 1 then rnd E (isIn S) R j else 0) from fun h => nums_congr (fun q _ => by
            by_cases e : q = k
            · subst e; rw [if_neg (by omega), if_pos (by omega), h]
            · by_cases h1 : q < k
              · rw [if_pos h1, if_pos (by omega)]
              · rw [if_neg h1, if_neg (by omega)]))
          have HRD := Lib.hid (show isIn S k = false → rnd E (isIn S) R k = R (k, E[k]) from fun h => by unfold rnd; rw [if_neg (by rw [h]; simp), getD_l 0 hkE])
          have HRT := Lib.hid (show isIn S k = true → rnd E (isIn S) R k = 0 from fun h => by unfold rnd; rw [if_pos h])
          have HDK := Lib.hid (show isIn S k = false → (k, E[k]) ∈ D from fun h => by have := HDA.out k hlt h; rwa [getD_l 0 hkE] at this)
          have hek := HE.out k hkE
          generalize E[k] = en at *
          have k0 : (0 : Int) ≤ (k : Int) := by omega
          have k1 : (k : Int) < (S.length : Int) := by omega
          obtain ⟨p0, p1, pf⟩ := blk2 (hM.get 4 rfl).2
          have lsp := (hM.get 4 rfl).2.lt
          have hlook := pk_lookup (w := wr) Try.underlying63 (Try.zeroI wr) (hM.get 1 rfl).2 (k, en)
          have lgr := (hM.get 0 rfl).2.lt
          have fgr := (hM.get 0 rfl).2.frozen k
          have cgr := num_at (hM.get 0 rfl).2 hlt
          clear hM hAE hA
          cases hs : isIn S k
          · rw [hs] at cS
            rw [kvR_get (HDK.out hs)] at hlook
            unfold pK at hlook
            dsimp only [Option.getD_some] at hlook
            have HSET := Lib.hid (HM.out.set_ 0 rfl k _ (HRN.out _ (HRD.out hs)))
            have hrn := HVL.out k hlt hs en
            clear hs
            go_wp2
            exact ⟨⟨k + 1, by omega, by go_num, HSET.out⟩, by simp [intOf]; omega⟩
          · rw [hs] at cS
            have HSET := Lib.hid (HM.out.blkc 0 rfl (congrArg List.toArray (HRS.out (HRT.out hs))))
            clear hs hlook
            go_wp2
            exact ⟨⟨k + 1, by omega, by go_num, HSET.out⟩, by simp [intOf]; omega⟩
        · obtain rfl : k = S.length := by omega
          have HF := Lib.hid (show WRd w E L S (.returned (.tuple #[.slice (some ⟨gr, 0, none⟩) S.length S.length, .int .i64 0])) wr from by
            refine ⟨gr, R, rfl, (hM.get 0 rfl).1, ?_, HV.out, fun k hk => ?_, HRK.out, hM.bel⟩
            · have h := (hM.get 0 rfl).2
              rw [nums_congr (n := S.length) (g := rnd E (isIn S) R) (fun j hj => by rw [if_pos hj])] at h
              exact h
            · unfold rnd
              cases hs : isIn S k
              · rw [if_neg (by simp)]
                have := HVL.out k hk hs (E.getD k 0)
                omega
              · rw [if_pos rfl]; omega)
          clear hM HM
          go_wp2
          go_ret2
          exact HF.out
end Go.Proofs.Ytbilciiffecdgaa
