/- fairness.Core. -/
import Derived.Test.YtnjbofahboopoaaG8
namespace Go.Proofs.Ytnjbofahboopoaa
open Go.RowKit

section
variable {w wr : World} {ts te e : TypeId} {sp : Array Value} {gk gs gb gc : Nat} {ck cs : Array Value} {vs : List Value} {R : List (List Nat)} {v : Value} {Q : List Nat} {n : Nat} {f g : Nat → Bool}
theorem CorW.congr (h : CorW w wr ts te e sp gk gs gb gc ck cs vs R v Q n f) (hf : ∀ j, j < n → f j = g j) : CorW w wr ts te e sp gk gs gb gc ck cs vs R v Q n g :=
  ⟨h.sp_, h.k_, h.s_, h.gr, by rw [marks_congr (g := f) (fun k hk => (hf k hk).symm)]; exact h.c_, h.own, h.vk, h.rk, h.vr, h.sc, h.lo, h.bel⟩
end
/-- at the head of the first loop -/
def CoA (w : World) (sp : Array Value) (gk gs gb gc : Nat) (ck cs : Array Value) (L : List (List Arc)) (S good : Nat → Bool) (n : Nat) (gh : Nat) (v i : Value) (wr : World) : Prop :=
  ∃ (k : Nat) (vs : List Value) (R : List (List Nat)), gh = n - k ∧ k ≤ n ∧ i = .int .i64 k ∧ CorW w wr 25 33 3 sp gk gs gb gc ck cs vs R v (PlT.q0 S good k) n (fun j => decide (j ∈ PlT.q0 S good k)) ∧ PlT.SrcS L n S (fun _ => true) R k 0
def CoB (w : World) (sp : Array Value) (gk gs gb gc : Nat) (ck cs : Array Value) (L : List (List Arc)) (S good : Nat → Bool) (n k m : Nat) (v : Value) (gh : Nat) (i : Value) (wr : World) : Prop :=
  ∃ (j : Nat) (vs : List Value) (R : List (List Nat)), gh = m - j ∧ j ≤ m ∧ i = .int .i64 j ∧ CorW w wr 25 33 3 sp gk gs gb gc ck cs vs R v (PlT.q0 S good (k + 1)) n (fun j => decide (j ∈ PlT.q0 S good (k + 1))) ∧ PlT.SrcS L n S (fun _ => true) R k j
def CoC (w : World) (sp : Array Value) (gk gs gb gc : Nat) (ck cs : Array Value) (vs : List Value) (R : List (List Nat)) (G : Nat → List Nat) (S good : Nat → Bool) (n : Nat) (gh : Nat) (v i : Value) (wr : World) : Prop :=
  ∃ (k : Nat) (Q : List Nat), gh = n - k ∧ i = .int .i64 k ∧ CorW w wr 25 33 3 sp gk gs gb gc ck cs vs R v Q n (fun j => decide (j ∈ Q)) ∧ PlT.QI n G S good Q k
def CoD (w : World) (sp : Array Value) (gk gs gb gc : Nat) (ck cs : Array Value) (vs : List Value) (R : List (List Nat)) (G : Nat → List Nat) (S good : Nat → Bool) (n k x : Nat) (r : List Nat) (gh : Nat) (v i : Value) (wr : World) : Prop :=
  ∃ (j : Nat) (Q : List Nat), gh = r.length - j ∧ j ≤ r.length ∧ i = .int .i64 j ∧ CorW w wr 25 33 3 sp gk gs gb gc ck cs vs R v Q n (fun j => decide (j ∈ Q)) ∧ PlT.QI n G S good Q k ∧ Q[k]? = some x ∧ ∀ y, y ∈ r.take j → y ∈ Q

set_option maxRecDepth 100000 in
set_option maxHeartbeats 8000000 in
theorem fcore_ok (E : List Nat) (L : List (List Arc)) (v : Value) (hE : WfE E) (hL : WfL L) (hok : PlS.spaceOk E L = true) (S : List Bool) (hSl : S.length = E.length) (A : Option Addr) (c : Nat) (w : World) (hS : SpaceAt w w.heap.size v E L) (hSr : Reads w w.heap.size 1 A S.length (S.map Value.bool)) :
    Calls Try.prog 12 #[v, .slice A S.length c] w (MarksPost w S.length (fun f => ∀ k, k < S.length → (f k = true ↔ PlT.FCore S.length E L (isIn S) k))) := by
  have HS := Lib.hid hS
  obtain ⟨ve, va, rfl, ⟨Ae, ce, rfl, re⟩, ⟨Aa, ca, rows, rfl, ra, hk⟩⟩ := hS
  obtain ⟨hn1, hn2, hn3, hto⟩ := PlG.ok_parts hok
  obtain ⟨ad, hA, -⟩ := ra.2 (by omega)
  subst hA
  obtain ⟨sd, hA, -⟩ := hSr.2 (by omega)
  subst hA
  have HB0 := Lib.hid ((Below.refl w.heap.size w).alloc (Nat.le_refl _) (.cells #[.slice Ae E.length ce, .slice (some ad) L.length ca] 25))
  have RA := Lib.hid ra
  have HK := Lib.hid hk
  have HE := Lib.hid hE
  have HL := Lib.hid hL
  have SR := Lib.hid hSr
  have HOK := Lib.hid hok
  have HSE := Lib.hid hSl
  have H := Lib.hid (chk_ok hok hSl)
  have HSL := Lib.hid (show S.length = L.length by omega)
  have HN := Lib.hid (show 1 ≤ S.length ∧ S.length ≤ 32768 by omega)
  have HTO := Lib.hid (show ∀ k (hk : k < L.length), ∀ x ∈ L[k], 0 ≤ x.2 ∧ x.2 < (S.length : Int) from fun k hk x hx => by have := hto k hk x hx; omega)
  have hn5 : S.length ≤ 32768 := by omega
  have hn6 : L.length ≤ 32768 := by omega
  clear hE hL hok hSr re ra hk hSl hn1 hn2 hn3 hto
  go_enter Try.func12, Try.ntmps12
  go_wp2_with fail
  refine (check_is E L _ HE.out HL.out (some sd) S.length c 0 H.out _ (HS.out.go HB0.out)).mono ?_
  rintro e w1 ⟨rfl, hb1⟩
  have HB1 := Lib.hid (below_end hb1 HB0.out)
  have bs := (Blk.new w 25 #[.slice Ae E.length ce, .slice (some ad) L.length ca]).below hb1 (by simp)
  obtain ⟨p0, p1, pf⟩ := blk2 bs
  clear hb1
  go_wp2_with fail
  refine (components_ok E L _ HL.out S HSL.out HN.out.1 HN.out.2 HTO.out (some sd) c _ (HS.out.go HB1.out) (SR.out.go HB1.out)).mono ?_
  rintro e w2 ⟨gn, rfl, hgn, bk, hb2⟩
  have HB2 := Lib.hid (below_end hb2 HB1.out)
  have bs2 := bs.below hb2 bs.lt
  have BK := Lib.hid bk
  have hgn' : w.heap.size ≤ gn := Nat.le_trans HB1.out.size hgn
  clear p0 p1 pf bs
  obtain ⟨p0, p1, pf⟩ := blk2 bs2
  clear hb2 bk hgn HB1
  go_wp2_with fail
  refine (kept_num E L _ HE.out HL.out HOK.out S HSE.out gn _ (HS.out.go HB2.out) BK.out).mono ?_
  rintro e w3 ⟨gs, rfl, hgs, bst, hb3⟩
  have HB3 := Lib.hid (below_end hb3 HB2.out)
  have bs3 := bs2.below hb3 bs2.lt
  have bk3 := BK.out.below hb3 BK.out.lt
  have hgs' : w.heap.size ≤ gs := Nat.le_trans HB2.out.size hgs
  have lgs := bst.lt
  have lgn := bk3.lt
  have lsp := bs3.lt
  clear p0 p1 pf bs2 BK HB2 hb3 hgs
  have hmk1 := run_make_row' (P := Try.prog) 51 33 (.slice none 0 0) 24 Try.underlying51 Try.infoIntsG rfl .i64 .i64 S.length (by omega) (by omega)
  have hmk2 := run_make_row' (P := Try.prog) 26 4 (.bool false) 1 Try.underlying26 Try.infoBool rfl .i64 .i64 S.length (by omega) (by omega)
  have hb3 := HB3.out
  have HST := Lib.hid (show CorW w ((w3.alloc (.cells (madeCells #[.slice none 0 0] S.length) 33)).alloc (.cells (madeCells #[.bool false] S.length) 4)) 25 33 3 #[.slice Ae E.length ce, .slice (some ad) L.length ca] gn gs w3.heap.size (w3.heap.size + 1)
      (nums S.length (PlT.num S.length (PlG.tg L) (isIn S))).toArray ((marks (PlT.cnum S.length (PlG.tg L) (isIn S) S.length) (PlT.keptN S.length E L (isIn S))).map Value.bool).toArray (List.replicate S.length (.slice none 0 0)) (List.replicate S.length []) (.slice none 0 0) (PlT.q0 (isIn S) (PlT.goodB S.length E L (isIn S)) 0) S.length (fun j => decide (j ∈ PlT.q0 (isIn S) (PlT.goodB S.length E L (isIn S)) 0)) from by
    refine ⟨(bs3.alloc _).alloc _, (bk3.alloc _).alloc _, (bst.alloc _).alloc _, ?_, ?_, World.ownsRow_nil _ _ _ _, (by simp [Value.ownBlock]), fun x hx => (by simp [Value.ownBlock]), fun x hx => .inl (by simp [Value.ownBlock]), (by omega), (by have := hb3.size; omega), (hb3.alloc hb3.size _).alloc (by have := hb3.size; simp; omega) _⟩
    · have h := (Grid.start w3 w.heap.size 33 3 S.length).alloc (.cells (madeCells #[.bool false] S.length) 4)
      rw [← made_list] at h
      exact h
    · have h := marks_new (w3.alloc (.cells (madeCells #[.slice none 0 0] S.length) 33)) S.length
      rw [World.size_alloc] at h
      rw [marks_congr (g := fun _ => false) (fun k _ => by simp [PlT.q0])]
      exact h)
  clear hb3 bk3 bs3 bst
  go_wp2_with fail
  clear hmk1 hmk2
  have hbz := HB3.out.size
  generalize hgb : w3.heap.size = gb at *
  have HSYS := Lib.hid (sys_of HE.out HOK.out HSE.out)
  have HGD := Lib.hid (show ∀ y, PlT.goodB S.length E L (isIn S) y = ((PlG.tg L y).isEmpty || PlT.keptN S.length E L (isIn S) (PlT.num S.length (PlG.tg L) (isIn S) y).toNat) from fun _ => rfl)
  have HFC := Lib.hid (show ∀ k, PlT.FC (PlG.tg L) (isIn S) (PlT.goodB S.length E L (isIn S)) k ↔ PlT.FCore S.length E L (isIn S) k from fun _ => Iff.rfl)
  have HNL := Lib.hid (fun k (hk : k < S.length) hs => PlT.num_lt (G := PlG.tg L) (S := isIn S) hk hs)
  have hmn : PlT.cnum S.length (PlG.tg L) (isIn S) S.length ≤ S.length := PlT.cnum_le _ _ _ _
  generalize PlT.goodB S.length E L (isIn S) = good at *
  generalize PlT.cnum S.length (PlG.tg L) (isIn S) S.length = m at *
  generalize PlT.keptN S.length E L (isIn S) = Kf at *
  generalize PlT.num S.length (PlG.tg L) (isIn S) = cf at *
  obtain ⟨i0, hi0, hz0, hz1, hz2⟩ := info_parts Try.infoIntG
  go_loopg [11, 38] S.length (CoA w #[.slice Ae E.length ce, .slice (some ad) L.length ca] gn gs gb (gb + 1) (nums S.length cf).toArray ((marks m Kf).map Value.bool).toArray L (isIn S) good S.length)
  case atStart => exact ⟨0, _, _, rfl, Nat.zero_le _, rfl, HST.out, PlT.SrcS.start _ _ _ _⟩
  case round =>
    clear HST HB3
    obtain ⟨k, vs, R, hgh, hk, rfl, hW, hsrc⟩ := hrel
    have HW := Lib.hid hW
    have HSRC := Lib.hid hsrc
    by_cases hlt : k < S.length
    · obtain ⟨sd', hA, hbl, cS⟩ := bool_at (SR.out.below hW.bel) hlt
      obtain rfl : sd = sd' := by injection hA
      have hin := isIn_of hlt
      rw [← hin] at cS
      have k0 : (0 : Int) ≤ (k : Int) := by omega
      have k1 : (k : Int) < (S.length : Int) := by omega
      have hql := PlT.q0_len (isIn S) good k
      have HQS := Lib.hid (PlT.q0_succ (isIn S) good k)
      obtain ⟨Aq, cq, hvq⟩ := own_sl hW.own
      subst hvq
      clear hA hin hW hsrc
      cases hs : isIn S k
      · rw [hs] at cS
        have hkL : k < L.length := by have := HSL.out; omega
        obtain ⟨aL, Ak, ck, hAL, hbla, cr, rk⟩ := row_at (RA.out.below HW.out.bel) (fun k l hl => let ⟨u, hu, ha⟩ := HK.out k l hl; (⟨u, hu, ha.below HW.out.bel⟩ : ∃ u, rows[k]? = some u ∧ ArcsAt wr w.heap.size u l)) hkL
        obtain rfl : ad = aL := by injection hAL
        have hll := (HL.out k hkL).1
        have HTS := Lib.hid (HTO.out k hkL)
        have RK0 := Lib.hid (show Reads w w.heap.size 2 Ak L[k].length (L[k].flatMap arcCells) from rk.keep fun p hp => (HW.out.bel.cell hp).symm)
        have HTG := Lib.hid (PlG.tg_get L k · hkL)
        have HTL := Lib.hid (PlG.tg_len L k hkL)
        have hgd := HGD.out k
        have hemp : (PlG.tg L k).isEmpty = decide (L[k].length = 0) := by rw [← HTL.out]; cases PlG.tg L k <;> simp
        rw [hemp] at hgd
        generalize L[k] = l at *
        have hnl := HNL.out k hlt hs
        have cK := num_at HW.out.k_ hlt
        obtain ⟨J, hJ⟩ : ∃ J : Nat, cf k = (J : Int) := ⟨_, (Int.toNat_of_nonneg hnl.1).symm⟩
        rw [hJ] at hgd hnl cK
        rw [Int.toNat_natCast] at hgd
        have hJm : J < m := by omega
        have J0 : (0 : Int) ≤ (J : Int) := by omega
        have J1 : (J : Int) < (m : Int) := by omega
        have cB := mark_at HW.out.s_ hJm
        have cC := mark_at HW.out.c_ hlt
        have cCf := HW.out.c_.frozen k
        have lgc := HW.out.c_.lt
        obtain ⟨p0, p1, pf⟩ := blk2 HW.out.sp_
        have HM1 := Lib.hid (HW.out.mark (by decide) (by decide) (by decide) k true)
        have HCR := Lib.hid ((HW.out.bel.cell (p := ad.add k) (by rw [block_of_add]; exact hbla)).symm.trans cr)
        have hqs := HQS.out
        rw [hs] at hqs
        simp only [Bool.not_false, Bool.true_and] at hqs
        have HS0 := Lib.hid hs
        have HGD1 := Lib.hid hgd
        have HQS1 := Lib.hid hqs
        clear hAL rk hJ hs hgd hqs HQS hemp
        go_upto_region 13 with fail
        go_cut [60] (fun b wx => b = .bool (good k) ∧ wr = wx)
        case first =>
          by_cases hl0 : l.length = 0
          · have t1 : ((l.length : Int) == 0) = true := by rw [hl0]; rfl
            have hg1 : good k = true := by rw [HGD1.out, decide_eq_true hl0]; rfl
            have HG1 := Lib.hid hg1
            clear hg1
            go_wp2_with fail
            go_meet
            exact ⟨congrArg Value.bool HG1.out.symm, rfl⟩
          · have t1 : ((l.length : Int) == 0) = false := beq_eq_false_iff_ne.2 (by omega)
            have hg1 : good k = Kf J := by rw [HGD1.out, decide_eq_false hl0]; rfl
            cases hKJ : Kf J
            · rw [hKJ] at cB hg1
              have HG1 := Lib.hid hg1
              clear hg1 hKJ
              go_wp2_with fail
              go_meet
              exact ⟨congrArg Value.bool HG1.out.symm, rfl⟩
            · rw [hKJ] at cB hg1
              have HG1 := Lib.hid hg1
              clear hg1 hKJ
              go_wp2_with fail
              go_meet
              exact ⟨congrArg Value.bool HG1.out.symm, rfl⟩
        case rest =>
        obtain ⟨hcu, hcw⟩ := hcut
        subst hcu hcw
        clear cB cK HGD1
        go_upto_if 60 with fail
        go_cut [11] (fun v wx => CorW w wx 25 33 3 #[.slice Ae E.length ce, .slice (some ad) L.length ca] gn gs gb (gb + 1) (nums S.length cf).toArray ((marks m Kf).map Value.bool).toArray vs R v (PlT.q0 (isIn S) good (k + 1)) S.length (fun j => decide (j ∈ PlT.q0 (isIn S) good (k + 1))))
        case first =>
          cases hg : good k
          · have hqs := HQS1.out
            rw [hg] at hqs
            simp only [Bool.false_eq_true, if_false, List.append_nil] at hqs
            have HQ1 := Lib.hid hqs
            clear hqs
            go_wp2_with fail
            go_meet
            rw [HQ1.out]; exact HW.out
          · have hqs := HQS1.out
            rw [hg, if_pos rfl] at hqs
            have HQ1 := Lib.hid hqs
            clear hqs
            go_upto_region 15 with fail
            generalize hW3 : wr.setCell ⟨gb + 1, k, none⟩ (.bool true) = W3 at *
            clear hW3
            go_wp2_with (at_builtin; refine wpList_append_any _ rfl (.tmp 64) (.tmp 66) 33 rfl w.heap.size 3 i0 (.int .i64 0) 1 8 Try.underlying33 hi0 hz0 hz1 hz2 rfl (by decide) (.slice Aq (PlT.q0 (isIn S) good k).length cq) _ _ rfl (HM1.out.own.alloc _) (W3.heap.size + 1) (some ⟨W3.heap.size, 0, none⟩) 1 1 [I k] rfl (reads_new1 _ _ _) (one_I k) (len_ok (by omega)) (by omega) (by have := HM1.out.bel.size; simp; omega) ?_; intro v1 x1 ho1 hg1 hv1; have HW4 := Lib.hid (HM1.out.app (by decide) (by decide) (by decide) (grown_pre hg1) ho1 (S := W3.heap.size + 1) (by simpa using hv1) (by simp)); clear ho1 hg1 hv1)
            go_meet
            rw [HQ1.out]; exact HW4.out.congr (fun j _ => by by_cases e : j = k <;> simp [e])
        case rest =>
          clear HM1 cC cCf p0 p1 pf cr HW cS
          have HW := Lib.hid hcut
          obtain ⟨Aq, cq, hvq⟩ := own_sl hcut.own
          subst hvq
          have hql1 := PlT.q0_len (isIn S) good (k + 1)
          obtain ⟨p0, p1, pf⟩ := blk2 hcut.sp_
          have cr := (hcut.bel.cell (p := ad.add k) (by rw [block_of_add]; exact hbla)).trans HCR.out
          clear hcut
          go_wp2_with fail
          clear p0 p1 pf cr
          go_loopg [74] l.length (CoB w #[.slice Ae E.length ce, .slice (some ad) L.length ca] gn gs gb (gb + 1) (nums S.length cf).toArray ((marks m Kf).map Value.bool).toArray L (isIn S) good S.length k l.length (.slice Aq (PlT.q0 (isIn S) good (k + 1)).length cq))
          case atStart => exact ⟨0, vs, R, rfl, Nat.zero_le _, rfl, HW.out, HSRC.out⟩
          case round =>
            clear HW HSRC
            obtain ⟨j, vs, R, hgj, hj, rfl, hW, hsrc⟩ := hrel
            by_cases hlt2 : j < l.length
            · obtain ⟨ad2, hA, hbl2, a0, a1⟩ := arc_at (RK0.out.below hW.bel) hlt2
              subst hA
              have hx := HTS.out l[j] (List.getElem_mem _)
              have htg := HTG.out j hlt2
              generalize l[j] = x at *
              obtain ⟨xs, xt⟩ := x
              dsimp only at a0 a1 hx htg
              obtain ⟨t, rfl⟩ : ∃ t : Nat, xt = (t : Int) := ⟨xt.toNat, by omega⟩
              have htn : t < S.length := by omega
              rw [Int.toNat_natCast] at htg
              have j0 : (0 : Int) ≤ (j : Int) := by omega
              have j1 : (j : Int) < (l.length : Int) := by omega
              have t0 : (0 : Int) ≤ (t : Int) := by omega
              have t1 : (t : Int) < (S.length : Int) := by omega
              have htr : t < R.length := by rw [hsrc.len]; exact htn
              have htv : t < vs.length := by rw [hW.gr.len]; exact htr
              have hsize : R[t].length ≤ k * 1000000 + j := by have := hsrc.size t; rwa [List.getD_eq_getElem?_getD, List.getElem?_eq_getElem htr] at this
              have HSN := Lib.hid (hsrc.next HS0.out htg htn rfl htr)
              have bz := hW.bel.size
              clear hx htg hsrc
              go_upto_region 19 with fail
              generalize hWW : wr.alloc (.cells #[.int .u32 (xs : Int), .int .i64 (t : Int)] 41) = W
              have ba : Blk W wr.heap.size 41 #[.int .u32 (xs : Int), .int .i64 (t : Int)] := by rw [← hWW]; exact Blk.new _ _ _
              have HCW : Hid (CorW w W 25 33 3 #[.slice Ae E.length ce, .slice (some ad) L.length ca] gn gs gb (gb + 1) (nums S.length cf).toArray ((marks m Kf).map Value.bool).toArray vs R (.slice Aq (PlT.q0 (isIn S) good (k + 1)).length cq) (PlT.q0 (isIn S) good (k + 1)) S.length (fun j => decide (j ∈ PlT.q0 (isIn S) good (k + 1)))) := by rw [← hWW]; exact Lib.hid (hW.alloc _)
              clear hWW hW a0 a1
              have gcell := HCW.out.gr.blk.get htv
              have gfrz := HCW.out.gr.blk.frozen t
              obtain ⟨b0, b1, bf⟩ := blk2 ba
              have hrow := HCW.out.gr.row t htv htr
              have HROW := Lib.hid hrow
              have hgs := HCW.out.gr.blk.lt
              have hbW := HCW.out.bel.size
              generalize hvt : vs[t] = vt at *
              have HV := Lib.hid hvt
              clear hvt hrow
              have hWs := ba.lt
              go_region_law (first
                | ((with_reducible refine step_append_any _ rfl (.tmp 85) (.tmp 87) 33 rfl w.heap.size 3 i0 (.int .i64 0) 1 8 Try.underlying33 hi0 hz0 hz1 hz2 rfl (by decide) vt R[t].length (R[t].map I) rfl ?_ (W.heap.size + 1) (some ⟨W.heap.size, 0, none⟩) 1 1 [I k] rfl ?_ ?_ ?_ ?_ ?_ ?_); exact HROW.out.alloc _; exact reads_new1 _ _ _; exact one_I k; exact len_ok (by omega); omega; (simp; omega); intro v1 x1 ho1 hg1 hv1; obtain ⟨gv, cv, rfl, -, -⟩ := ho1.form (by omega); have hgw := grown_pre (grown_drew hg1); have hC2 := HCW.out.row (by decide) (by decide) (by decide) (by decide) (by decide) (k := k) (S := W.heap.size + 1) (by omega) htv htr (by rw [HV.out]; exact hgw) ho1 (by rw [HV.out]; simpa using hv1); have hgb := (HCW.out.gr.app (by decide) (k := k) (S := W.heap.size + 1) (by omega) htv htr (by rw [HV.out]; exact hgw) ho1 (by rw [HV.out]; simpa using hv1)).1; have z1 := (ba.grown hgw (Ne.symm (own_blk_ne HROW.out ba (by decide)))).cell 1; have z2 := hgb.get htv; rw [HV.out] at z2; have z3 := hgb.frozen t; have HC2 := Lib.hid hC2; clear hC2 hgb hgw hg1 hv1 ho1))
              all_goals
                go_wp2
                go_roundg (l.length - (j + 1))
                case measure => omega
                case rel => exact ⟨j + 1, vs.set t (.slice (some ⟨gv, 0, none⟩) (R[t].length + 1) cv), R.set t (R[t] ++ [k]), rfl, by omega, by go_num, by first | exact HC2.out | exact HC2.out.drew, HSN.out⟩
            · obtain rfl : l.length = j := by omega
              have HW := Lib.hid hW
              have HSR := Lib.hid (hsrc.row (by have := HTL.out; omega) (by omega))
              clear hW hsrc
              go_wp2
              go_roundg (S.length - (k + 1))
              case measure => omega
              case rel => exact ⟨k + 1, vs, R, rfl, by omega, by go_num, HW.out, HSR.out⟩
      · rw [hs] at cS
        have hqs := HQS.out
        rw [hs] at hqs
        simp only [Bool.not_true, Bool.false_and, Bool.false_eq_true, if_false, List.append_nil] at hqs
        have HQS1 := Lib.hid hqs
        have HSR1 := Lib.hid (HSRC.out.legit hs)
        clear hs hqs
        go_wp2
        go_roundg (S.length - (k + 1))
        case measure => omega
        case rel => exact ⟨k + 1, vs, R, rfl, by omega, by go_num, by rw [HQS1.out]; exact HW.out, HSR1.out⟩
    · obtain rfl : S.length = k := by omega
      have HFIN := Lib.hid (fun t x (ht : t < S.length) => hsrc.fin (x := x) ht)
      have HLEN := Lib.hid hsrc.len
      have HSZ := Lib.hid hsrc.size
      clear hW hsrc HSRC
      go_wp2_with fail
      go_loopg [11, 15] S.length (CoC w #[.slice Ae E.length ce, .slice (some ad) L.length ca] gn gs gb (gb + 1) (nums S.length cf).toArray ((marks m Kf).map Value.bool).toArray vs R (PlG.tg L) (isIn S) good S.length)
      case atStart => exact ⟨0, _, rfl, rfl, HW.out, PlT.QI.start⟩
      case round =>
        clear HW
        obtain ⟨k, Q, hgn, rfl, hW, hQ⟩ := hrel
        have hQn := hQ.len
        obtain ⟨Aq, cq, hvq⟩ := own_sl hW.own
        subst hvq
        by_cases hlt : k < Q.length
        · obtain ⟨gq, cq', hfq, -, -⟩ := hW.own.form (by omega)
          injection hfq with hfq _ hcq
          subst hfq hcq
          have hxl := hQ.lt Q[k] (List.getElem_mem _)
          have hxk : Q[k]? = some Q[k] := List.getElem?_eq_getElem hlt
          have cb1 := hW.own.cellAt k (by omega)
          rw [List.getElem?_map, hxk] at cb1
          generalize Q[k] = x at *
          have HXK := Lib.hid hxk
          have hxr : x < R.length := by rw [HLEN.out]; exact hxl
          have hxv : x < vs.length := by rw [hW.gr.len]; exact hxr
          have gc0 := hW.gr.blk.get hxv
          obtain ⟨Ax, cx, hvx⟩ := own_sl (hW.gr.row x hxv hxr)
          rw [hvx] at gc0
          have HVX := Lib.hid hvx
          have hrl : R.getD x [] = R[x] := by rw [List.getD_eq_getElem?_getD, List.getElem?_eq_getElem hxr]; rfl
          have hmem := fun y => HFIN.out x y hxl
          rw [hrl] at hmem
          have HMEM := Lib.hid hmem
          have hrs := HSZ.out x
          rw [hrl] at hrs
          generalize hr0 : R[x] = r at *
          have HR0 := Lib.hid hr0
          have HW := Lib.hid hW
          have HQ := Lib.hid hQ
          have hks : (k : Int) < (Q.length : Int) := by omega
          have hx1 : (x : Int) < (S.length : Int) := by omega
          have hx0 : (0 : Int) ≤ (x : Int) := by omega
          have hk0 : (0 : Int) ≤ (k : Int) := by omega
          have hI0 : (I x) = .int .i64 (x : Int) := rfl
          rw [Option.map_some, hI0] at cb1
          clear hvx hmem hr0 hW hQ hI0 hrl hxk
          go_wp2_with fail
          clear cb1 gc0
          go_loopg [11, 106] r.length (CoD w #[.slice Ae E.length ce, .slice (some ad) L.length ca] gn gs gb (gb + 1) (nums S.length cf).toArray ((marks m Kf).map Value.bool).toArray vs R (PlG.tg L) (isIn S) good S.length k x r)
          case atStart => exact ⟨0, Q, rfl, Nat.zero_le _, rfl, HW.out, HQ.out, HXK.out, fun y hy => by simp at hy⟩
          case round =>
            clear HW HQ HXK hks hQn
            obtain ⟨j, Q, hgj, hj, rfl, hW, hQ, hxk, hall⟩ := hrel
            have hQn := hQ.len
            obtain ⟨Aq, cq, hvq⟩ := own_sl hW.own
            subst hvq
            by_cases hlt2 : j < r.length
            · have hrow := hW.gr.row x hxv hxr
              rw [HVX.out, HR0.out] at hrow
              obtain ⟨gx, cx', hfx, -, -⟩ := hrow.form (by omega)
              injection hfx with hfx _ hcx
              subst hfx hcx
              have cj := hrow.cellAt j (by omega)
              have hrj : r[j]? = some r[j] := List.getElem?_eq_getElem hlt2
              have hym := (HMEM.out r[j]).1 (List.getElem_mem _)
              rw [List.getElem?_map, hrj] at cj
              have HTK := Lib.hid (PlC.mem_take_succ hrj)
              generalize r[j] = y at *
              obtain ⟨-, hyS, hyn, hyx⟩ := hym
              have cC := mark_at hW.c_ hyn
              have cCf := hW.c_.frozen y
              have lgc := hW.c_.lt
              have hIy : (I y) = .int .i64 (y : Int) := rfl
              rw [Option.map_some, hIy] at cj
              have j0 : (0 : Int) ≤ (j : Int) := by omega
              have j1 : (j : Int) < (r.length : Int) := by omega
              have y0 : (0 : Int) ≤ (y : Int) := by omega
              have y1 : (y : Int) < (S.length : Int) := by omega
              have HW := Lib.hid hW
              have HQ := Lib.hid hQ
              have HXK := Lib.hid hxk
              have HALL := Lib.hid hall
              have hkQ : k < Q.length := (List.getElem?_eq_some_iff.1 hxk).1
              clear hIy hrow hrj hQ hxk hall
              by_cases hyq : y ∈ Q
              · rw [decide_eq_true hyq] at cC
                clear hW
                go_wp2
                go_roundg (r.length - (j + 1))
                case measure => omega
                case rel => exact ⟨j + 1, Q, rfl, by omega, by go_num, HW.out, HQ.out, HXK.out, fun z hz => by
                  rcases (HTK.out z).1 hz with h | h
                  · exact HALL.out z h
                  · rw [h]; exact hyq⟩
              · rw [decide_eq_false hyq] at cC
                have HM1 := Lib.hid (hW.mark (by decide) (by decide) (by decide) y true)
                have HQ1 := Lib.hid (HQ.out.push hkQ hyn hyS hyx (List.mem_of_getElem? HXK.out) hyq)
                have hQn1 := HQ1.out.len
                rw [List.length_append] at hQn1
                have hQn2 : Q.length + 1 ≤ S.length := hQn1
                clear hW hQn1
                go_upto_region 30 with fail
                generalize hW3 : wr.setCell ⟨gb + 1, y, none⟩ (.bool true) = W3 at *
                clear hW3
                go_wp2_with (at_builtin; refine wpList_append_any _ rfl (.tmp 118) (.tmp 120) 33 rfl w.heap.size 3 i0 (.int .i64 0) 1 8 Try.underlying33 hi0 hz0 hz1 hz2 rfl (by decide) (.slice Aq Q.length cq) _ _ rfl (HM1.out.own.alloc _) (W3.heap.size + 1) (some ⟨W3.heap.size, 0, none⟩) 1 1 [I y] rfl (reads_new1 _ _ _) (one_I y) (len_ok (by omega)) (by omega) (by have := HM1.out.bel.size; simp; omega) ?_; intro v1 x1 ho1 hg1 hv1; have HW4 := Lib.hid (HM1.out.app (by decide) (by decide) (by decide) (grown_pre hg1) ho1 (S := W3.heap.size + 1) (by simpa using hv1) (by simp)); clear ho1 hg1 hv1)
                go_roundg (r.length - (j + 1))
                case measure => omega
                case rel => exact ⟨j + 1, Q ++ [y], rfl, by omega, by go_num, HW4.out.congr (fun i _ => by by_cases e : i = y <;> simp [e]), HQ1.out, by rw [List.getElem?_append_left hkQ]; exact HXK.out, fun z hz => by
                  rcases (HTK.out z).1 hz with h | h
                  · exact List.mem_append_left _ (HALL.out z h)
                  · rw [h]; exact List.mem_append_right _ (List.mem_singleton.2 rfl)⟩
            · have HQ1 := Lib.hid (hQ.next hxk (fun y h1 h2 h3 => hall y (by rw [List.take_of_length_le (by omega)]; exact (HMEM.out y).2 ⟨trivial, h2, h1, h3⟩)))
              have hkQ : k < Q.length := (List.getElem?_eq_some_iff.1 hxk).1
              have HW := Lib.hid hW
              clear hW hQ hxk hall
              go_wp2
              go_roundg (S.length - (k + 1))
              case measure => omega
              case rel => exact ⟨k + 1, Q, rfl, by go_num, HW.out, HQ1.out⟩
        · obtain rfl : Q.length = k := by have := hQ.le; omega
          have HF := Lib.hid (show MarksPost w S.length (fun f => ∀ k, k < S.length → (f k = true ↔ PlT.FCore S.length E L (isIn S) k)) (.returned (.tuple #[.slice (some ⟨gb + 1, 0, none⟩) S.length S.length, .int .i64 0])) wr from
            ⟨gb + 1, _, rfl, by omega, hW.c_, fun k hk => (hQ.end_ HSYS.out.to k hk).trans (HFC.out k), hW.bel⟩)
          clear hW hQ
          go_wp2
          go_ret2
          exact HF.out
end Go.Proofs.Ytnjbofahboopoaa
