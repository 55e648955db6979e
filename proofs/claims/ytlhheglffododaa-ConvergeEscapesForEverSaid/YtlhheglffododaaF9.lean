/- converge.Escape: the way through the core. -/
import Derived.Test.YtlhheglffododaaF7
import Derived.Test.YtlhheglffododaaF8
import Derived.Test.YtlhheglffododaaM3
import Derived.Deep.LoopGhost
namespace Go.Proofs.Ytlhheglffododaa
open Go.RowKit Go.Maps

theorem Try.keyI : Keyed Try.prog 3 := int_keyed Try.underlying3
theorem Try.zeroI (w : World) : (zeroValue 3).run Try.prog w = .ok (.int .i64 0) w := by kernel_rfl

theorem lit_eq {a b : Int} (h : (DataW.lit (.int .i64 a) : DataW Unit) = .lit (.int .i64 b)) : a = b := by
  injection h with h
  injection h
theorem own_map_ne {w : World} {base e n n' B : Nat} {v : Value} {xs : List Value} {P : Program} {k : TypeId} {R : Value → Option (DataW Unit × List MemPlace)} {D : DataW Unit} (h : w.ownsRow base e 1 v n xs) (h' : w.ownsMap P k R B n' D) : v.ownBlock ≠ some B := by
  obtain ⟨es, clk, hb, -⟩ := h'
  rcases h.2 with ⟨hv, _⟩ | ⟨g, cap, cur, hv, _, hh, _⟩
  · subst hv; simp [Value.ownBlock]
  · subst hv
    intro he
    injection he with he
    subst he
    rw [hb] at hh
    cases hh
theorem blk_map_ne {w : World} {g t n' B : Nat} {cs : Array Value} {P : Program} {k : TypeId} {R : Value → Option (DataW Unit × List MemPlace)} {D : DataW Unit} (h : Blk w g t cs) (h' : w.ownsMap P k R B n' D) : some g ≠ some B := by
  obtain ⟨es, clk, hb, -⟩ := h'
  intro he
  injection he with he
  subst he
  unfold Blk at h
  rw [hb] at h
  cases h
/-- at the head of the outer loop -/
def CscRel (w : World) (sp : Array Value) (n gb B : Nat) (f : Nat → Bool) (nx : Nat → Option Nat) (R : List Nat × List Nat) (gk : Nat) (v6 v7 vr x : Value) (wr : World) : Prop :=
  ∃ (O : List Nat) (t : Nat) (D : DataW Unit), v6 = .slice none 0 0 ∧ v7 = .slice none 0 0 ∧ gk = n + 1 - O.length ∧ x = .int .i64 (t : Int) ∧ wr.ownsRow w.heap.size 3 1 vr O.length (O.map I) ∧ O.Nodup ∧ (∀ k, k ∈ O → k < n) ∧ EscNext n nx R O (some t) ∧
    wr.ownsMap Try.prog 3 (plainElem Try.prog 3) B O.length D ∧ Plc O D ∧
    Blk wr gb 4 ((marks n f).map Value.bool).toArray ∧ Blk wr w.heap.size 25 sp ∧ Below w.heap.size w wr

/-- at the head of the inner loop -/
def CinRel (w : World) (sp : Array Value) (n gb B m : Nat) (f : Nat → Bool) (O : List Nat) (D : DataW Unit) (vr : Value) (l : List Arc) (q : Option Nat) (g2 : Nat) (s : Value) (wr : World) : Prop :=
  ∃ j : Nat, j + g2 = l.length ∧ s = .int .i64 (j : Int) ∧ ((l.map fun x => x.2.toNat).drop j).find? f = q ∧
    wr.ownsRow w.heap.size 3 1 vr m (O.map I) ∧ wr.ownsMap Try.prog 3 (plainElem Try.prog 3) B m D ∧
    Blk wr gb 4 ((marks n f).map Value.bool).toArray ∧ Blk wr w.heap.size 25 sp ∧ Below w.heap.size w wr

set_option maxRecDepth 100000 in
set_option maxHeartbeats 2000000 in
theorem esc_ok (E : List Nat) (L : List (List Arc)) (v : Value) (hE : WfE E) (hL : WfL L) (hok : PlS.spaceOk E L = true) (S : List Bool) (hSl : S.length = E.length) (A : Option Addr) (c : Nat) (k0 : Nat) (hk0 : k0 < S.length) (g : Nat → Bool) (hg : ∀ k, k < S.length → (g k = true ↔ ¬ PlC.Att (PlG.tg L) (isIn S) k)) (hin : g k0 = true)
    (R : List Nat × List Nat) (hR : PlE.esc (fun k => (PlG.tg L k).find? g) (S.length + 1) [] k0 = R)
    (w : World) (hS : SpaceAt w w.heap.size v E L) (hSr : Reads w w.heap.size 1 A S.length (S.map Value.bool)) :
    Calls Try.prog 21 #[v, .slice A S.length c, .int .i64 k0] w (PairPost w R.1 R.2 0) := by
  have HS := Lib.hid hS
  obtain ⟨ve, va, rfl, ⟨Ae, ce, rfl, re⟩, ⟨Aa, ca, rows, rfl, ra, hk⟩⟩ := hS
  obtain ⟨hn1, hn2, hn3, hto⟩ := PlG.ok_parts hok
  obtain ⟨ad, hA, -⟩ := ra.2 (by omega)
  subst hA
  have HB0 := Lib.hid ((Below.refl w.heap.size w).alloc (Nat.le_refl _) (.cells #[.slice Ae E.length ce, .slice (some ad) L.length ca] 25))
  have RA := Lib.hid ra
  have HK := Lib.hid hk
  have HE := Lib.hid hE
  have HL := Lib.hid hL
  have HG := Lib.hid hg
  have HR := Lib.hid hR
  have SR := Lib.hid hSr
  have HSL := Lib.hid hSl
  have HSLL := Lib.hid (show S.length = L.length by omega)
  have hn0 : S.length ≤ 32768 := by omega
  have HTO := Lib.hid (fun k (hk : k < L.length) x (hx : x ∈ L[k]) => (show 0 ≤ x.2 ∧ x.2 < (S.length : Int) by have := hto k hk x hx; omega))
  have HT := Lib.hid (fun k t (ht : t ∈ PlG.tg L k) => (show t < S.length by have := PlG.tg_lt hok k t ht; omega))
  have HOK := Lib.hid hok
  clear hE hL re ra hk hg hSr hSl hok hR hn1 hn2 hn3 hto
  obtain ⟨i0, hi0, hz0, hz1, hz2⟩ := info_parts Try.infoInt
  have hmm := @run_makeMap Try.prog
  go_enter Try.func21, Try.ntmps21
  go_wp2_with fail
  go_step3
  go_wp2_with fail
  refine (core_ok E L _ HE.out HL.out HOK.out S HSL.out A c _ (HS.out.go HB0.out) (SR.out.go HB0.out)).mono ?_
  rintro e w1 ⟨gb, f, rfl, hgb, bm, hf, hb1⟩
  have HB1 := Lib.hid (below_end hb1 HB0.out)
  have bs := (Blk.new w 25 #[.slice Ae E.length ce, .slice (some ad) L.length ca]).below hb1 (by simp)
  have hfg : ∀ k, k < S.length → f k = g k := fun k hk => by
    have h1 := (hf.iff k (by have := HSLL.out; omega)).trans (HG.out k hk).symm
    cases h : g k
    · exact Bool.eq_false_iff.2 fun h2 => by rw [h1.1 h2] at h; cases h
    · exact h1.2 h
  rw [marks_congr hfg] at bm
  clear hb1 hf hfg f HG
  have m1 := mark_at bm hk0
  rw [hin] at m1
  have BM := Lib.hid bm
  have z0 : (0 : Int) ≤ (k0 : Int) := by omega
  have z1 : (k0 : Int) < (S.length : Int) := by omega
  have d0 : decide ((k0 : Int) < 0) = false := decide_eq_false (by omega)
  have d1 : decide ((S.length : Int) ≤ (k0 : Int)) = false := decide_eq_false (by omega)
  have d2 : decide (S.length ≤ k0) = false := decide_eq_false (by omega)
  clear bm
  go_wp2_with fail
  go_step3
  go_wp2_with fail
  try rw [d2]
  try simp only [d2]
  clear m1 d0 d1 d2
  have hW1 := HB1.out.size
  go_loopg [6, 7, 11, 12] (S.length + 1) (CscRel w #[.slice Ae E.length ce, .slice (some ad) L.length ca] S.length gb w1.heap.size g (fun k => (PlG.tg L k).find? g) R)
  case atStart => exact ⟨[], k0, .map [], rfl, rfl, rfl, rfl, World.ownsRow_nil _ _ _ _, List.nodup_nil, by simp, ⟨hk0, HR.out⟩, World.ownsMap_made _ _ _ _, Plc.start, BM.out.alloc _, bs.alloc _, HB1.out.alloc HB1.out.size _⟩
  case round =>
    clear HB1 bs BM HR HB0
    obtain ⟨O, t, D, rfl, rfl, rfl, rfl, ho, hnd, hlt, ⟨htn, hesc⟩, hm, hp, bm, bs, hB⟩ := hrel
    obtain ⟨Ar, cr, rfl⟩ := own_slice ho
    have hOn : O.length ≤ S.length := PlC.nodup_length_le hnd hlt
    have HO := Lib.hid ho
    have HM := Lib.hid hm
    have HB := Lib.hid hB
    have HKEY := Lib.hid (keyOf_int_mk Try.underlying3 (show (Lit.int .i64 (t : Int)).wf = true from WalkArith.wf_i64 (by omega)))
    have hbz := hB.size
    have HHAS := Lib.hid (hp.has_ t)
    have HAT := Lib.hid (hp.at_ t)
    by_cases hmem : t ∈ O
    · have HI := Lib.hid (esc_end hesc hOn hmem)
      have hil := PlE.idx_lt hmem
      have HAT1 := Lib.hid (HAT.out hmem)
      generalize O.idxOf t = i at *
      obtain ⟨gr, cr', hfr, hgr, hgl⟩ := ho.form (by omega)
      injection hfr with hfr _ hcr
      subst hfr hcr
      have hcap : O.length ≤ cr := own_cap ho
      have i0' : (0 : Int) ≤ (i : Int) := by omega
      have i1 : (i : Int) ≤ (cr : Int) := by omega
      have i2 : (i : Int) ≤ (O.length : Int) := by omega
      have RT1 := Lib.hid (show Reads wr wr.heap.size 1 (some ⟨gr, 0, none⟩) i ((O.take i).map I) from reads_take (Reads.of_own HO.out) hgl (by omega))
      have RT2 := Lib.hid (fun x (h : wr.grownBy x none) => (show Reads x wr.heap.size 1 (if cr = i then some ⟨gr, 0, none⟩ else some ⟨gr, i, none⟩) (O.length - i) ((O.drop i).map I) by rw [if_neg (by omega)]; exact reads_drop (Reads.of_own (kept_none HO.out h)) hgl (by omega)))
      clear ho hm hB hp hnd hlt hesc bm bs
      go_upto_region 11 with (at_lookup; refine wpList_lookup_own_ok_int _ rfl _ _ 54 rfl 3 3 .i64 Try.keyI Try.underlying54 Try.underlying3 (Try.zeroI _) w1.heap.size O.length D rfl HM.out _ (kI t) rfl HKEY.out ?_; intro c hat hwc; obtain rfl : (i : Int) = c := lit_eq ((HAT1.out _).symm.trans hat); rw [HHAS.out, decide_eq_true hmem]; clear hat hwc)
      go_upto_region 12 with (at_builtin; refine wpList_append_any _ rfl (.tmp 50) (.tmp 53) 43 rfl w.heap.size 3 i0 (.int .i64 0) 1 8 Try.underlying43 hi0 hz0 hz1 hz2 rfl (by decide) (.slice none 0 0) 0 [] rfl (World.ownsRow_nil _ _ _ _) wr.heap.size (some ⟨gr, 0, none⟩) i cr ((O.take i).map I) rfl RT1.out (map_I _) (len_ok (by omega)) (by omega) hbz ?_; intro v1 x1 ho1 hg1 hv1; clear hv1)
      have GS1 : wr.grownBy x1 none := hg1
      have hbz1 : w.heap.size ≤ x1.heap.size := Nat.le_trans hbz hg1.size
      have hne : ¬ cr = i := by omega
      have RT3 := RT2.out _ GS1
      rw [if_neg hne] at RT3
      have RT3 := Lib.hid RT3
      go_upto_region 13 with (at_builtin; refine wpList_append_any _ rfl (.tmp 55) (.tmp 58) 43 rfl w.heap.size 3 i0 (.int .i64 0) 1 8 Try.underlying43 hi0 hz0 hz1 hz2 rfl (by decide) (.slice none 0 0) 0 [] rfl (World.ownsRow_nil _ _ _ _) wr.heap.size (some ⟨gr, i, none⟩) (O.length - i) (cr - i) ((O.drop i).map I) rfl RT3.out (map_I _) (len_ok (by omega)) (by omega) hbz1 ?_; intro v2 x2 ho2 hg2 hv2; clear hv2)
      obtain rfl := HI.out
      have ho1' := kept_none ho1 (show x1.grownBy x2 none from hg2)
      rw [Nat.zero_add] at ho1 ho1' ho2
      obtain ⟨A1, c1, rfl⟩ := own_slice ho1
      obtain ⟨A2, c2, rfl⟩ := own_slice ho2
      have hB2 : Below w.heap.size w x2 := HB.out.grown (gr_trans GS1 hg2) hbz (fun b hb => by cases hb)
      have HP := Lib.hid (show PairPost w (O.take i) (O.drop i) 0 (.returned (.tuple #[.slice A1 i c1, .slice A2 (O.length - i) c2, .int .i64 0])) x2 from pair_of ho1' ho2 (by simp; omega) (by simp) hB2)
      clear ho1 ho2 hg1 hg2 GS1 ho1' hB2
      go_wp2
      refine bodyPost_ret (v := .tuple #[.slice A1 i c1, .slice A2 (O.length - i) c2, .int .i64 0]) ?_ rfl HP.out
      simp [results, Try.results21, go_sem]
    · have HN := Lib.hid (esc_step hesc hOn hmem (find_lt HT.out t))
      have HND1 := Lib.hid (show (O ++ [t]).Nodup from List.nodup_append.2 ⟨hnd, by simp, fun a ha b hb => by rw [List.mem_singleton] at hb; subst hb; exact fun h => hmem (h ▸ ha)⟩)
      have HLT1 := Lib.hid (show ∀ k, k ∈ O ++ [t] → k < S.length from fun k hk => by rcases List.mem_append.1 hk with h | h; exact hlt k h; rw [List.mem_singleton] at h; subst h; exact htn)
      have hOn1 : O.length + 1 ≤ S.length := by have := PlC.nodup_length_le HND1.out HLT1.out; simpa using this
      have HPL := Lib.hid (hp.step hm.isMap hmem)
      have HOb := Lib.hid (own_map_ne ho hm)
      have HBb := Lib.hid (blk_map_ne bm hm)
      have HSb := Lib.hid (blk_map_ne bs hm)
      have HBM := Lib.hid bm
      have HBS := Lib.hid bs
      have t0 : (0 : Int) ≤ (t : Int) := by omega
      have t1 : (t : Int) < (L.length : Int) := by have := HSLL.out; omega
      have htL : t < L.length := by have := HSLL.out; omega
      clear ho hm hB hp hnd hlt hesc bm bs HAT
      go_upto_region 15 with (first
        | (at_lookup; refine wpList_lookup_own_ok_int _ rfl _ _ 54 rfl 3 3 .i64 Try.keyI Try.underlying54 Try.underlying3 (Try.zeroI _) w1.heap.size O.length D rfl HM.out _ (kI t) rfl HKEY.out ?_; intro c hat hwc; rw [HHAS.out, decide_eq_false hmem]; clear hat hwc)
        | (at_mapUpdate; refine wpList_mapUpdate_own _ rfl _ _ _ 54 rfl 3 3 Try.keyI Try.underlying54 _ w1.heap.size O.length D rfl HM.out (by unfold maxLen; omega) _ _ (kI t) rfl rfl HKEY.out (vI O.length) [] (plainElem_int Try.underlying3 (WalkArith.wf_i64 (by omega))) ?_; intro w2 hown1 hgrow1))
      have HM2 := Lib.hid hown1
      have HO2 := Lib.hid (HO.out.kept hgrow1 (.inr HOb.out))
      have HBM2 := Lib.hid (HBM.out.grown hgrow1 HBb.out)
      have HBS2 := Lib.hid (HBS.out.grown hgrow1 HSb.out)
      have HB2 := Lib.hid (HB.out.grown hgrow1 hbz (fun b hb => by injection hb with hb; subst hb; exact hW1))
      have hbz2 : w.heap.size ≤ w2.heap.size := Nat.le_trans hbz hgrow1.size
      clear hown1 hgrow1 HM HO HBM HBS HB HOb HBb HSb
      go_upto_region 16 with (at_builtin; refine wpList_append_any _ rfl (.tmp 66) (.tmp 68) 43 rfl w.heap.size 3 i0 (.int .i64 0) 1 8 Try.underlying43 hi0 hz0 hz1 hz2 rfl (by decide) (.slice Ar O.length cr) _ _ rfl (HO2.out.alloc _) (w2.heap.size + 1) (some ⟨w2.heap.size, 0, none⟩) 1 1 [I t] rfl (reads_new1 _ _ _) (one_I t) (len_ok (by omega)) (by omega) (by simp; omega) ?_; intro v1 x1 ho1 hg1 hv1; have HO1 := Lib.hid ho1; have HB1 := Lib.hid ((HB2.out.alloc hbz2 _).grown hg1 (by simp; omega) (fun b hb => (HO2.out.lt b hb).1)); have HS1 := Lib.hid ((HBS2.out.alloc _).grown hg1 (Ne.symm (own_blk_ne HO2.out HBS2.out (by decide)))); have HBM1 := Lib.hid ((HBM2.out.alloc _).grown hg1 (Ne.symm (own_blk_ne HO2.out HBM2.out (by decide)))); have HM1 := Lib.hid ((HM2.out.alloc _).kept hg1 (Ne.symm (own_map_ne HO2.out HM2.out))); clear ho1 hg1 hv1)
      have hB1 := HB1.out
      have bs1 := HS1.out
      obtain ⟨ad', Ak, ck, hA, hbl, cr0, rk⟩ := row_at RA.out HK.out htL
      obtain rfl : ad = ad' := by injection hA
      have cr1 := (hB1.cell (p := ad.add t) (by rw [block_of_add]; exact hbl)).trans cr0
      have hll := (HL.out t htL).1
      have htg : PlG.tg L t = L[t].map fun x => x.2.toNat := by unfold PlG.tg; rw [List.getD_eq_getElem?_getD, List.getElem?_eq_getElem htL]; rfl
      have HTT := Lib.hid (HTO.out t htL)
      have HQ := Lib.hid (show (L[t].map fun x => x.2.toNat).find? g = (PlG.tg L t).find? g by rw [htg])
      obtain ⟨p0, p1, pf⟩ := blk2 bs1
      have RK := Lib.hid rk
      clear hA htg rk cr0 hB1 bs1 HM2 HO2 HBM2 HBS2 HB2
      generalize L[t] = l at *
      go_wp2_with fail
      clear p0 p1 pf cr1
      go_loopg [76] l.length (CinRel w #[.slice Ae E.length ce, .slice (some ad) L.length ca] S.length gb w1.heap.size (O.length + 1) g (O ++ [t]) (D.put (kI t) (vI O.length)) v1 l ((PlG.tg L t).find? g))
      case atStart => exact ⟨0, Nat.zero_add _, rfl, HQ.out, by rw [List.map_append]; exact HO1.out, HM1.out, HBM1.out, HS1.out, HB1.out⟩
      case round =>
        clear HQ HO1 HM1 HBM1 HS1 HB1
        obtain ⟨j, hjg, rfl, hq, ho, hm, bm, bs, hB⟩ := hrel
        have HO := Lib.hid ho
        have HM := Lib.hid hm
        have HBM := Lib.hid bm
        have HBS := Lib.hid bs
        have HB := Lib.hid hB
        have HQ := Lib.hid hq
        have hbz' := hB.size
        obtain ⟨A1, c1, rfl⟩ := own_slice ho
        cases gk with
        | zero =>
          obtain rfl : j = l.length := by omega
          have hq0 : (PlG.tg L t).find? g = none := by rw [← HQ.out, List.drop_eq_nil_of_le (by simp)]; rfl
          have hn0 := HN.out
          rw [hq0] at hn0
          obtain rfl : R = (O ++ [t], []) := hn0
          have HP := Lib.hid (show PairPost w (O ++ [t]) [] 0 (.returned (.tuple #[.slice A1 (O.length + 1) c1, .slice none 0 0, .int .i64 0])) wr from ⟨A1, none, c1, 0, by simp, by have := Reads.of_own ho; simpa using this, Reads.none_, hB⟩)
          clear ho hm bm bs hB hq hq0
          go_wp2
          refine bodyPost_ret (v := .tuple #[.slice A1 (O.length + 1) c1, .slice none 0 0, .int .i64 0]) ?_ rfl HP.out
          simp [results, Try.results21, go_sem]
        | succ g2 =>
          have hlt : j < l.length := by omega
          obtain ⟨bd, hA, hbb, c0, c1'⟩ := arc_at (RK.out.below hB) hlt
          subst hA
          have hx := HTT.out l[j] (List.getElem_mem _)
          have hg : (l.map fun x => x.2.toNat)[j]? = some l[j].2.toNat := by rw [List.getElem?_map, List.getElem?_eq_getElem hlt]; rfl
          generalize l[j] = x at *
          obtain ⟨xs, xt⟩ := x
          dsimp only at c0 c1' hx hg
          obtain ⟨y, rfl⟩ : ∃ y : Nat, xt = (y : Int) := ⟨xt.toNat, by omega⟩
          rw [Int.toNat_natCast] at hg
          have hyn : y < S.length := by omega
          have c2 := mark_at bm hyn
          have hbl1 := bm.lt
          have HPS := Lib.hid (find_pass (f := g) hg)
          have HHT := Lib.hid (find_hit (f := g) hg)
          have k0 : (0 : Int) ≤ (j : Int) := by omega
          have k1 : (j : Int) < (l.length : Int) := by omega
          have y0 : (0 : Int) ≤ (y : Int) := by omega
          have y1 : (y : Int) < (S.length : Int) := by omega
          clear hx hg hq ho hm bm bs hB
          cases hgy : g y
          · rw [hgy] at c2
            have HQ1 := Lib.hid ((HPS.out hgy).trans HQ.out)
            clear hgy HPS HHT
            go_wp2
            go_roundg g2
            case measure => omega
            case rel => exact ⟨j + 1, by omega, by go_num, HQ1.out, HO.out.alloc _, HM.out.alloc _, HBM.out.alloc _, HBS.out.alloc _, HB.out.alloc hbz' _⟩
          · rw [hgy] at c2
            have hn1 := HN.out
            rw [← HQ.out, HHT.out hgy] at hn1
            have HN1 := Lib.hid hn1
            clear hn1 hgy HPS HHT HN
            go_wp2
            go_roundg (S.length + 1 - (O.length + 1))
            case measure => omega
            case rel => exact ⟨O ++ [t], y, _, rfl, rfl, by simp, rfl, by rw [List.length_append]; exact HO.out.alloc _, HND1.out, HLT1.out, HN1.out, by rw [List.length_append]; exact HM.out.alloc _, HPL.out, HBM.out.alloc _, HBS.out.alloc _, HB.out.alloc hbz' _⟩
end Go.Proofs.Ytlhheglffododaa
