/- The walk of ConvergeIsMonotone. -/
import Derived.Test.YtlhheglffododaaC11
import Derived.Test.YtlhheglffododaaN0
namespace Go.Proofs.Ytlhheglffododaa
open Go.RowKit

theorem attr_n (E : List Nat) (L : List (List Arc)) (v : Value) (hE : WfE E) (hL : WfL L) (hok : PlS.spaceOk E L = true) (S : List Bool) (n : Nat) (hn : S.length = n) (hSl : n = E.length) (A : Option Addr) (c : Nat) (w : World) (hS : SpaceAt w w.heap.size v E L)
    (hSr : Reads w w.heap.size 1 A n (S.map Value.bool)) :
    Calls Try.prog 12 #[v, .slice A n c] w (MarksPost w n (IsAtt L.length (PlG.tg L) (isIn S))) := by
  subst hn
  exact attr_ok E L v hE hL hok S hSl A c w hS hSr

theorem isIn_lt {S : List Bool} {j : Nat} (h : isIn S j = true) : j < S.length := by
  rcases Nat.lt_or_ge j S.length with h' | h'
  · exact h'
  · unfold isIn at h; rw [List.getD_eq_getElem?_getD, List.getElem?_eq_none h'] at h; cases h
theorem isIn_marks {n : Nat} {f : Nat → Bool} {j : Nat} : isIn (marks n f) j = (decide (j < n) && f j) := getD_marks n f j
theorem att_idem {n : Nat} {G : Nat → List Nat} {S : List Bool} {f f' : Nat → Bool} (hS : S.length = n) (h : IsAtt n G (isIn S) f) (h' : IsAtt n G (isIn (marks n f)) f') (k : Nat) (hk : k < n) : f' k = f k := by
  have e : (f' k = true ↔ f k = true) := by
    rw [h'.iff k hk, h.iff k hk]
    constructor
    · intro ha
      refine ha _ (fun j hj => ?_) fun j h1 h2 => .step h1 h2
      rw [isIn_marks, Bool.and_eq_true, decide_eq_true_eq] at hj
      exact (h.iff j hj.1).1 hj.2
    · intro ha
      refine ha.mono fun j hj => ?_
      have hl := isIn_lt hj
      rw [isIn_marks, Bool.and_eq_true, decide_eq_true_eq]
      exact ⟨by omega, (h.iff j (by omega)).2 (.base hj)⟩
  cases h1 : f' k <;> cases h2 : f k <;> simp [h1, h2] at e ⊢
theorem att_more {n : Nat} {G : Nat → List Nat} {S : List Bool} {f f' : Nat → Bool} {m : Nat → Bool} (hS : S.length = n) (h : IsAtt n G (isIn S) f) (h' : IsAtt n G (isIn (marks n (fun i => isIn S i || m i))) f') (k : Nat) (hk : k < n) (hf : f k = true) : f' k = true := by
  refine (h'.iff k hk).2 (((h.iff k hk).1 hf).mono fun j hj => ?_)
  have hl := isIn_lt hj
  rw [isIn_marks, hj]
  simp; omega
theorem marks_snoc (k : Nat) (f : Nat → Bool) : marks (k + 1) f = marks k f ++ [f k] := by
  unfold marks; rw [List.range_succ, List.map_append]; rfl
theorem one_B (b : Bool) : ∀ u ∈ [Value.bool b], u.oneCell' = true := by simp [Value.oneCell']

set_option maxRecDepth 100000 in
set_option maxHeartbeats 2000000 in
theorem mono_law (w : World) (E : List Nat) (L : List (List Arc)) (v : Value) (hE : WfE E) (hV : WfV L) (hS : SpaceAt w w.heap.size v E L) (S : List Bool) (A : Option Addr) (c : Nat) (_hm : S.length ≤ 9223372036854775807)
    (hSr : Reads w w.heap.size 1 A S.length (S.map Value.bool)) (M : List Bool) (A2 : Option Addr) (c2 : Nat) (_hm2 : M.length ≤ 9223372036854775807) (hMr : Reads w w.heap.size 1 A2 M.length (M.map Value.bool)) :
    Calls Try.prog 4 #[v, .slice A S.length c, .slice A2 M.length c2] w fun e w' => e = .returned (.bool true) ∧ Below w.heap.size w w' := by
  have HS := Lib.hid hS
  obtain ⟨ve, va, rfl, ⟨Ae, ce, rfl, re⟩, ⟨Aa, ca, rows, rfl, ra, hk⟩⟩ := hS
  have HE := Lib.hid hE
  have HV := Lib.hid hV
  have SR := Lib.hid hSr
  have MR := Lib.hid hMr
  clear re ra hk hE hV hSr hMr
  have hb0 := (Below.refl w.heap.size w).alloc (Nat.le_refl _) (.cells #[.slice Ae E.length ce, .slice Aa L.length ca] 25)
  have HB0 := Lib.hid hb0
  clear hb0
  cases h1 : fairB E L S.length
  · have H1 := Lib.hid h1
    clear h1
    go_enter Try.func4, Try.ntmps4
    go_wp2_with fail
    refine (fair_is E L _ HE.out HV.out A S.length c false H1.out _ (HS.out.go HB0.out)).mono ?_
    rintro e w1 ⟨rfl, hb1⟩
    have HB1 := Lib.hid (below_end hb1 HB0.out)
    clear hb1
    go_wp2_with fail
    refine (awake_any _).mono ?_
    rintro e w2 ⟨rfl, hb2⟩
    go_wp2
    go_ret
    exact ⟨rfl, below_end hb2 HB1.out⟩
  · obtain ⟨f1, f2, f3⟩ := fair_parts h1
    have HL := Lib.hid (wfl_light HV.out f1)
    have HOK := Lib.hid f2
    have HSL := Lib.hid f3
    have H1 := Lib.hid h1
    have hn : S.length ≤ 200 := by have := (light_parts f1).1; omega
    have HSLL := Lib.hid (show S.length = L.length by have := (PlG.ok_parts f2).2.2.1; omega)
    clear f1 f2 f3 h1
    by_cases hML : M.length = S.length
    · have HML := Lib.hid hML
      have t1 : ((M.length : Int) != (S.length : Int)) = false := by simp [hML]
      clear hML
      obtain ⟨i0, hi0, hz0, hz1, hz2⟩ := info_parts Try.infoBool
      go_enter Try.func4, Try.ntmps4
      go_wp2_with fail
      refine (fair_is E L _ HE.out HV.out A S.length c true H1.out _ (HS.out.go HB0.out)).mono ?_
      rintro e w1 ⟨rfl, hb1⟩
      have HB1 := Lib.hid (below_end hb1 HB0.out)
      have bs := (Blk.new w 25 #[.slice Ae E.length ce, .slice Aa L.length ca]).below hb1 (by simp)
      obtain ⟨p0, p1, pf⟩ := blk2 bs
      clear hb1
      go_wp2_with fail
      go_loopw [7, 8] (fun v i wr => ∃ k : Nat, k ≤ S.length ∧ i = .int .i64 k ∧ wr.ownsRow w.heap.size 4 1 v k ((marks k (fun i => isIn S i || isIn M i)).map Value.bool) ∧
        Blk wr w.heap.size 25 #[.slice Ae E.length ce, .slice Aa L.length ca] ∧ Below w.heap.size w wr) (fun _ i _ => S.length - (intOf i).toNat)
      case atStart => exact ⟨0, Nat.zero_le _, rfl, World.ownsRow_nil _ _ _ _, bs, HB1.out⟩
      case round =>
        clear bs p0 p1 pf HB1
        obtain ⟨k, hk, rfl, ho, bs, hB⟩ := hrel
        have HO := Lib.hid ho
        have HB := Lib.hid hB
        have hbz := hB.size
        by_cases hlt : k < S.length
        · have hltM : k < M.length := by have := HML.out; omega
          obtain ⟨sd, rfl, hbl, cc⟩ := bool_at (SR.out.below hB) hlt
          obtain ⟨md, rfl, hbm, cm⟩ := bool_at (MR.out.below hB) hltM
          have hsn := marks_snoc k (fun i => isIn S i || isIn M i)
          rw [isIn_of hlt, isIn_of hltM] at hsn
          have HSN := Lib.hid hsn
          have k0 : (0 : Int) ≤ (k : Int) := by omega
          have k1 : (k : Int) < (S.length : Int) := by omega
          have k2 : (k : Int) < (M.length : Int) := by omega
          generalize S[k] = x at *
          generalize M[k] = y at *
          clear hsn hB ho
          cases x
          all_goals
            go_wp2_with (at_builtin; refine wpList_append_any _ rfl (.tmp 34) (.tmp 45) 26 rfl w.heap.size 4 i0 (.bool false) 1 1 Try.underlying26 hi0 hz0 hz1 hz2 rfl (by decide) u7 _ _ rfl (HO.out.alloc _) (wr.heap.size + 1) (some ⟨wr.heap.size, 0, none⟩) 1 1 [Value.bool _] rfl (reads_new1 _ _ _) (one_B _) (len_ok (by omega)) (by omega) (by simp; omega) ?_; intro v1 x1 ho1 hg1 hv1; have HO1 := Lib.hid ho1; have HB1 := Lib.hid ((HB.out.alloc hbz _).grown hg1 (by simp; omega) (fun b hb => (HO.out.lt b hb).1)); have HS1 := Lib.hid ((bs.alloc _).grown hg1 (Ne.symm (own_blk_ne HO.out bs (by decide)))); clear ho1 hg1 hv1)
            refine ⟨⟨k + 1, by omega, by go_num, ?_, HS1.out, HB1.out⟩, by simp [intOf]; omega⟩
            rw [HSN.out, List.map_append]
            exact HO1.out
        · obtain rfl : k = S.length := by omega
          obtain ⟨Ab, cb, rfl⟩ := own_slice ho
          obtain ⟨p0, p1, pf⟩ := blk2 bs
          clear hB ho
          go_wp2_with fail
          refine (attr_ok E L _ HE.out HL.out HOK.out S HSL.out A c _ (HS.out.go HB.out) (SR.out.go HB.out)).mono ?_
          rintro e w2 ⟨g, f, rfl, hg, bm, hf, hb2⟩
          have HB2 := Lib.hid (below_end hb2 HB.out)
          have bs2 := bs.below hb2 bs.lt
          have ho2 := own_below' HO.out hb2
          have HF := Lib.hid hf
          clear hb2 p0 p1 pf bs hf hg HO HB
          obtain ⟨p0, p1, pf⟩ := blk2 bs2
          have HO2 := Lib.hid ho2
          clear ho2
          go_wp2_with fail
          refine (attr_n E L _ HE.out HL.out HOK.out (marks S.length (fun i => isIn S i || isIn M i)) S.length (marks_len _ _) HSL.out Ab cb _ (HS.out.go HB2.out) (Reads.of_own HO2.out)).mono ?_
          rintro e w3 ⟨g', f', rfl, hg', bm', hf', hb3⟩
          have HB3 := Lib.hid (below_end hb3 HB2.out)
          have bs3 := bs2.below hb3 bs2.lt
          have bm3 := bm.below hb3 bm.lt
          have hf3 := hf'
          rw [HSLL.out] at hf3
          have HMORE := Lib.hid (att_more (m := isIn M) HSLL.out HF.out hf3)
          clear hb3 p0 p1 pf bs2 hf' hf3 hg' bm HO2
          obtain ⟨p0, p1, pf⟩ := blk2 bs3
          have BM3 := Lib.hid bm3
          have BM' := Lib.hid bm'
          have hgl := bm3.lt
          clear bm3 bm'
          go_wp2_with fail
          refine (attr_n E L _ HE.out HL.out HOK.out (marks S.length f) S.length (marks_len _ _) HSL.out _ _ _ (HS.out.go HB3.out) (reads_blk BM3.out hgl (by simp [marks_len]))).mono ?_
          rintro e w4 ⟨g'', f'', rfl, hg'', bm'', hf'', hb4⟩
          have HB4 := Lib.hid (below_end hb4 HB3.out)
          have BM4 := Lib.hid (BM3.out.below hb4 BM3.out.lt)
          have BM4' := Lib.hid (BM'.out.below hb4 BM'.out.lt)
          have hf4 := hf''
          rw [HSLL.out] at hf4
          have hid := fun k hk => att_idem HSLL.out HF.out hf4 k hk
          have hbmm := bm''
          rw [marks_congr (g := f) (fun k hk => hid k (by have := HSLL.out; omega))] at hbmm
          have BM5 := Lib.hid hbmm
          clear hb4 p0 p1 pf bs3 hf'' hf4 hg'' hid hbmm bm'' BM3 BM' hgl
          go_wp2_with fail
          refine (same_n (marks S.length f) S.length (marks_len _ _) (by omega) _ _ _ _ w4.heap.size w4.heap.size _ (reads_blk BM4.out BM4.out.lt (by simp [marks_len])) (reads_blk BM5.out BM5.out.lt (by simp [marks_len]))).mono ?_
          rintro e w5 ⟨rfl, d, rfl⟩
          clear BM5
          go_wp2_with fail
          go_loop [15] (fun i => ∃ k : Nat, k ≤ S.length ∧ i = .int .i64 k) (fun i => S.length - (intOf i).toNat)
          case atStart => exact ⟨0, Nat.zero_le _, rfl⟩
          case round =>
            obtain ⟨k, hk, rfl⟩ := hrel
            by_cases hlt : k < S.length
            · have hkL : k < L.length := by have := HSLL.out; omega
              have m1 := mark_at BM4.out hlt
              have m2 := mark_at BM4'.out hlt
              obtain ⟨sd, rfl, hbl, m3⟩ := bool_at (SR.out.below HB4.out) hlt
              have h1 := HMORE.out k hkL
              have h2 : S[k] = true → f k = true := fun h => (HF.out.iff k hkL).2 (.base (by rw [isIn_of hlt]; exact h))
              generalize f k = x at *
              generalize f' k = y at *
              generalize S[k] = z at *
              have k0 : (0 : Int) ≤ (k : Int) := by omega
              have k1 : (k : Int) < (S.length : Int) := by omega
              have e3 : (x = true ∧ y = true) ∨ (x = false ∧ z = false) := by
                cases x
                · cases z
                  · exact .inr ⟨rfl, rfl⟩
                  · exact absurd (h2 rfl) (by simp)
                · exact .inl ⟨rfl, h1 rfl⟩
              clear h1 h2
              rcases e3 with ⟨rfl, rfl⟩ | ⟨rfl, rfl⟩
              · cases z
                all_goals
                  go_wp2
                  exact ⟨⟨k + 1, by omega, by go_num⟩, by simp [intOf]; omega⟩
              · go_wp2
                exact ⟨⟨k + 1, by omega, by go_num⟩, by simp [intOf]; omega⟩
            · go_wp2_with fail
              refine (awake_any _).mono ?_
              rintro e w6 ⟨rfl, hb6⟩
              go_wp2
              go_ret
              exact ⟨rfl, below_end hb6 (below_drewN HB4.out d)⟩
    · have t1 : ((M.length : Int) != (S.length : Int)) = true := by rw [bne_iff_ne]; omega
      go_enter Try.func4, Try.ntmps4
      go_wp2_with fail
      refine (fair_is E L _ HE.out HV.out A S.length c true H1.out _ (HS.out.go HB0.out)).mono ?_
      rintro e w1 ⟨rfl, hb1⟩
      have HB1 := Lib.hid (below_end hb1 HB0.out)
      clear hb1
      go_wp2_with fail
      refine (awake_any _).mono ?_
      rintro e w2 ⟨rfl, hb2⟩
      go_wp2
      go_ret
      exact ⟨rfl, below_end hb2 HB1.out⟩
end Go.Proofs.Ytlhheglffododaa
