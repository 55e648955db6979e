/- The walk of ConvergeNeedsNoStrayArcs. -/
import Derived.Test.YtlhheglffododaaC11
namespace Go.Proofs.Ytlhheglffododaa
open Go.RowKit

theorem countP_step {l : List Nat} {f : Nat → Bool} {j t : Nat} (h : l[j]? = some t) : (l.take (j + 1)).countP f = (l.take j).countP f + (f t).toNat := by
  rw [List.take_add_one, h, List.countP_append]
  cases hf : f t <;> simp [hf]
/-- the test of the law, for a state of the core -/
theorem stray_in {n : Nat} {G : Nat → List Nat} {S f : Nat → Bool} (hf : IsCore n G S f) (hT : ∀ k t, t ∈ G k → t < n) {k : Nat} (hk : k < n) (h : f k = true) : (G k).length = 0 ∨ 0 < (G k).countP f := by
  rcases Nat.eq_zero_or_pos ((G k).countP f) with h0 | h0
  · left
    refine Nat.eq_zero_of_not_pos fun hp => (hf.iff k hk).1 h (.step (List.length_pos_iff.1 hp) fun t ht => ?_)
    have h1 := List.countP_eq_zero.1 h0 t ht
    have h2 := hf.iff t (hT k t ht)
    exact Classical.byContradiction fun hn => h1 (h2.2 hn)
  · exact .inr h0
theorem stray_out {n : Nat} {G : Nat → List Nat} {S f : Nat → Bool} (hf : IsCore n G S f) (hT : ∀ k t, t ∈ G k → t < n) {k : Nat} (hk : k < n) (h : f k = false) (hs : S k = false) : 0 < (G k).length ∧ (G k).countP f = 0 := by
  have ha : PlC.Att G S k := Classical.byContradiction fun hn => by rw [(hf.iff k hk).2 hn] at h; cases h
  rcases ha.cases with h1 | ⟨h1, h2⟩
  · rw [hs] at h1; cases h1
  · refine ⟨List.length_pos_iff.2 h1, List.countP_eq_zero.2 fun t ht => ?_⟩
    exact fun h3 => (hf.iff t (hT k t ht)).1 h3 (h2 t ht)

set_option maxRecDepth 100000 in
set_option maxHeartbeats 1000000 in
theorem stray_law (w : World) (E : List Nat) (L : List (List Arc)) (v : Value) (hE : WfE E) (hV : WfV L) (hS : SpaceAt w w.heap.size v E L) (S : List Bool) (A : Option Addr) (c : Nat) (_hm : S.length ≤ 9223372036854775807)
    (hSr : Reads w w.heap.size 1 A S.length (S.map Value.bool)) :
    Calls Try.prog 5 #[v, .slice A S.length c] w fun e w' => e = .returned (.bool true) ∧ Below w.heap.size w w' := by
  have HS := Lib.hid hS
  obtain ⟨ve, va, rfl, ⟨Ae, ce, rfl, re⟩, ⟨Aa, ca, rows, rfl, ra, hk⟩⟩ := hS
  have HE := Lib.hid hE
  have HV := Lib.hid hV
  have SR := Lib.hid hSr
  clear re ra hk hE hV hSr
  have hb0 := (Below.refl w.heap.size w).alloc (Nat.le_refl _) (.cells #[.slice Ae E.length ce, .slice Aa L.length ca] 25)
  have HB0 := Lib.hid hb0
  clear hb0
  cases h1 : fairB E L S.length
  · have H1 := Lib.hid h1
    clear h1
    go_enter Try.func5, Try.ntmps5
    go_wp2_with fail
    refine (fair_is E L _ HE.out HV.out A S.length c false H1.out _ (HS.out.go HB0.out)).mono ?_
    rintro e w1 ⟨rfl, hb1⟩
    have HB1 := Lib.hid (below_end hb1 HB0.out)
    clear hb1
    go_wp2_with fail
    refine (awake_any _).mono ?_
    rintro e w2 ⟨rfl, hb2⟩
    go_wp2
    go_ret
    exact ⟨rfl, below_end hb2 HB1.out⟩
  · obtain ⟨f1, f2, f3⟩ := fair_parts h1
    have HL := Lib.hid (wfl_light HV.out f1)
    have HOK := Lib.hid f2
    have HSL := Lib.hid f3
    have H1 := Lib.hid h1
    have hn : S.length ≤ 200 := by have := (light_parts f1).1; omega
    have HSLL := Lib.hid (show S.length = L.length by have := (PlG.ok_parts f2).2.2.1; omega)
    clear f1 f2 f3 h1
    go_enter Try.func5, Try.ntmps5
    go_wp2_with fail
    refine (fair_is E L _ HE.out HV.out A S.length c true H1.out _ (HS.out.go HB0.out)).mono ?_
    rintro e w1 ⟨rfl, hb1⟩
    have HB1 := Lib.hid (below_end hb1 HB0.out)
    have bs := (Blk.new w 25 #[.slice Ae E.length ce, .slice Aa L.length ca]).below hb1 (by simp)
    obtain ⟨p0, p1, pf⟩ := blk2 bs
    clear hb1
    go_wp2_with fail
    refine (core_ok E L _ HE.out HL.out HOK.out S HSL.out A c _ (HS.out.go HB1.out) (SR.out.go HB1.out)).mono ?_
    rintro e w3 ⟨g, f, rfl, hg, bm, hf, hb3⟩
    have HB3 := Lib.hid (below_end hb3 HB1.out)
    have bs3 := bs.below hb3 bs.lt
    have HF := Lib.hid hf
    have BM := Lib.hid bm
    have HT := Lib.hid (fun k t ht => (show t < L.length by have := PlG.tg_lt HOK.out k t ht; have := HSLL.out; have := HSL.out; omega))
    have HS3 := Lib.hid (HS.out.go HB3.out)
    clear hb3 p0 p1 pf bs hf hg bm
    obtain ⟨p0, p1, pf⟩ := blk2 bs3
    obtain ⟨ve', va', hve, -, ⟨Aa', ca', rows', hva, ra, hk⟩⟩ := HS3.out
    injection hve with hve
    obtain ⟨hve1, hve2⟩ : ve' = .slice Ae E.length ce ∧ va' = .slice Aa L.length ca := by
      have := Array.toList_inj.2 hve
      simp only [List.cons.injEq, and_true] at this
      exact ⟨this.1.symm, this.2.symm⟩
    rw [hve2] at hva
    injection hva with q1 _ q3
    subst q1 q3
    have RA := Lib.hid ra
    have HK := Lib.hid hk
    clear ra hk hve hve1 hve2
    go_wp2_with fail
    go_loop [7] (fun i => ∃ k : Nat, k ≤ S.length ∧ i = .int .i64 k) (fun i => S.length - (intOf i).toNat)
    case atStart => exact ⟨0, Nat.zero_le _, rfl⟩
    case round =>
      obtain ⟨k, hk, rfl⟩ := hrel
      by_cases hlt : k < S.length
      · have hkL : k < L.length := by have := HSLL.out; omega
        obtain ⟨ad, Ak, ck, rfl, hbl, cr, rk⟩ := row_at RA.out HK.out hkL
        have m1 := mark_at BM.out hlt
        obtain ⟨sd, rfl, hbl2, m3⟩ := bool_at (SR.out.below HB3.out) hlt
        have HIN := Lib.hid (stray_in HF.out HT.out hkL)
        have HOUT := Lib.hid (stray_out HF.out HT.out hkL)
        rw [isIn_of hlt] at HOUT
        have hll := (light_parts (fair_parts H1.out).1).2.2.2 k hkL
        have HTL := Lib.hid (PlG.tg_len L k hkL)
        have HTG := Lib.hid (PlG.tg_get L k · hkL)
        have hto := (PlG.ok_parts HOK.out).2.2.2 k hkL
        have HTO := Lib.hid hto
        have RK := Lib.hid rk
        clear rk hto
        generalize L[k] = l at *
        have k0 : (0 : Int) ≤ (k : Int) := by omega
        have k1 : (k : Int) < (L.length : Int) := by omega
        have k2 : (k : Int) < (S.length : Int) := by omega
        go_wp2_with fail
        go_loop [8, 9] (fun n i => ∃ j : Nat, j ≤ l.length ∧ i = .int .i64 j ∧ n = .int .i64 (((PlG.tg L k).take j).countP f : Nat)) (fun _ i => l.length - (intOf i).toNat)
        case atStart => exact ⟨0, Nat.zero_le _, rfl, rfl⟩
        case round =>
          obtain ⟨j, hj, rfl, rfl⟩ := hrel
          have hcl : ((PlG.tg L k).take j).countP f ≤ j := Nat.le_trans List.countP_le_length (List.length_take_le _ _)
          by_cases hlt2 : j < l.length
          · obtain ⟨ad2, rfl, hbl3, c0, c1⟩ := arc_at RK.out hlt2
            have hx := HTO.out l[j] (List.getElem_mem _)
            have htg := HTG.out j hlt2
            generalize l[j] = x at *
            obtain ⟨xs, xt⟩ := x
            dsimp only at c0 c1 hx htg
            obtain ⟨t, rfl⟩ : ∃ t : Nat, xt = (t : Int) := ⟨xt.toNat, by omega⟩
            rw [Int.toNat_natCast] at htg
            have htn : t < S.length := by have := HSL.out; omega
            have m2 := mark_at BM.out htn
            have HCS := Lib.hid (countP_step (f := f) htg)
            generalize ((PlG.tg L k).take j).countP f = q at *
            have j0 : (0 : Int) ≤ (j : Int) := by omega
            have j1 : (j : Int) < (l.length : Int) := by omega
            have t0 : (0 : Int) ≤ (t : Int) := by omega
            have t1 : (t : Int) < (S.length : Int) := by omega
            clear hx htg
            cases hft : f t
            all_goals
              rw [hft] at m2 HCS
              clear hft
              go_wp2
              refine ⟨⟨j + 1, by omega, by go_num, ?_⟩, by simp [intOf]; omega⟩
              rw [HCS.out]
              first | rfl | go_num
          · obtain rfl : j = l.length := by omega
            have htk : (PlG.tg L k).take l.length = PlG.tg L k := List.take_of_length_le (by have := HTL.out; omega)
            rw [htk] at hcl ⊢
            clear htk
            have hin := fun h => HIN.out h
            have hout := fun h1 h2 => HOUT.out h1 h2
            rw [HTL.out] at hin hout
            generalize (PlG.tg L k).countP f = q at *
            clear HIN HOUT
            cases hfk : f k
            · rw [hfk] at m1
              cases hsk : S[k]
              · rw [hsk] at m3
                obtain ⟨o1, o2⟩ := hout hfk hsk
                subst o2
                clear hin hout hfk hsk
                have l0 : ((l.length : Int) == 0) = false := beq_eq_false_iff_ne.2 (by omega)
                go_wp2
                exact ⟨⟨k + 1, by omega, by go_num⟩, by simp [intOf]; omega⟩
              · rw [hsk] at m3
                clear hin hout hfk hsk
                go_wp2
                exact ⟨⟨k + 1, by omega, by go_num⟩, by simp [intOf]; omega⟩
            · rw [hfk] at m1
              rcases hin hfk with o1 | o1
              · obtain rfl : q = 0 := by omega
                have l0 : decide (0 < l.length) = false := decide_eq_false (by omega)
                have l1 : decide ((0 : Int) < (l.length : Int)) = false := decide_eq_false (by omega)
                clear hin hout hfk o1
                go_wp2
                exact ⟨⟨k + 1, by omega, by go_num⟩, by simp [intOf]; omega⟩
              · have q0 : ((q : Int) == 0) = false := beq_eq_false_iff_ne.2 (by omega)
                clear hin hout hfk
                go_wp2
                exact ⟨⟨k + 1, by omega, by go_num⟩, by simp [intOf]; omega⟩
      · go_wp2_with fail
        refine (awake_any _).mono ?_
        rintro e w4 ⟨rfl, hb4⟩
        go_wp2
        go_ret
        exact ⟨rfl, below_end hb4 HB3.out⟩
end Go.Proofs.Ytlhheglffododaa
