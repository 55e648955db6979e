/- The walk of FairnessIsWeaker. -/
import Derived.Test.YtnjbofahboopoaaH1
import Derived.Test.YtnjbofahboopoaaF3m
import Derived.BigQuiet
namespace Go.Proofs.Ytnjbofahboopoaa
open Go.RowKit

set_option maxRecDepth 100000 in
set_option maxHeartbeats 2000000 in
theorem weaker_law (w : World) (E : List Nat) (L : List (List Arc)) (v : Value) (hE : WfE E) (hV : WfV L) (hS : SpaceAt w w.heap.size v E L) (S : List Bool) (A : Option Addr) (c : Nat) (_hm : S.length ≤ 9223372036854775807)
    (hSr : Reads w w.heap.size 1 A S.length (S.map Value.bool)) :
    Calls Try.prog 5 #[v, .slice A S.length c] w fun e w' => e = .returned (.bool true) ∧ Below w.heap.size w w' := by
  have HS := Lib.hid hS
  obtain ⟨ve, va, rfl, ⟨Ae, ce, rfl, re⟩, ⟨Aa, ca, rows, rfl, ra, hk⟩⟩ := hS
  have HE := Lib.hid hE
  have HV := Lib.hid hV
  have SR := Lib.hid hSr
  have RE := Lib.hid re
  have RA := Lib.hid ra
  have HK := Lib.hid hk
  clear re ra hk hE hV hSr
  have hb0 := (Below.refl w.heap.size w).alloc (Nat.le_refl _) (.cells #[.slice Ae E.length ce, .slice Aa L.length ca] 25)
  have HB0 := Lib.hid hb0
  clear hb0
  cases h1 : fairB E L S.length
  · have H1 := Lib.hid h1
    clear h1
    go_enter Try.func5, Try.ntmps5
    go_wp2_with fail
    refine (fair_is E L _ HE.out HV.out A S.length c false H1.out _ (HS.out.go HB0.out)).mono ?_
    rintro e w1 ⟨rfl, hb1⟩
    have HB1 := Lib.hid (below_end hb1 HB0.out)
    clear hb1
    go_wp2_with fail
    refine (awake_any _).mono ?_
    rintro e w2 ⟨rfl, hb2⟩
    go_wp2
    go_ret
    exact ⟨rfl, below_end hb2 HB1.out⟩
  · obtain ⟨f1, f2, f3⟩ := fair_parts h1
    have HL := Lib.hid (wfl_light HV.out f1)
    have HOK := Lib.hid f2
    have HSL := Lib.hid f3
    have H1 := Lib.hid h1
    have hn : S.length ≤ 120 := by have := (light_parts f1).1; omega
    clear f1 f2 f3 h1
    go_enter Try.func5, Try.ntmps5
    go_wp2_with fail
    refine (fair_is E L _ HE.out HV.out A S.length c true H1.out _ (HS.out.go HB0.out)).mono ?_
    rintro e w1 ⟨rfl, hb1⟩
    have HB1 := Lib.hid (below_end hb1 HB0.out)
    have bs := (Blk.new w 25 #[.slice Ae E.length ce, .slice Aa L.length ca]).below hb1 (by simp)
    obtain ⟨p0, p1, pf⟩ := blk2 bs
    clear hb1
    have hsys := sys_of HE.out HOK.out HSL.out
    have HSYS := Lib.hid hsys
    have hLn : L.length = S.length := by have := (PlG.ok_parts HOK.out).2.2.1; have := HSL.out; omega
    have hEn : E.length = S.length := HSL.out.symm
    have hn1 : 1 ≤ S.length := by have := (PlG.ok_parts HOK.out).1; omega
    obtain ⟨aa, hA, -⟩ := RA.out.2 (by omega)
    subst hA
    obtain ⟨ae, hA, -⟩ := RE.out.2 (by omega)
    subst hA
    have HLN := Lib.hid hLn
    have HEN := Lib.hid hEn
    clear hsys hLn hEn
    go_wp2_with fail
    refine (fcore_ok E L _ HE.out HL.out HOK.out S HSL.out A c _ (HS.out.go HB1.out) (SR.out.go HB1.out)).mono ?_
    rintro e w2 ⟨g, f, rfl, hg, bm, hf, hb2⟩
    have HB2 := Lib.hid (below_end hb2 HB1.out)
    have bs2 := bs.below hb2 bs.lt
    have HF := Lib.hid hf
    clear hb2 p0 p1 pf bs hg hf
    obtain ⟨p0, p1, pf⟩ := blk2 bs2
    go_wp2_with fail
    refine (rcore_ok E L _ HE.out HL.out HOK.out S HSL.out A c _ (HS.out.go HB2.out) (SR.out.go HB2.out)).mono ?_
    rintro e w3 ⟨v', f', rfl, ho', hf', hb3⟩
    have HB3 := Lib.hid (below_end hb3 HB2.out)
    have bm3 := bm.below hb3 bm.lt
    have bs3 := bs2.below hb3 bs2.lt
    obtain ⟨g', cap', rfl, -, -⟩ := ho'.form (by omega)
    have HO' := Lib.hid ho'
    have BM := Lib.hid bm3
    have BS := Lib.hid bs3
    have HF' := Lib.hid hf'
    have HIMP := Lib.hid (fun k (hk : k < S.length) (h : f k = true) => (HF'.out k hk).2 (((HF.out k hk).1 h).not_att HSYS.out hk))
    have HSYN := Lib.hid (fun (h : ∀ x, x < S.length → ∀ a ∈ L.getD x [], a.1 = E.getD x 0) => (show marks S.length f = marks S.length f' from marks_congr fun k hk => by
      have h1 := HF.out k hk
      have h2 := HF'.out k hk
      have h3 : f' k = true → f k = true := fun h4 => h1.2 (PlT.sync_core HSYS.out h hk (h2.1 h4))
      have h4 := HIMP.out k hk
      cases h5 : f k
      · cases h6 : f' k
        · rfl
        · rw [h3 h6] at h5; cases h5
      · rw [h4 h5]))
    clear hb3 p0 p1 pf bs2 hf' ho' bm bm3 bs3
    obtain ⟨p0, p1, pf⟩ := blk2 BS.out
    go_wp2_with fail
    go_loopw [9, 10] (fun b i wr => ∃ (k d : Nat) (sy : Bool), k ≤ S.length ∧ i = .int .i64 k ∧ b = .bool sy ∧ (sy = true → ∀ x, x < k → ∀ a ∈ L.getD x [], a.1 = E.getD x 0) ∧ wr = w3.drewN d) (fun _ i _ => S.length - (intOf i).toNat)
    case atStart => exact ⟨0, 0, true, Nat.zero_le _, rfl, rfl, fun _ x hx => absurd hx (Nat.not_lt_zero x), rfl⟩
    case round =>
      obtain ⟨k, d, sy, hk, rfl, rfl, hsy, rfl⟩ := hrel
      by_cases hlt : k < S.length
      · have hkL : k < L.length := by have := HLN.out; omega
        have hkE : k < E.length := by have := HEN.out; omega
        obtain ⟨aL, Ak, ck, hAL, hbla, cr, rk⟩ := row_at (show Reads w3 w.heap.size 1 (some aa) L.length rows from RA.out.below HB3.out) (fun k l hl => let ⟨u, hu, ha⟩ := HK.out k l hl; (⟨u, hu, ha.below HB3.out⟩ : ∃ u, rows[k]? = some u ∧ ArcsAt w3 w.heap.size u l)) hkL
        obtain rfl : aa = aL := by injection hAL
        obtain ⟨aE, hAE, hble, ce0⟩ := set_at (RE.out.below HB3.out) hkE
        obtain rfl : ae = aE := by injection hAE
        have hll := (HL.out k hkL).1
        have HLg := Lib.hid (getD_l ([] : List Arc) hkL)
        have HEg := Lib.hid (getD_l 0 hkE)
        have RK0 := Lib.hid rk
        generalize L[k] = l at *
        generalize E[k] = e at *
        have k0 : (0 : Int) ≤ (k : Int) := by omega
        have k1 : (k : Int) < (S.length : Int) := by omega
        have k2 : (k : Int) < (L.length : Int) := by omega
        have k3 : (k : Int) < (E.length : Int) := by omega
        have HSY := Lib.hid hsy
        clear hsy hAL hAE rk
        go_wp2_with fail
        go_loopw [9, 11] (fun b i wr => ∃ (j d : Nat) (sy : Bool), j ≤ l.length ∧ i = .int .i64 j ∧ b = .bool sy ∧ (sy = true → (∀ x, x < k → ∀ a ∈ L.getD x [], a.1 = E.getD x 0) ∧ ∀ a ∈ l.take j, a.1 = e) ∧ wr = w3.drewN d) (fun _ i _ => l.length - (intOf i).toNat)
        case atStart => exact ⟨0, d, sy, Nat.zero_le _, rfl, rfl, fun h => ⟨HSY.out h, fun a ha => by simp at ha⟩, rfl⟩
        case round =>
          clear HSY
          obtain ⟨j, d, sy, hj, rfl, rfl, hsy, rfl⟩ := hrel
          by_cases hlt2 : j < l.length
          · obtain ⟨ad2, hA, hbl2, a0, a1⟩ := arc_at RK0.out hlt2
            subst hA
            have HTK := Lib.hid (fun a => (show a ∈ l.take (j + 1) → a ∈ l.take j ∨ a = l[j] from fun h => by
              rw [List.take_succ_eq_append_getElem hlt2] at h
              rcases List.mem_append.1 h with h | h
              · exact .inl h
              · exact .inr (List.mem_singleton.1 h)))
            generalize l[j] = x at *
            obtain ⟨xs, xt⟩ := x
            dsimp only at a0 a1
            have j0 : (0 : Int) ≤ (j : Int) := by omega
            have j1 : (j : Int) < (l.length : Int) := by omega
            have HSY := Lib.hid hsy
            clear hsy
            cases sy
            · go_wp2_with fail
              go_quiet (fail)
              go_wp2
              exact ⟨⟨j + 1, d + nq, false, by omega, by go_num, rfl, (fun h => by cases h), by first | rfl | rw [World.drewN_drewN]⟩, by simp [intOf]; omega⟩
            · by_cases hxe : xs = e
              · have t1 : ((xs : Int) == (e : Int)) = true := by rw [beq_iff_eq]; omega
                have t2 : (xs == e) = true := by rw [beq_iff_eq]; exact hxe
                go_wp2_with fail
                go_quiet (fail)
                go_wp2
                exact ⟨⟨j + 1, d + nq, true, by omega, by go_num, rfl, fun h => ⟨(HSY.out (by simp)).1, fun a ha => by
                  rcases HTK.out a ha with h' | h'
                  · exact (HSY.out (by simp)).2 a h'
                  · rw [h']; exact hxe⟩, by first | rfl | rw [World.drewN_drewN]⟩, by simp [intOf]; omega⟩
              · have t1 : ((xs : Int) == (e : Int)) = false := beq_eq_false_iff_ne.2 (by omega)
                have t2 : (xs == e) = false := beq_eq_false_iff_ne.2 hxe
                go_wp2_with fail
                go_quiet (fail)
                go_wp2
                exact ⟨⟨j + 1, d + nq, false, by omega, by go_num, rfl, (fun h => by cases h), by first | rfl | rw [World.drewN_drewN]⟩, by simp [intOf]; omega⟩
          · obtain rfl : l.length = j := by omega
            have HSY := Lib.hid hsy
            clear hsy
            go_wp2
            refine ⟨⟨k + 1, d, sy, by omega, by go_num, rfl, fun h x hx => ?_, rfl⟩, by simp [intOf]; omega⟩
            rcases Nat.lt_or_ge x k with h' | h'
            · exact (HSY.out h).1 x h'
            · obtain rfl : x = k := by omega
              rw [HLg.out, HEg.out]
              intro a ha
              exact (HSY.out h).2 a (by rw [List.take_length]; exact ha)
      · obtain rfl : S.length = k := by omega
        have HSY := Lib.hid hsy
        have e0 : (L.length : Int) ≤ (S.length : Int) := by have := HLN.out; omega
        have e1 : decide ((S.length : Int) < (L.length : Int)) = false := decide_eq_false (by omega)
        clear hsy
        go_wp2_with fail
        go_loopw [12] (fun i wr => ∃ k d : Nat, k ≤ S.length ∧ i = .int .i64 k ∧ wr = w3.drewN d) (fun i _ => S.length - (intOf i).toNat)
        case atStart => exact ⟨0, d, Nat.zero_le _, rfl, rfl⟩
        case round =>
          obtain ⟨k, d, hk, rfl, rfl⟩ := hrel
          by_cases hlt : k < S.length
          · have m1 := mark_at BM.out hlt
            have m2 := own_mark HO'.out hlt
            have h1 := HIMP.out k hlt
            generalize f k = a at *
            generalize f' k = b at *
            have k0 : (0 : Int) ≤ (k : Int) := by omega
            have k1 : (k : Int) < (S.length : Int) := by omega
            cases a
            · clear h1
              go_wp2
              refine ⟨⟨k + 1, d, by omega, by go_num, rfl⟩, by simp [intOf]; omega⟩
            · obtain rfl := h1 rfl
              clear h1
              go_wp2
              refine ⟨⟨k + 1, d, by omega, by go_num, rfl⟩, by simp [intOf]; omega⟩
          · obtain rfl : S.length = k := by omega
            go_wp2_with fail
            refine (awake_any _).mono ?_
            rintro e w4 ⟨rfl, hb4⟩
            have HB4 := Lib.hid (below_end hb4 (below_drewN HB3.out d))
            have RA1 := Lib.hid (reads_blk (n := S.length) (size := 1) ((BM.out.drewN d).below hb4 (BM.out.drewN d).lt) (Nat.lt_of_lt_of_le (BM.out.drewN d).lt hb4.size) (by simp [marks_len]))
            have RB1 := Lib.hid ((Reads.of_own HO'.out).below (below_end hb4 below_drew'))
            cases sy
            · clear hb4
              go_wp2
              go_ret
              exact ⟨rfl, HB4.out⟩
            · have heq := HSYN.out (HSY.out (by simp))
              rw [← heq] at RB1
              clear hb4
              go_wp2_with fail
              refine (same_n (marks S.length f) S.length (marks_len _ _) (by omega) _ _ _ _ _ _ _ RA1.out RB1.out).mono ?_
              rintro e w5 ⟨rfl, d5, rfl⟩
              go_wp2
              go_ret
              exact ⟨rfl, below_drewN HB4.out d5⟩
end Go.Proofs.Ytnjbofahboopoaa
