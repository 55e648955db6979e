/- The walk of ConvergeSplitsStates. -/
import Derived.Test.YtlhheglffododaaC11
namespace Go.Proofs.Ytlhheglffododaa
open Go.RowKit

set_option maxHeartbeats 1000000 in
theorem splits_law (w : World) (E : List Nat) (L : List (List Arc)) (v : Value) (hE : WfE E) (hV : WfV L) (hS : SpaceAt w w.heap.size v E L) (S : List Bool) (A : Option Addr) (c : Nat) (_hm : S.length ≤ 9223372036854775807)
    (hSr : Reads w w.heap.size 1 A S.length (S.map Value.bool)) :
    Calls Try.prog 3 #[v, .slice A S.length c] w fun e w' => e = .returned (.bool true) ∧ Below w.heap.size w w' := by
  have HS := Lib.hid hS
  obtain ⟨ve, va, rfl, ⟨Ae, ce, rfl, re⟩, ⟨Aa, ca, rows, rfl, ra, hk⟩⟩ := hS
  have HE := Lib.hid hE
  have HV := Lib.hid hV
  have SR := Lib.hid hSr
  clear re ra hk hE hV hSr
  have hb0 := (Below.refl w.heap.size w).alloc (Nat.le_refl _) (.cells #[.slice Ae E.length ce, .slice Aa L.length ca] 25)
  have HB0 := Lib.hid hb0
  clear hb0
  cases h1 : fairB E L S.length
  · have H1 := Lib.hid h1
    clear h1
    go_enter Try.func3, Try.ntmps3
    go_wp2_with fail
    refine (fair_is E L _ HE.out HV.out A S.length c false H1.out _ (HS.out.go HB0.out)).mono ?_
    rintro e w1 ⟨rfl, hb1⟩
    have HB1 := Lib.hid (below_end hb1 HB0.out)
    clear hb1
    go_wp2_with fail
    refine (awake_any _).mono ?_
    rintro e w2 ⟨rfl, hb2⟩
    go_wp2
    go_ret
    exact ⟨rfl, below_end hb2 HB1.out⟩
  · obtain ⟨f1, f2, f3⟩ := fair_parts h1
    have HL := Lib.hid (wfl_light HV.out f1)
    have HOK := Lib.hid f2
    have HSL := Lib.hid f3
    have H1 := Lib.hid h1
    have hn : S.length ≤ 200 := by have := (light_parts f1).1; omega
    have HSLL := Lib.hid (show S.length = L.length by have := (PlG.ok_parts f2).2.2.1; omega)
    clear f1 f2 f3 h1
    go_enter Try.func3, Try.ntmps3
    go_wp2_with fail
    refine (fair_is E L _ HE.out HV.out A S.length c true H1.out _ (HS.out.go HB0.out)).mono ?_
    rintro e w1 ⟨rfl, hb1⟩
    have HB1 := Lib.hid (below_end hb1 HB0.out)
    have bs := (Blk.new w 25 #[.slice Ae E.length ce, .slice Aa L.length ca]).below hb1 (by simp)
    obtain ⟨p0, p1, pf⟩ := blk2 bs
    clear hb1
    go_wp2_with fail
    refine (attr_ok E L _ HE.out HL.out HOK.out S HSL.out A c _ (HS.out.go HB1.out) (SR.out.go HB1.out)).mono ?_
    rintro e w2 ⟨g, f, rfl, hg, bm, hf, hb2⟩
    have HB2 := Lib.hid (below_end hb2 HB1.out)
    have bs2 := bs.below hb2 bs.lt
    have HF := Lib.hid hf
    clear hb2 p0 p1 pf bs hf hg
    obtain ⟨p0, p1, pf⟩ := blk2 bs2
    go_wp2_with fail
    refine (core_ok E L _ HE.out HL.out HOK.out S HSL.out A c _ (HS.out.go HB2.out) (SR.out.go HB2.out)).mono ?_
    rintro e w3 ⟨g', f', rfl, hg', bm', hf', hb3⟩
    have HB3 := Lib.hid (below_end hb3 HB2.out)
    have bm3 := bm.below hb3 bm.lt
    have HF' := Lib.hid hf'
    clear hb3 p0 p1 pf bs2 hf' hg' bm
    have BM := Lib.hid bm3
    have BM' := Lib.hid bm'
    clear bm3 bm'
    go_wp2_with fail
    go_loopw [9] (fun i wr => ∃ k d : Nat, k ≤ S.length ∧ i = .int .i64 k ∧ wr = w3.drewN d) (fun i _ => S.length - (intOf i).toNat)
    case atStart => exact ⟨0, 0, Nat.zero_le _, rfl, rfl⟩
    case round =>
      obtain ⟨k, d, hk, rfl, rfl⟩ := hrel
      by_cases hlt : k < S.length
      · have m1 := mark_at BM.out hlt
        have m2 := mark_at BM'.out hlt
        obtain ⟨sd, rfl, hbl, m3⟩ := bool_at (SR.out.below HB3.out) hlt
        have hkL : k < L.length := by have := HSLL.out; omega
        have hff : f' k = !f k := by
          have a1 := HF.out.iff k hkL
          have a2 := HF'.out.iff k hkL
          rw [← a1] at a2
          cases h : f k
          · rw [h] at a2; simpa using a2
          · rw [h] at a2; simpa using a2
        have hsf : S[k] = true → f k = true := fun h => (HF.out.iff k hkL).2 (.base (by rw [isIn_of hlt]; exact h))
        rw [hff] at m2
        generalize f k = b at *
        generalize S[k] = s at *
        clear hff
        have k0 : (0 : Int) ≤ (k : Int) := by omega
        have k1 : (k : Int) < (S.length : Int) := by omega
        cases b
        · cases s
          · clear hsf
            simp only [Bool.not_false] at m2
            go_wp2_with fail
            go_quiet (fail)
            go_wp2
            refine ⟨⟨k + 1, d + nq, by omega, by go_num, by first | rfl | rw [World.drewN_drewN]⟩, by simp [intOf]; omega⟩
          · exact absurd (hsf rfl) (by simp)
        · clear hsf
          simp only [Bool.not_true] at m2
          cases s
          all_goals
            go_wp2_with fail
            go_quiet (fail)
            go_wp2
            refine ⟨⟨k + 1, d + nq, by omega, by go_num, by first | rfl | rw [World.drewN_drewN]⟩, by simp [intOf]; omega⟩
      · go_wp2_with fail
        refine (awake_any _).mono ?_
        rintro e w4 ⟨rfl, hb4⟩
        go_wp2
        go_ret
        exact ⟨rfl, below_end hb4 (below_drewN HB3.out d)⟩
end Go.Proofs.Ytlhheglffododaa
