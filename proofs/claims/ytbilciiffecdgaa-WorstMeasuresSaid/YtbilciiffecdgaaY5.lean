/- The walk of WorstMeasures. -/
import Derived.Test.YtbilciiffecdgaaX4
namespace Go.Proofs.Ytbilciiffecdgaa
open Go.RowKit

set_option maxRecDepth 100000 in
set_option maxHeartbeats 4000000 in
theorem measures_law (w : World) (E : List Nat) (L : List (List Arc)) (v : Value) (hE : WfE E) (hV : WfV L) (hS : SpaceAt w w.heap.size v E L) (S : List Bool) (A : Option Addr) (c : Nat) (_hm : S.length ≤ 9223372036854775807)
    (hSr : Reads w w.heap.size 1 A S.length (S.map Value.bool)) :
    Calls Try.prog 3 #[v, .slice A S.length c] w fun e w' => e = .returned (.bool true) ∧ Below w.heap.size w w' := by
  have HS := Lib.hid hS
  obtain ⟨ve, va, rfl, ⟨Ae, ce, rfl, re⟩, ⟨Aa, ca, rows, rfl, ra, hk⟩⟩ := hS
  have HE := Lib.hid hE
  have HV := Lib.hid hV
  have SR := Lib.hid hSr
  clear hE hV re ra hk hSr
  have HM0 := Lib.hid ((Mem.start w).new 25 #[.slice Ae E.length ce, .slice Aa L.length ca])
  cases h1 : lightB E L S.length
  · have H1 := Lib.hid h1
    clear h1
    go_enter Try.func3, Try.ntmps3
    go_wp2_with fail
    refine (light_is E L _ A S.length c false H1.out _ (HS.out.go HM0.out.bel)).mono ?_
    rintro e w1 ⟨rfl, hb1⟩
    have HM1 := Lib.hid (HM0.out.below hb1)
    clear hb1
    go_wp2_with fail
    refine (awake_any _).mono ?_
    rintro e w2 ⟨rfl, hb2⟩
    go_wp2
    go_ret
    exact ⟨rfl, (HM1.out.below hb2).bel⟩
  · have H1 := Lib.hid h1
    have HL := Lib.hid (wfl_light HV.out h1)
    have hSl : S.length ≤ 130 := (light_parts h1).2.2.1
    obtain ⟨z, hz⟩ : ∃ z, wchk E L S = z := ⟨_, rfl⟩
    have HZ := Lib.hid hz
    clear h1 hz
    go_enter Try.func3, Try.ntmps3
    go_wp2_with fail
    refine (light_is E L _ A S.length c true H1.out _ (HS.out.go HM0.out.bel)).mono ?_
    rintro e w1 ⟨rfl, hb1⟩
    have HM1 := Lib.hid (HM0.out.below hb1)
    obtain ⟨p0, p1, pf⟩ := blk2 (HM1.out.get 0 rfl).2
    clear hb1 HM0
    go_wp2_with fail
    refine (wsteps_r E L _ HE.out HL.out S A c z HZ.out _ (HS.out.go HM1.out.bel) (SR.out.go HM1.out.bel)).mono ?_
    rintro e w2 ⟨A1, c1, l1, rfl, hr1, hl1, hb2⟩
    have HM2 := Lib.hid (HM1.out.below hb2)
    have R1 := Lib.hid hr1
    have W1 := Lib.hid hl1
    clear hb2 hr1 hl1 p0 p1 pf
    obtain ⟨p0, p1, pf⟩ := blk2 (HM2.out.get 0 rfl).2
    go_wp2_with fail
    refine (rsteps_r E L _ HE.out HL.out S A c z HZ.out _ (HS.out.go HM2.out.bel) (SR.out.go HM2.out.bel)).mono ?_
    rintro e w3 ⟨A2, c2, l2, rfl, hr2, hl2, hb3⟩
    have HM3 := Lib.hid (HM2.out.below hb3)
    have hl : l2 = l1 := IsWorst.one HZ.out hl2 W1.out
    subst hl
    have R2 := Lib.hid hr2
    have HB3 := Lib.hid hb3
    clear hb3 hr2 hl2 p0 p1 pf
    obtain ⟨p0, p1, pf⟩ := blk2 (HM3.out.get 0 rfl).2
    go_wp2_with fail
    refine (wmoves_r E L _ HE.out HL.out S A c z HZ.out _ (HS.out.go HM3.out.bel) (SR.out.go HM3.out.bel)).mono ?_
    rintro e w4 ⟨A3, c3, l3, rfl, hr3, hl3, hb4⟩
    have HM4 := Lib.hid (HM3.out.below hb4)
    have R3 := Lib.hid hr3
    have W3 := Lib.hid hl3
    have HB4 := Lib.hid hb4
    clear hb4 hr3 hl3 p0 p1 pf
    obtain ⟨p0, p1, pf⟩ := blk2 (HM4.out.get 0 rfl).2
    go_wp2_with fail
    refine (rmoves_r E L _ HE.out HL.out S A c z HZ.out _ (HS.out.go HM4.out.bel) (SR.out.go HM4.out.bel)).mono ?_
    rintro e w5 ⟨A4, c4, l4, rfl, hr4, hl4, hb5⟩
    have HM5 := Lib.hid (HM4.out.below hb5)
    have hl : l4 = l3 := IsWorst.one HZ.out hl4 W3.out
    subst hl
    have R4 := Lib.hid hr4
    have HB5 := Lib.hid hb5
    have hlen1 := W1.out.len
    have hlen3 := W3.out.len
    have e1 : (z == z) = true := by simp
    clear hb5 hr4 hl4 p0 p1 pf
    go_wp2_with fail
    refine (awake_any _).mono ?_
    rintro e w6 ⟨rfl, hb6⟩
    have HM6 := Lib.hid (HM5.out.below hb6)
    have Q1 := Lib.hid ((((R1.out.go HB3.out).go HB4.out).go HB5.out).go hb6)
    have Q2 := Lib.hid (((R2.out.go HB4.out).go HB5.out).go hb6)
    have Q3 := Lib.hid ((R3.out.go HB5.out).go hb6)
    have Q4 := Lib.hid (R4.out.go hb6)
    clear hb6
    go_wp2_with fail
    refine (sameInts_n l2 l2.length rfl (by omega) A1 A2 c1 c2 _ _ _ Q1.out Q2.out).mono ?_
    rintro e w7 ⟨rfl, d, rfl⟩
    go_wp2_with fail
    refine (sameInts_n l4 l4.length rfl (by omega) A3 A4 c3 c4 _ _ _ (Q3.out.drewN d) (Q4.out.drewN d)).mono ?_
    rintro e w8 ⟨rfl, d2, rfl⟩
    go_wp2
    go_ret
    exact ⟨rfl, (HM6.out.drewN _).bel⟩
end Go.Proofs.Ytbilciiffecdgaa
