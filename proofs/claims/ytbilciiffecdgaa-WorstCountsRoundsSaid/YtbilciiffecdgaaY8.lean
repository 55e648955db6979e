/- The walk of WorstCountsRounds. -/
import Derived.Test.YtbilciiffecdgaaXM
import Derived.Test.YtbilciiffecdgaaRF
namespace Go.Proofs.Ytbilciiffecdgaa
open Go.RowKit

def IsRnd (E : List Nat) (L : List (List Arc)) (S : List Bool) (z : Int) (l : List Int) : Prop := (z ≠ 0 → l = []) ∧ (z = 0 → ∃ R, PlL.IsRd S.length E L (isIn S) R ∧ l = ints S.length (rnd E (isIn S) R))
theorem IsRnd.one {E : List Nat} {L : List (List Arc)} {S : List Bool} {z : Int} (h : wchk E L S = z) {l l' : List Int} (hl : IsRnd E L S z l) (hl' : IsRnd E L S z l') : l = l' := by
  by_cases hz : z = 0
  · obtain ⟨R, hR, rfl⟩ := hl.2 hz
    obtain ⟨R', hR', rfl⟩ := hl'.2 hz
    obtain ⟨r, hr⟩ := conv_rank (h.trans hz)
    unfold ints
    refine List.map_congr_left fun k hk => ?_
    have hkn := List.mem_range.1 hk
    unfold rnd
    cases hs : isIn S k
    · rw [if_neg (by simp), if_neg (by simp), PlL.IsRd.unique hr hR hR' S.length k hkn hs (hr.lt k hkn)]
    · rfl
  · rw [hl.1 hz, hl'.1 hz]
theorem IsRnd.len {E : List Nat} {L : List (List Arc)} {S : List Bool} {z : Int} {l : List Int} (hl : IsRnd E L S z l) : l.length ≤ S.length := by
  by_cases hz : z = 0
  · obtain ⟨f, hf, rfl⟩ := hl.2 hz
    rw [ints_len]; exact Nat.le_refl _
  · rw [hl.1 hz]; exact Nat.zero_le _
section
variable (E : List Nat) (L : List (List Arc)) (v : Value) (hE : WfE E) (hL : WfL L) (S : List Bool) (A : Option Addr) (c : Nat) (z : Int) (h : wchk E L S = z) (hli : lightB E L S.length = true) (hfew : fewB E = true) (w : World) (hS : SpaceAt w w.heap.size v E L) (hSr : Reads w w.heap.size 1 A S.length (S.map Value.bool))
include hE hL h hli hfew hS hSr
theorem wrounds_r : Calls Try.prog 19 #[v, .slice A S.length c] w (LsPost w z (IsRnd E L S z)) := by
  by_cases hz : z = 0
  · subst hz
    have hn : S.length ≤ 120 := by
      have := (wchk_zero h).2.1
      have := (light_parts hli).1
      omega
    refine (wrounds_ok E L v hE hL S A c h (fun k _ => few_at hfew k) hn w hS hSr).mono fun e w' hh => ?_
    obtain ⟨g, R, he, _, bk, hv, _, _, hb⟩ := hh
    refine ⟨some ⟨g, 0, none⟩, S.length, ints S.length (rnd E (isIn S) R), by rw [ints_len]; exact he, ?_, ⟨fun h => absurd rfl h, fun _ => ⟨R, hv, rfl⟩⟩, hb⟩
    rw [ints_nums, ints_len]
    exact reads_blk bk bk.lt (by rw [nums_len, Nat.mul_one])
  · exact (wrounds_err E L v hE hL S A c z hz h w hS hSr).mono fun e w' hh => ⟨none, 0, [], hh.1, reads_none _ _, ⟨fun _ => rfl, fun h => absurd h hz⟩, hh.2⟩
theorem rrounds_r : Calls Try.prog 20 #[v, .slice A S.length c] w (LsPost w z (IsRnd E L S z)) := by
  by_cases hz : z = 0
  · subst hz
    have hn : S.length ≤ 120 := by
      have := (wchk_zero h).2.1
      have := (light_parts hli).1
      omega
    refine (rrounds_ok E L v hE hL (light_parts hli).2.2.2 S A c h (fun k _ => few_at hfew k) hn w hS hSr).mono fun e w' hh => ?_
    obtain ⟨v', R, he, ho, hv, hb⟩ := hh
    obtain ⟨A', c', rfl⟩ := own_sl ho
    refine ⟨A', c', ints S.length (rnd E (isIn S) R), by rw [ints_len]; exact he, ?_, ⟨fun h => absurd rfl h, fun _ => ⟨R, hv, rfl⟩⟩, hb⟩
    rw [ints_nums, ints_len]
    exact Reads.of_own ho
  · exact (rrounds_err E L v hE hL S A c z hz h w hS hSr).mono fun e w' hh => ⟨none, 0, [], hh.1, reads_none _ _, ⟨fun _ => rfl, fun h => absurd h hz⟩, hh.2⟩
end

set_option maxRecDepth 100000 in
set_option maxHeartbeats 4000000 in
theorem rounds_law (w : World) (E : List Nat) (L : List (List Arc)) (v : Value) (hE : WfE E) (hV : WfV L) (hS : SpaceAt w w.heap.size v E L) (S : List Bool) (A : Option Addr) (c : Nat) (_hm : S.length ≤ 9223372036854775807)
    (hSr : Reads w w.heap.size 1 A S.length (S.map Value.bool)) :
    Calls Try.prog 4 #[v, .slice A S.length c] w fun e w' => e = .returned (.bool true) ∧ Below w.heap.size w w' := by
  have HS := Lib.hid hS
  obtain ⟨ve, va, rfl, ⟨Ae, ce, rfl, re⟩, ⟨Aa, ca, rows, rfl, ra, hk⟩⟩ := hS
  have HE := Lib.hid hE
  have HV := Lib.hid hV
  have SR1 := Lib.hid hSr
  clear hE hV re ra hk hSr
  have HM0 := Lib.hid ((Mem.start w).new 25 #[.slice Ae E.length ce, .slice Aa L.length ca])
  cases h1 : lightB E L S.length
  · have H1 := Lib.hid h1
    clear h1
    go_enter Try.func4, Try.ntmps4
    go_wp2_with fail
    refine (light_is E L _ A S.length c false H1.out _ (HS.out.go HM0.out.bel)).mono ?_
    rintro e w1 ⟨rfl, hb1⟩
    have HM1 := Lib.hid (HM0.out.below hb1)
    clear hb1
    go_wp2_with fail
    refine (awake_any _).mono ?_
    rintro e w2 ⟨rfl, hb2⟩
    go_wp2
    go_ret
    exact ⟨rfl, (HM1.out.below hb2).bel⟩
  · have H1 := Lib.hid h1
    have HL := Lib.hid (wfl_light HV.out h1)
    have hSl : S.length ≤ 130 := (light_parts h1).2.2.1
    have HEL := Lib.hid (show E.length ≤ 32768 by have := (light_parts h1).1; omega)
    obtain ⟨z, hz⟩ : ∃ z, wchk E L S = z := ⟨_, rfl⟩
    have HZ := Lib.hid hz
    clear h1 hz
    cases h2 : fewB E
    · have H2 := Lib.hid h2
      clear h2
      go_enter Try.func4, Try.ntmps4
      go_wp2_with fail
      refine (light_is E L _ A S.length c true H1.out _ (HS.out.go HM0.out.bel)).mono ?_
      rintro e w1 ⟨rfl, hb1⟩
      have HM1 := Lib.hid (HM0.out.below hb1)
      obtain ⟨p0, p1, pf⟩ := blk2 (HM1.out.get 0 rfl).2
      clear hb1
      go_wp2_with fail
      refine (few_is E L _ HE.out HEL.out false H2.out _ (HS.out.go HM1.out.bel)).mono ?_
      rintro e w2 ⟨rfl, hb2⟩
      have HM2 := Lib.hid (HM1.out.below hb2)
      clear hb2 p0 p1 pf
      go_wp2_with fail
      refine (awake_any _).mono ?_
      rintro e w3 ⟨rfl, hb3⟩
      go_wp2
      go_ret
      exact ⟨rfl, (HM2.out.below hb3).bel⟩
    · have H2 := Lib.hid h2
      clear h2
      go_enter Try.func4, Try.ntmps4
      go_wp2_with fail
      refine (light_is E L _ A S.length c true H1.out _ (HS.out.go HM0.out.bel)).mono ?_
      rintro e w1 ⟨rfl, hb1⟩
      have HM1 := Lib.hid (HM0.out.below hb1)
      obtain ⟨p0, p1, pf⟩ := blk2 (HM1.out.get 0 rfl).2
      clear hb1 HM0
      go_wp2_with fail
      refine (few_is E L _ HE.out HEL.out true H2.out _ (HS.out.go HM1.out.bel)).mono ?_
      rintro e w2 ⟨rfl, hb2⟩
      have HM2 := Lib.hid (HM1.out.below hb2)
      clear hb2 p0 p1 pf
      obtain ⟨p0, p1, pf⟩ := blk2 (HM2.out.get 0 rfl).2
      go_wp2_with fail
      refine (wrounds_r E L _ HE.out HL.out S A c z HZ.out H1.out H2.out _ (HS.out.go HM2.out.bel) (SR1.out.go HM2.out.bel)).mono ?_
      rintro e w3 ⟨A1, c1, l1, rfl, hr1, hl1, hb3⟩
      have HM3 := Lib.hid (HM2.out.below hb3)
      have R1 := Lib.hid hr1
      have W1 := Lib.hid hl1
      clear hb3 hr1 hl1 p0 p1 pf
      obtain ⟨p0, p1, pf⟩ := blk2 (HM3.out.get 0 rfl).2
      go_wp2_with fail
      refine (rrounds_r E L _ HE.out HL.out S A c z HZ.out H1.out H2.out _ (HS.out.go HM3.out.bel) (SR1.out.go HM3.out.bel)).mono ?_
      rintro e w4 ⟨A2, c2, l2, rfl, hr2, hl2, hb4⟩
      have HM4 := Lib.hid (HM3.out.below hb4)
      have hl : l2 = l1 := IsRnd.one HZ.out hl2 W1.out
      subst hl
      have R2 := Lib.hid hr2
      have HB4 := Lib.hid hb4
      have hlen1 := W1.out.len
      have e1 : (z == z) = true := by simp
      clear hb4 hr2 hl2 p0 p1 pf
      go_wp2_with fail
      refine (awake_any _).mono ?_
      rintro e w6 ⟨rfl, hb6⟩
      have HM6 := Lib.hid (HM4.out.below hb6)
      have Q1 := Lib.hid ((R1.out.go HB4.out).go hb6)
      have Q2 := Lib.hid (R2.out.go hb6)
      clear hb6
      go_wp2_with fail
      refine (sameInts_n l2 l2.length rfl (by omega) A1 A2 c1 c2 _ _ _ Q1.out Q2.out).mono ?_
      rintro e w7 ⟨rfl, d, rfl⟩
      go_wp2
      go_ret
      exact ⟨rfl, (HM6.out.drewN _).bel⟩
end Go.Proofs.Ytbilciiffecdgaa
