/- converge.Closed and ref19.Closed. -/
import Derived.Test.YtlhheglffododaaF3
namespace Go.Proofs.Ytlhheglffododaa
open Go.RowKit

def rowC (L : List (List Arc)) (S : List Bool) (k : Nat) : Bool := !isIn S k || (PlG.tg L k).all (isIn S)
def closedB (L : List (List Arc)) (S : List Bool) : Bool := (List.range S.length).all (rowC L S)

theorem closed_no {L : List (List Arc)} {S : List Bool} {k j t : Nat} (hk : k < S.length) (hs : isIn S k = true) (ht : (PlG.tg L k)[j]? = some t) (hn : isIn S t = false) : closedB L S = false := by
  refine List.all_eq_false.2 ⟨k, List.mem_range.2 hk, ?_⟩
  unfold rowC
  rw [hs, List.all_eq_false.2 ⟨t, List.mem_of_getElem? ht, by simp [hn]⟩]
  simp
theorem closed_step {L : List (List Arc)} {S : List Bool} {k : Nat} (ha : (List.range k).all (rowC L S) = true) (hr : rowC L S k = true) : (List.range (k + 1)).all (rowC L S) = true := by
  rw [List.range_succ, List.all_append, ha]; simp [hr]
theorem all_snoc {l : List Nat} {f : Nat → Bool} {j t : Nat} (h : l[j]? = some t) (ha : (l.take j).all f = true) (hf : f t = true) : (l.take (j + 1)).all f = true := by
  rw [List.take_add_one, h, List.all_append, ha]; simp [hf]

set_option maxHeartbeats 1000000 in
theorem closed_err (E : List Nat) (L : List (List Arc)) (v : Value) (hE : WfE E) (hL : WfL L) (A : Option Addr) (m c : Nat) (z : Int) (hz : z ≠ 0) (h : chk E L m = z) (w : World) (hS : SpaceAt w w.heap.size v E L) :
    Calls Try.prog 17 #[v, .slice A m c] w fun e w' => e = .returned (.tuple #[.bool false, .int .i64 z]) ∧ Below w.heap.size w w' := by
  have HS := Lib.hid hS
  obtain ⟨ve, va, rfl, ⟨Ae, ce, rfl, re⟩, ⟨Aa, ca, rows, rfl, ra, hk⟩⟩ := hS
  have HB0 := Lib.hid ((Below.refl w.heap.size w).alloc (Nat.le_refl _) (.cells #[.slice Ae E.length ce, .slice Aa L.length ca] 25))
  have HE := Lib.hid hE
  have HL := Lib.hid hL
  have H := Lib.hid h
  have t1 : (z != 0) = true := by rw [bne_iff_ne]; exact hz
  clear hE hL h re ra hk
  go_enter Try.func17, Try.ntmps17
  go_wp2_with fail
  refine (check_is E L _ HE.out HL.out A m c z H.out _ (HS.out.go HB0.out)).mono ?_
  rintro e w1 ⟨rfl, hb1⟩
  have HB1 := Lib.hid (below_end hb1 HB0.out)
  clear hb1
  go_wp2
  go_ret2
  exact ⟨rfl, HB1.out⟩

set_option maxHeartbeats 1000000 in
theorem rclosed_err (E : List Nat) (L : List (List Arc)) (v : Value) (hE : WfE E) (hL : WfL L) (A : Option Addr) (m c : Nat) (z : Int) (hz : z ≠ 0) (h : chk E L m = z) (w : World) (hS : SpaceAt w w.heap.size v E L) :
    Calls Try.prog 18 #[v, .slice A m c] w fun e w' => e = .returned (.tuple #[.bool false, .int .i64 z]) ∧ Below w.heap.size w w' := by
  have HS := Lib.hid hS
  obtain ⟨ve, va, rfl, ⟨Ae, ce, rfl, re⟩, ⟨Aa, ca, rows, rfl, ra, hk⟩⟩ := hS
  have HB0 := Lib.hid ((Below.refl w.heap.size w).alloc (Nat.le_refl _) (.cells #[.slice Ae E.length ce, .slice Aa L.length ca] 25))
  have HE := Lib.hid hE
  have HL := Lib.hid hL
  have H := Lib.hid h
  have t1 : (z != 0) = true := by rw [bne_iff_ne]; exact hz
  clear hE hL h re ra hk
  go_enter Try.func18, Try.ntmps18
  go_wp2_with fail
  refine (begin_is E L _ HE.out HL.out A m c z H.out _ (HS.out.go HB0.out)).mono ?_
  rintro e w1 ⟨rfl, hb1⟩
  have HB1 := Lib.hid (below_end hb1 HB0.out)
  clear hb1
  go_wp2
  go_ret2
  exact ⟨rfl, HB1.out⟩

set_option maxHeartbeats 2000000 in
theorem closed_ok (E : List Nat) (L : List (List Arc)) (v : Value) (hE : WfE E) (hL : WfL L) (hok : PlS.spaceOk E L = true) (S : List Bool) (hSl : S.length = E.length) (A : Option Addr) (c : Nat) (w : World) (hS : SpaceAt w w.heap.size v E L)
    (hSr : Reads w w.heap.size 1 A S.length (S.map Value.bool)) :
    Calls Try.prog 17 #[v, .slice A S.length c] w fun e w' => e = .returned (.tuple #[.bool (closedB L S), .int .i64 0]) ∧ Below w.heap.size w w' := by
  have HS := Lib.hid hS
  obtain ⟨ve, va, rfl, ⟨Ae, ce, rfl, re⟩, ⟨Aa, ca, rows, rfl, ra, hk⟩⟩ := hS
  obtain ⟨hn1, hn2, hn3, hto⟩ := PlG.ok_parts hok
  obtain ⟨ad, hA, -⟩ := ra.2 (by omega)
  subst hA
  obtain ⟨sd, hA, -⟩ := hSr.2 (by omega)
  subst hA
  have HB0 := Lib.hid ((Below.refl w.heap.size w).alloc (Nat.le_refl _) (.cells #[.slice Ae E.length ce, .slice (some ad) L.length ca] 25))
  have RA := Lib.hid ra
  have HK := Lib.hid hk
  have HE := Lib.hid hE
  have HL := Lib.hid hL
  have SR := Lib.hid hSr
  have H := Lib.hid (chk_ok hok hSl)
  have HSL := Lib.hid (show S.length = L.length by omega)
  have HTO := Lib.hid (fun k (hk : k < L.length) x (hx : x ∈ L[k]) => (show 0 ≤ x.2 ∧ x.2 < (S.length : Int) by have := hto k hk x hx; omega))
  have hn5 : S.length ≤ 32768 := by omega
  have hn4 : L.length ≤ 32768 := by omega
  clear hE hL hok hSr re ra hk hSl hn1 hn2 hn3 hto
  go_enter Try.func17, Try.ntmps17
  go_wp2_with fail
  refine (check_is E L _ HE.out HL.out _ S.length c 0 H.out _ (HS.out.go HB0.out)).mono ?_
  rintro e w1 ⟨rfl, hb1⟩
  have HB1 := Lib.hid (below_end hb1 HB0.out)
  have bs := (Blk.new w 25 #[.slice Ae E.length ce, .slice (some ad) L.length ca]).below hb1 (by simp)
  clear hb1
  obtain ⟨p0, p1, pf⟩ := blk2 bs
  go_wp2_with fail
  clear p0 p1 pf bs
  go_loopw [20] (fun i wr => ∃ k : Nat, k ≤ L.length ∧ i = .int .i64 k ∧ (List.range k).all (rowC L S) = true ∧ Below w.heap.size w wr) (fun i _ => L.length - (intOf i).toNat)
  case atStart => exact ⟨0, Nat.zero_le _, rfl, rfl, HB1.out⟩
  case round =>
    clear HB1
    obtain ⟨k, hk, rfl, ha, hB⟩ := hrel
    have HA := Lib.hid ha
    have HB := Lib.hid hB
    by_cases hlt : k < L.length
    · have hkS : k < S.length := by have := HSL.out; omega
      obtain ⟨ad', Ak, ck, hA, hbl, cr, rk⟩ := row_at (RA.out.below hB) (fun k l hl => let ⟨u, hu, ha⟩ := HK.out k l hl; (⟨u, hu, ha.below hB⟩ : ∃ u, rows[k]? = some u ∧ ArcsAt wr w.heap.size u l)) hlt
      obtain rfl : ad = ad' := by injection hA
      obtain ⟨sd', hA2, hbs, cs⟩ := bool_at (SR.out.below hB) hkS
      obtain rfl : sd = sd' := by injection hA2
      have hll := (HL.out k hlt).1
      have HTG := Lib.hid (PlG.tg_get L k · hlt)
      have HTL := Lib.hid (PlG.tg_len L k hlt)
      have HTS := Lib.hid (HTO.out k hlt)
      have HNO := Lib.hid (fun j t => closed_no (L := L) (S := S) (k := k) (j := j) (t := t) hkS)
      have HST := Lib.hid (closed_step (L := L) (S := S) (k := k) HA.out)
      have HIN := Lib.hid (isIn_of hkS)
      have RK0 := Lib.hid (show Reads w w.heap.size 2 Ak L[k].length (L[k].flatMap arcCells) from rk.keep fun p hp => (hB.cell hp).symm)
      generalize L[k] = l at *
      generalize S[k] = sk at *
      have k0 : (0 : Int) ≤ (k : Int) := by omega
      have k1 : (k : Int) < (L.length : Int) := by omega
      have k2 : (k : Int) < (S.length : Int) := by omega
      clear ha hB rk hA hA2
      cases sk
      · have HRC := Lib.hid (HST.out (by unfold rowC; rw [HIN.out]; rfl))
        go_wp2
        refine ⟨⟨k + 1, by omega, by go_num, HRC.out, HB.out⟩, by simp [intOf]; omega⟩
      · go_wp2_with fail
        go_loopw [32] (fun i wr => ∃ j : Nat, j ≤ l.length ∧ i = .int .i64 j ∧ ((PlG.tg L k).take j).all (isIn S) = true ∧ Below w.heap.size w wr) (fun i _ => l.length - (intOf i).toNat)
        case atStart => exact ⟨0, Nat.zero_le _, rfl, rfl, HB.out⟩
        case round =>
          clear HB cr cs
          obtain ⟨j, hj, rfl, hja, hB⟩ := hrel
          have HB := Lib.hid hB
          have HJA := Lib.hid hja
          have hbz := hB.size
          by_cases hlt2 : j < l.length
          · obtain ⟨ad2, hA, hbl2, c0, c1⟩ := arc_at (RK0.out.below hB) hlt2
            subst hA
            have hx := HTS.out l[j] (List.getElem_mem _)
            have htg := HTG.out j hlt2
            generalize l[j] = x at *
            obtain ⟨xs, xt⟩ := x
            dsimp only at c0 c1 hx htg
            obtain ⟨t, rfl⟩ : ∃ t : Nat, xt = (t : Int) := ⟨xt.toNat, by omega⟩
            rw [Int.toNat_natCast] at htg
            have htn : t < S.length := by omega
            obtain ⟨sd', hA2, hbs2, ct⟩ := bool_at (SR.out.below hB) htn
            obtain rfl : sd = sd' := by injection hA2
            have HTN := Lib.hid (isIn_of htn)
            have HTGJ := Lib.hid htg
            have ctl : (sd.add t).block < wr.heap.size := by rw [block_of_add]; omega
            generalize S[t] = st at *
            have j0 : (0 : Int) ≤ (j : Int) := by omega
            have j1 : (j : Int) < (l.length : Int) := by omega
            have t0 : (0 : Int) ≤ (t : Int) := by omega
            have t1 : (t : Int) < (S.length : Int) := by omega
            have ct' : ∀ o, (wr.alloc o).cell? (sd.add t) = some (.bool st) := fun o => (World.cell?_alloc_lt wr o _ ctl).trans ct
            clear hx htg hja hB hA2
            cases st
            · have HF := Lib.hid (HNO.out j t HIN.out HTGJ.out HTN.out)
              go_wp2
              go_ret2
              exact ⟨by rw [HF.out]; rfl, HB.out.alloc hbz _⟩
            · have HJ2 := Lib.hid (all_snoc HTGJ.out HJA.out HTN.out)
              go_wp2
              refine ⟨⟨j + 1, by omega, by go_num, HJ2.out, HB.out.alloc hbz _⟩, by simp [intOf]; omega⟩
          · have HRC := Lib.hid (HST.out (by
              unfold rowC
              have := HJA.out
              rw [List.take_of_length_le (by have := HTL.out; omega)] at this
              rw [this]; simp))
            clear hja hB
            go_wp2
            refine ⟨⟨k + 1, by omega, by go_num, HRC.out, HB.out⟩, by simp [intOf]; omega⟩
    · obtain rfl : k = L.length := by omega
      have HF := Lib.hid (show closedB L S = true by unfold closedB; rw [HSL.out]; exact ha)
      clear ha hB
      go_wp2
      go_ret2
      exact ⟨by rw [HF.out]; rfl, HB.out⟩

set_option maxHeartbeats 2000000 in
theorem rclosed_ok (E : List Nat) (L : List (List Arc)) (v : Value) (hE : WfE E) (hL : WfL L) (hok : PlS.spaceOk E L = true) (S : List Bool) (hSl : S.length = E.length) (A : Option Addr) (c : Nat) (w : World) (hS : SpaceAt w w.heap.size v E L)
    (hSr : Reads w w.heap.size 1 A S.length (S.map Value.bool)) :
    Calls Try.prog 18 #[v, .slice A S.length c] w fun e w' => e = .returned (.tuple #[.bool (closedB L S), .int .i64 0]) ∧ Below w.heap.size w w' := by
  have HS := Lib.hid hS
  obtain ⟨ve, va, rfl, ⟨Ae, ce, rfl, re⟩, ⟨Aa, ca, rows, rfl, ra, hk⟩⟩ := hS
  obtain ⟨hn1, hn2, hn3, hto⟩ := PlG.ok_parts hok
  obtain ⟨ad, hA, -⟩ := ra.2 (by omega)
  subst hA
  obtain ⟨sd, hA, -⟩ := hSr.2 (by omega)
  subst hA
  have HB0 := Lib.hid ((Below.refl w.heap.size w).alloc (Nat.le_refl _) (.cells #[.slice Ae E.length ce, .slice (some ad) L.length ca] 25))
  have RA := Lib.hid ra
  have HK := Lib.hid hk
  have HE := Lib.hid hE
  have HL := Lib.hid hL
  have SR := Lib.hid hSr
  have H := Lib.hid (chk_ok hok hSl)
  have HSL := Lib.hid (show S.length = L.length by omega)
  have HTO := Lib.hid (fun k (hk : k < L.length) x (hx : x ∈ L[k]) => (show 0 ≤ x.2 ∧ x.2 < (S.length : Int) by have := hto k hk x hx; omega))
  have hn5 : S.length ≤ 32768 := by omega
  have hn4 : L.length ≤ 32768 := by omega
  clear hE hL hok hSr re ra hk hSl hn1 hn2 hn3 hto
  go_enter Try.func18, Try.ntmps18
  go_wp2_with fail
  refine (begin_is E L _ HE.out HL.out _ S.length c 0 H.out _ (HS.out.go HB0.out)).mono ?_
  rintro e w1 ⟨rfl, hb1⟩
  have HB1 := Lib.hid (below_end hb1 HB0.out)
  have bs := (Blk.new w 25 #[.slice Ae E.length ce, .slice (some ad) L.length ca]).below hb1 (by simp)
  clear hb1
  obtain ⟨p0, p1, pf⟩ := blk2 bs
  have RAW := Lib.hid (RA.out.below HB1.out)
  have HKW := Lib.hid (fun k l hl => let ⟨u, hu, ha⟩ := HK.out k l hl; (⟨u, hu, ha.below HB1.out⟩ : ∃ u, rows[k]? = some u ∧ ArcsAt w1 w.heap.size u l))
  have SRW := Lib.hid (SR.out.below HB1.out)
  clear bs
  go_wp2_with fail
  go_loop [7] (fun i => ∃ k : Nat, k ≤ S.length ∧ i = .int .i64 k ∧ (List.range k).all (rowC L S) = true) (fun i => S.length - (intOf i).toNat)
  case atStart => exact ⟨0, Nat.zero_le _, rfl, rfl⟩
  case round =>
    obtain ⟨k, hk, rfl, ha⟩ := hrel
    have HA := Lib.hid ha
    by_cases hkS : k < S.length
    · have hlt : k < L.length := by have := HSL.out; omega
      obtain ⟨ad', Ak, ck, hA, hbl, cr, rk⟩ := row_at RAW.out HKW.out hlt
      obtain rfl : ad = ad' := by injection hA
      obtain ⟨sd', hA2, hbs, cs⟩ := bool_at SRW.out hkS
      obtain rfl : sd = sd' := by injection hA2
      have hll := (HL.out k hlt).1
      have HTG := Lib.hid (PlG.tg_get L k · hlt)
      have HTL := Lib.hid (PlG.tg_len L k hlt)
      have HTS := Lib.hid (HTO.out k hlt)
      have HNO := Lib.hid (fun j t => closed_no (L := L) (S := S) (k := k) (j := j) (t := t) hkS)
      have HST := Lib.hid (closed_step (L := L) (S := S) (k := k) HA.out)
      have HIN := Lib.hid (isIn_of hkS)
      have RK0 := Lib.hid rk
      generalize L[k] = l at *
      generalize S[k] = sk at *
      have k0 : (0 : Int) ≤ (k : Int) := by omega
      have k1 : (k : Int) < (L.length : Int) := by omega
      have k2 : (k : Int) < (S.length : Int) := by omega
      clear ha rk hA hA2
      go_wp2_with fail
      go_loop [8] (fun i => ∃ j : Nat, j ≤ l.length ∧ i = .int .i64 j ∧ (sk = true → ((PlG.tg L k).take j).all (isIn S) = true)) (fun i => l.length - (intOf i).toNat)
      case atStart => exact ⟨0, Nat.zero_le _, rfl, fun _ => rfl⟩
      case round =>
        obtain ⟨j, hj, rfl, hja⟩ := hrel
        have HJA := Lib.hid hja
        clear hja
        by_cases hlt2 : j < l.length
        · obtain ⟨ad2, hA, hbl2, c0, c1⟩ := arc_at RK0.out hlt2
          subst hA
          have hx := HTS.out l[j] (List.getElem_mem _)
          have htg := HTG.out j hlt2
          generalize l[j] = x at *
          obtain ⟨xs, xt⟩ := x
          dsimp only at c0 c1 hx htg
          obtain ⟨t, rfl⟩ : ∃ t : Nat, xt = (t : Int) := ⟨xt.toNat, by omega⟩
          rw [Int.toNat_natCast] at htg
          have htn : t < S.length := by omega
          obtain ⟨sd', hA2, hbs2, ct⟩ := bool_at SRW.out htn
          obtain rfl : sd = sd' := by injection hA2
          have HTN := Lib.hid (isIn_of htn)
          have HTGJ := Lib.hid htg
          generalize S[t] = st at *
          have j0 : (0 : Int) ≤ (j : Int) := by omega
          have j1 : (j : Int) < (l.length : Int) := by omega
          have t0 : (0 : Int) ≤ (t : Int) := by omega
          have t1 : (t : Int) < (S.length : Int) := by omega
          clear hx htg hA2
          cases sk
          · go_wp2
            refine ⟨⟨j + 1, by omega, by go_num, fun h => by cases h⟩, by simp [intOf]; omega⟩
          · cases st
            · have HF := Lib.hid (HNO.out j t HIN.out HTGJ.out HTN.out)
              go_wp2
              go_ret2
              exact ⟨by rw [HF.out]; rfl, HB1.out⟩
            · have HJ2 := Lib.hid (all_snoc HTGJ.out (HJA.out rfl) HTN.out)
              go_wp2
              refine ⟨⟨j + 1, by omega, by go_num, fun _ => HJ2.out⟩, by simp [intOf]; omega⟩
        · have HRC := Lib.hid (HST.out (by
            unfold rowC
            cases sk
            · rw [HIN.out]; rfl
            · have := HJA.out rfl
              rw [List.take_of_length_le (by have := HTL.out; omega)] at this
              rw [this]; simp))
          go_wp2
          refine ⟨⟨k + 1, by omega, by go_num, HRC.out⟩, by simp [intOf]; omega⟩
    · obtain rfl : k = S.length := by omega
      have HF := Lib.hid (show closedB L S = true from ha)
      clear ha
      go_wp2
      go_ret2
      exact ⟨by rw [HF.out]; rfl, HB1.out⟩
end Go.Proofs.Ytlhheglffododaa
