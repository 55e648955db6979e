/- converge.Order: the states of the attractor, each behind the targets of its arcs. -/
import Derived.Test.YtbilciiffecdgaaC6
import Derived.Test.YtbilciiffecdgaaM2
import Derived.Test.YtbilciiffecdgaaPlH
namespace Go.Proofs.Ytbilciiffecdgaa
open Go.RowKit

/-- what a list of bools says of a state -/
def isIn (S : List Bool) (k : Nat) : Bool := S.getD k false

def OrderPost (w : World) (L : List (List Arc)) (S : List Bool) (e : Ending) (w' : World) : Prop :=
  ∃ (O : List Nat) (v : Value), e = .returned v ∧ w'.ownsRow w.heap.size 3 1 v O.length (O.map I) ∧ PlC.Order L.length (PlG.tg L) (isIn S) O ∧ Below w.heap.size w w'

def OrdRel (w : World) (sp : Array Value) (Bs g ge : Nat) (vs : List Value) (R : List (List Nat)) (L : List (List Arc)) (S : List Bool) (v i : Value) (wr : World) : Prop :=
  ∃ (k : Nat) (O D : List Nat), i = .int .i64 k ∧ D.length = L.length ∧ OrdW w wr 25 29 3 sp Bs g ge vs R v O D ∧ PlC.Inv L.length (PlG.tg L) (isIn S) O k (fun j => D.getD j 0)
def OrdMid (w : World) (sp : Array Value) (Bs g ge : Nat) (vs : List Value) (R : List (List Nat)) (L : List (List Arc)) (S : List Bool) (i x : Nat) (r : List Nat) (v jv : Value) (wr : World) : Prop :=
  ∃ (j : Nat) (O D : List Nat), j ≤ r.length ∧ jv = .int .i64 j ∧ D.length = L.length ∧ OrdW w wr 25 29 3 sp Bs g ge vs R v O D ∧ PlC.Mid L.length (PlG.tg L) (isIn S) O i x (r.take j) (fun j => D.getD j 0)

theorem own_slice {w : World} {base e size n : Nat} {v : Value} {xs : List Value} (h : w.ownsRow base e size v n xs) : ∃ (A : Option Addr) (c : Nat), v = .slice A n c := by
  rcases h.2 with ⟨rfl, rfl⟩ | ⟨g', cap, cur, rfl, _⟩
  · exact ⟨_, _, rfl⟩
  · exact ⟨_, _, rfl⟩
theorem getD_of {D : List Nat} {k : Nat} (h : k < D.length) : D.getD k 0 = D[k] := by rw [List.getD_eq_getElem?_getD, List.getElem?_eq_getElem h]; rfl
theorem isIn_of {S : List Bool} {k : Nat} (h : k < S.length) : isIn S k = S[k] := by unfold isIn; rw [List.getD_eq_getElem?_getD, List.getElem?_eq_getElem h]; rfl

set_option maxHeartbeats 2000000 in
theorem order_any (E : List Nat) (L : List (List Arc)) (v : Value) (hL : WfL L) (hok : PlS.spaceOk E L = true) (S : List Bool) (hSl : S.length = L.length) (As : Option Addr) (cs : Nat) (w : World) (hS : SpaceAt w w.heap.size v E L)
    (hSr : Reads w w.heap.size 1 As S.length (S.map Value.bool)) :
    Calls Try.prog 54 #[v, .slice As S.length cs] w (OrderPost w L S) := by
  have HS := Lib.hid hS
  obtain ⟨ve, va, rfl, ⟨Ae, ce, rfl, re⟩, ⟨Aa, ca, rows, rfl, ra, hk⟩⟩ := hS
  obtain ⟨hn1, hn2, hn3, hto⟩ := PlG.ok_parts hok
  obtain ⟨ad, hA, -⟩ := ra.2 (by omega)
  subst hA
  obtain ⟨sd, hA, -⟩ := hSr.2 (by omega)
  subst hA
  have RA := Lib.hid ra
  have HK := Lib.hid hk
  have HL := Lib.hid hL
  have SR := Lib.hid hSr
  have HSL := Lib.hid hSl
  have HOK := Lib.hid hok
  have hn4 : L.length ≤ 32768 := by omega
  have hn5 : S.length ≤ 32768 := by omega
  clear re ra hk hL hSr hto hok hn1 hn2 hn3 hSl
  obtain ⟨i0, hi0, hz0, hz1, hz2⟩ := info_parts Try.infoInt
  go_enter Try.func54, Try.ntmps54
  go_wp2
  go_loopw [5, 15] (fun v i wr => ∃ k : Nat, k ≤ S.length ∧ i = .int .i64 k ∧ wr.ownsRow w.heap.size 3 1 v ((List.range k).filter (isIn S)).length (((List.range k).filter (isIn S)).map I) ∧
    Blk wr w.heap.size 25 #[.slice Ae E.length ce, .slice (some ad) L.length ca] ∧ Below w.heap.size w wr) (fun _ i _ => S.length - (intOf i).toNat)
  case atStart => exact ⟨0, Nat.zero_le _, rfl, World.ownsRow_nil _ _ _ _, Blk.new _ _ _, (Below.refl _ _).alloc (Nat.le_refl _) _⟩
  case round =>
    obtain ⟨k, hk, rfl, ho, bs, hB⟩ := hrel
    have HO := Lib.hid ho
    have HB := Lib.hid hB
    have hbz := hB.size
    by_cases hlt : k < S.length
    · obtain ⟨sd', hA, hbl, cc⟩ := bool_at (SR.out.below hB) hlt
      obtain rfl : sd = sd' := by injection hA
      have hin : isIn S k = S[k] := by unfold isIn; rw [List.getD_eq_getElem?_getD, List.getElem?_eq_getElem hlt]; rfl
      have hfr := PlH.filter_range (S := isIn S) k
      rw [hin] at hfr
      have hfl : ((List.range k).filter (isIn S)).length ≤ k := by have := List.length_filter_le (isIn S) (List.range k); simpa using this
      have HFR := Lib.hid hfr
      have k0 : (0 : Int) ≤ (k : Int) := by omega
      have k1 : (k : Int) < (S.length : Int) := by omega
      clear hA hfr hin hB ho
      cases hs : S[k]
      · rw [hs] at cc HFR
        clear hs
        go_wp2
        refine ⟨⟨k + 1, by omega, by go_num, ?_, bs, HB.out⟩, by simp [intOf]; omega⟩
        have e := HFR.out
        simp only [Bool.false_eq_true, if_false, List.append_nil] at e
        rw [e]; exact HO.out
      · rw [hs] at cc HFR
        clear hs
        go_wp2_with (at_builtin; refine wpList_append_any _ rfl (.tmp 21) (.tmp 23) 29 rfl w.heap.size 3 i0 (.int .i64 0) 1 8 Try.underlying29 hi0 hz0 hz1 hz2 rfl (by decide) u5 _ _ rfl (HO.out.alloc _) (wr.heap.size + 1) (some ⟨wr.heap.size, 0, none⟩) 1 1 [I k] rfl (reads_new1 _ _ _) (one_I k) (len_ok (by omega)) (by omega) (by simp; omega) ?_; intro v1 x1 ho1 hg1 hv1; have HO1 := Lib.hid ho1; have HB1 := Lib.hid ((HB.out.alloc hbz _).grown hg1 (by simp; omega) (fun b hb => (HO.out.lt b hb).1)); have HS1 := Lib.hid ((bs.alloc _).grown hg1 (Ne.symm (own_blk_ne HO.out bs (by decide)))); clear ho1 hg1 hv1)
        refine ⟨⟨k + 1, by omega, by go_num, ?_, HS1.out, HB1.out⟩, by simp [intOf]; omega⟩
        have e := HFR.out
        simp only [if_true] at e
        rw [e, List.length_append, List.map_append]
        exact HO1.out
    · obtain rfl : k = S.length := by omega
      obtain ⟨p0, p1, pf⟩ := blk2 bs
      clear hB ho
      go_wp2_with fail
      refine (sources_any E L _ HL.out HOK.out _ (HS.out.go HB.out)).mono ?_
      rintro e w1 ⟨g, vs, R, rfl, hg, gr, hsrc, hB1⟩
      have bs1 := bs.below hB1 bs.lt
      have ho1 := own_below' HO.out hB1
      have HB1 := Lib.hid (below_end hB1 HB.out)
      have HSRC := Lib.hid hsrc
      have GR := Lib.hid gr
      have hgl := gr.blk.lt
      have hlt1 := bs.lt
      have hs1 := hB1.size
      have HVB := Lib.hid (fun b hb => (HO.out.lt b hb).2)
      clear hB1 p0 p1 pf gr hsrc bs HO HB
      obtain ⟨p0, p1, pf⟩ := blk2 bs1
      have hmk := run_make_row' (P := Try.prog) 29 3 (.int .i64 0) 8 Try.underlying29 Try.infoInt rfl .i64 .i64 S.length (by omega) (by omega)
      go_wp2_with fail
      clear hmk p0 p1 pf
      obtain ⟨ws, rfl⟩ : ∃ ws : World, ws = wr := ⟨_, rfl⟩
      go_loopw [5, 10] (OrdRel w #[.slice Ae E.length ce, .slice (some ad) L.length ca] ws.heap.size g w1.heap.size vs R L S) (fun _ i _ => L.length - (intOf i).toNat)
      case atStart =>
        refine ⟨0, (List.range S.length).filter (isIn S), List.replicate L.length 0, rfl, by simp, ⟨bs1.alloc _, GR.out.alloc _, ⟨hlt1, hg, hgl⟩, fun x hx b hb => ((GR.out.row x hx (by have := GR.out.len; omega)).lt b hb).2, ho1.alloc _, fun b hb => .inl (HVB.out b hb), ?_, HB1.out.alloc HB1.out.size _⟩, ?_⟩
        · rw [made_list, List.map_replicate, HSL.out]
          exact Blk.new _ _ _
        · rw [HSL.out]; exact PlH.start_inv
      case round =>
        clear bs1 ho1 HVB GR HB1 hlt1 hgl
        obtain ⟨k, O, D, rfl, hD, hW, hI⟩ := hrel
        have hOn : O.length ≤ L.length := PlC.nodup_length_le hI.nodup hI.lt
        by_cases hlt : k < O.length
        · obtain ⟨gb, cb, rfl, -, -⟩ := hW.own.form (by omega)
          have hxl := hI.lt O[k] (List.getElem_mem _)
          have hmid := hI.mid (List.getElem?_eq_getElem hlt)
          have cb1 := hW.own.cellAt k (by omega)
          rw [List.getElem?_map, List.getElem?_eq_getElem hlt] at cb1
          generalize hx0 : O[k] = x at *
          clear hx0
          have hxr : x < R.length := by rw [HSRC.out.len]; exact hxl
          have hxv : x < vs.length := by rw [hW.gr.len]; exact hxr
          have gc := hW.gr.blk.get hxv
          obtain ⟨Ax, cx, hvx⟩ := own_slice (hW.gr.row x hxv hxr)
          rw [hvx] at gc
          have HVX := Lib.hid hvx
          have hrl : R[x] = R.getD x [] := by rw [List.getD_eq_getElem?_getD, List.getElem?_eq_getElem hxr]; rfl
          have hcnt := fun i hi => HSRC.out.cnt x i hxl hi
          have hrlt := fun i hi => HSRC.out.lt x i hxl hi
          rw [← hrl] at hcnt hrlt
          have hrs := HSRC.out.size x
          rw [← hrl] at hrs
          have HCNT := Lib.hid hcnt
          have HRLT := Lib.hid hrlt
          have HRR := Lib.hid (fun (x' : Nat) (h : x' < R.length) (_ : x' = x) => (rfl : R[x'] = R[x']))
          generalize hr0 : R[x] = r at *
          have HR0 := Lib.hid hr0
          have HW := Lib.hid hW
          have HM := Lib.hid hmid
          have hks : (k : Int) < (O.length : Int) := by omega
          have hx1 : (x : Int) < (L.length : Int) := by omega
          have hx0 : (0 : Int) ≤ (x : Int) := by omega
          have hk0 : (0 : Int) ≤ (k : Int) := by omega
          have hI0 : (I x) = .int .i64 (x : Int) := rfl
          rw [Option.map_some, hI0] at cb1
          clear hvx hcnt hrlt hr0 hW hmid hI hI0 hrl
          go_wp2
          go_loopw [5, 45] (OrdMid w #[.slice Ae E.length ce, .slice (some ad) L.length ca] ws.heap.size g w1.heap.size vs R L S k x r) (fun _ i _ => r.length - (intOf i).toNat)
          case atStart => exact ⟨0, O, D, Nat.zero_le _, rfl, hD, HW.out, HM.out⟩
          case round =>
            clear HW HM cb1 gc hD hks hOn
            obtain ⟨j, O1, D, hj, rfl, hD, hW, hM⟩ := hrel
            by_cases hlt2 : j < r.length
            · have hrow := hW.gr.row x hxv hxr
              rw [HVX.out, HR0.out] at hrow
              obtain ⟨gx, cx', hfx, -, -⟩ := hrow.form (by omega)
              injection hfx with hfx _ hcx
              subst hfx hcx
              have cj := hrow.cellAt j (by omega)
              have hkn := HRLT.out r[j] (List.getElem_mem _)
              have hcn := HCNT.out r[j] hkn
              have hrj : r[j]? = some r[j] := List.getElem?_eq_getElem hlt2
              rw [List.getElem?_map, hrj] at cj
              generalize r[j] = y at *
              have hyS : y < S.length := by rw [HSL.out]; exact hkn
              have hyD : y < D.length := by omega
              have hcl := PlH.count_lt hrj
              rw [hcn] at hcl
              have hent := PlH.ent_le hM hkn hcl
              have hnext := fun O' hO => PlH.mid_next hM hD hrj hkn hcn O' hO
              have hlen := PlG.tg_len L y hkn
              have hll := (HL.out y hkn).1
              rw [hlen] at hent hnext
              rw [isIn_of hyS] at hnext
              have hdd := hW.dd.get (k := y) (by simpa using hyD)
              rw [List.getElem_map, ← getD_of hyD] at hdd
              have hdf := hW.dd.frozen y
              have hst := hW.store y (D.getD y 0 + 1)
              generalize D.getD y 0 = d at *
              have hIy : (I y) = .int .i64 (y : Int) := rfl
              have hId : (I d) = .int .i64 (d : Int) := rfl
              have hId1 : (I (d + 1)) = .int .i64 ((d : Int) + 1) := by unfold I; go_num
              rw [Option.map_some, hIy] at cj
              rw [hId] at hdd
              rw [hId1] at hst
              have HN := Lib.hid hnext
              have j0 : (0 : Int) ≤ (j : Int) := by omega
              have j1 : (j : Int) < (r.length : Int) := by omega
              have y0 : (0 : Int) ≤ (y : Int) := by omega
              have y1 : (y : Int) < (L.length : Int) := by omega
              have y2 : (y : Int) < (S.length : Int) := by omega
              clear hIy hId hId1 hnext hrj hcn hcl hM hrow
              go_upto_region 17 with fail
              generalize hW3 : World.setCell _ _ _ = W3 at *
              have HD3 := Lib.hid (show (D.set y (d + 1)).length = L.length by simpa using hD)
              obtain ⟨sd', hA, hbl, cS⟩ := bool_at (SR.out.below hst.bel) hyS
              obtain rfl : sd = sd' := by injection hA
              obtain ⟨ad', Ak, c, hA2, hbl2, cr, -⟩ := row_at (RA.out.below hst.bel) (fun k l hl => let ⟨u, hu, ha⟩ := HK.out k l hl; (⟨u, hu, ha.below hst.bel⟩ : ∃ u, rows[k]? = some u ∧ ArcsAt W3 w.heap.size u l)) hkn
              obtain rfl : ad = ad' := by injection hA2
              obtain ⟨p0, p1, pf⟩ := blk2 hst.sp_
              have hd3 := hst.dd.get (k := y) (by simpa using hyD)
              rw [List.getElem_map, List.getElem_set_self] at hd3
              have hId1 : (I (d + 1)) = .int .i64 ((d : Int) + 1) := by unfold I; go_num
              rw [hId1] at hd3
              have HW3 := Lib.hid hst
              clear hA hA2 hId1 hst hW3 hW hdd hdf
              generalize L[y].length = ll at *
              cases hs : S[y]
              · rw [hs] at cS HN
                clear hs
                by_cases he : d + 1 = ll
                · have t1 : ((d : Int) + 1 == (ll : Int)) = true := by rw [beq_iff_eq]; omega
                  have HN' := Lib.hid (HN.out (O1 ++ [y]) (by rw [if_pos ⟨rfl, he⟩]))
                  have hol : O1.length ≤ L.length := by have h := HN'.out; have := PlC.nodup_length_le h.nodup h.lt; simp at this; omega
                  clear HN he
                  go_wp2_with fail
                  go_quiet (fail)
                  go_wp2_with (at_builtin; refine wpList_append_any _ rfl (.tmp 73) (.tmp 75) 29 rfl w.heap.size 3 i0 (.int .i64 0) 1 8 Try.underlying29 hi0 hz0 hz1 hz2 rfl (by decide) u5 _ _ rfl (HW3.out.own.alloc _) (W3.heap.size + 1) (some ⟨W3.heap.size, 0, none⟩) 1 1 [I y] rfl (reads_new1 _ _ _) (one_I y) (len_ok (by omega)) (by omega) (by have := HW3.out.bel.size; simp; omega) ?_; intro v1 x1 ho1 hg1 hv1; have HW4 := Lib.hid ((HW3.out.drewN nq).app (by decide) (grown_pre hg1) ho1 (S := W3.heap.size + 1) (by simpa using hv1) (by simp)); clear ho1 hg1 hv1)
                  go_roundw
                  case rel => exact ⟨j + 1, O1 ++ [y], D.set y (d + 1), by omega, by go_num, HD3.out, HW4.out, HN'.out⟩
                  case measure => simp [intOf]; omega
                · have t1 : ((d : Int) + 1 == (ll : Int)) = false := beq_eq_false_iff_ne.2 (by omega)
                  have HN' := Lib.hid (HN.out O1 (by rw [if_neg (fun h => he h.2)]))
                  clear HN
                  go_wp2_with fail
                  go_quiet (fail)
                  go_wp2
                  go_roundw
                  case rel => exact ⟨j + 1, O1, D.set y (d + 1), by omega, by go_num, HD3.out, HW3.out.drewN _, HN'.out⟩
                  case measure => simp [intOf]; omega
              · rw [hs] at cS HN
                clear hs
                have HN' := Lib.hid (HN.out O1 (by rw [if_neg (fun h => by cases h.1)]))
                clear HN
                go_wp2_with fail
                go_quiet (fail)
                go_wp2
                go_roundw
                case rel => exact ⟨j + 1, O1, D.set y (d + 1), by omega, by go_num, HD3.out, HW3.out.drewN _, HN'.out⟩
                case measure => simp [intOf]; omega
            · have hM2 := hM.done (fun i hi => by rw [List.take_of_length_le (by omega)]; exact HCNT.out i hi)
              have HM2 := Lib.hid hM2
              have HW := Lib.hid hW
              have hll : k < O1.length := (List.getElem?_eq_some_iff.1 hM.at_).1
              have hOn : O1.length ≤ L.length := PlC.nodup_length_le hM.nodup hM.lt
              clear hM hM2 hW
              go_wp2
              refine ⟨⟨k + 1, O1, D, by go_num, hD, HW.out, HM2.out⟩, by simp [intOf]; omega⟩
        · obtain rfl : k = O.length := by have := hI.le; omega
          obtain ⟨Ax, cx, hvx⟩ := own_slice hW.own
          subst hvx
          have HF := Lib.hid (show OrderPost w L S (.returned (.slice Ax O.length cx)) wr from ⟨O, _, rfl, hW.own, hI.end_ (fun j hj => by
            have h1 : j < S.length := by
              rcases Nat.lt_or_ge j S.length with h | h
              · exact h
              · unfold isIn at hj; rw [List.getD_eq_getElem?_getD, List.getElem?_eq_none h] at hj; cases hj
            rw [← HSL.out]; exact h1) (fun j hj => by have := PlG.tg_dom HOK.out j hj; have := (PlG.ok_parts HOK.out).2.2.1; omega), hW.bel⟩)
          clear hW hI
          go_wp2
          go_ret
          exact HF.out
end Go.Proofs.Ytbilciiffecdgaa
