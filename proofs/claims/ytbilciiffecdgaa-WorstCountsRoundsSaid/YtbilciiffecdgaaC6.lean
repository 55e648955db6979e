/- converge.sources: for each state the states with an arc to it, once for each arc. -/
import Derived.Test.YtbilciiffecdgaaC5
import Derived.Test.YtbilciiffecdgaaM1
import Derived.Test.YtbilciiffecdgaaPlG
import Derived.Deep.RegionLaw
import Derived.Deep.DeepCutAuto
namespace Go.Proofs.Ytbilciiffecdgaa
open Go.RowKit

theorem Try.infoInt : (Try.prog.info? 3).map (fun i => (i.zero, i.size, i.bytes)) = some (some (.int .i64 0), 1, 8) := by kernel_rfl
theorem Try.infoInts : (Try.prog.info? 29).map (fun i => (i.zero, i.size, i.bytes)) = some (some (.slice none 0 0), 1, 24) := by kernel_rfl

/-- what sources returns: rows of the call's own -/
def SrcPost (w : World) (L : List (List Arc)) (e : Ending) (w' : World) : Prop :=
  ∃ (g : Nat) (vs : List Value) (R : List (List Nat)), e = .returned (.slice (some ⟨g, 0, none⟩) L.length L.length) ∧ w.heap.size ≤ g ∧ Grid w' w.heap.size g 29 3 vs R ∧ PlG.Src L L.length R ∧ Below w.heap.size w w'

def SrcRel (w : World) (v : Array Value) (L : List (List Arc)) (k j : Nat) (wr : World) : Prop :=
  ∃ (vs : List Value) (R : List (List Nat)), Blk wr w.heap.size 25 v ∧ Grid wr w.heap.size (w.heap.size + 1) 29 3 vs R ∧ PlG.SrcTo L L.length R k j ∧ Below w.heap.size w wr

set_option maxHeartbeats 2000000 in
theorem sources_any (E : List Nat) (L : List (List Arc)) (v : Value) (hL : WfL L) (hok : PlS.spaceOk E L = true) (w : World) (hS : SpaceAt w w.heap.size v E L) :
    Calls Try.prog 59 #[v] w (SrcPost w L) := by
  obtain ⟨ve, va, rfl, ⟨Ae, ce, rfl, re⟩, ⟨Aa, ca, rows, rfl, ra, hk⟩⟩ := hS
  obtain ⟨hn1, hn2, hn3, hto⟩ := PlG.ok_parts hok
  obtain ⟨ad, hA, -⟩ := ra.2 (by omega)
  subst hA
  have RA := Lib.hid ra
  have HK := Lib.hid hk
  have HL := Lib.hid hL
  clear re ra hk hL
  have HTO := Lib.hid hto
  have HN3 := Lib.hid hn3
  have hn4 : L.length ≤ 32768 := by omega
  clear hto hok hn1 hn2 hn3
  have hmk := run_make_row' (P := Try.prog) 89 29 (.slice none 0 0) 24 Try.underlying89 Try.infoInts rfl .i64 .i64 L.length (by omega) (by omega)
  obtain ⟨i0, hi0, hz0, hz1, hz2⟩ := info_parts Try.infoInt
  go_enter Try.func59, Try.ntmps59
  go_wp2
  clear hmk
  go_loopw [15] (fun i wr => ∃ k : Nat, k ≤ L.length ∧ i = .int .i64 k ∧ SrcRel w #[.slice Ae E.length ce, .slice (some ad) L.length ca] L k 0 wr) (fun i _ => L.length - (intOf i).toNat)
  case atStart =>
    refine ⟨0, Nat.zero_le _, rfl, List.replicate L.length (.slice none 0 0), List.replicate L.length [], (Blk.new _ _ _).alloc _, ?_, PlG.SrcTo.start L L.length, ((Below.refl _ _).alloc (Nat.le_refl _) _).alloc (by simp) _⟩
    have := Grid.start (w.alloc (.cells #[.slice Ae E.length ce, .slice (some ad) L.length ca] 25)) w.heap.size 29 3 L.length
    rw [← made_list] at this
    simpa using this
  case round =>
    obtain ⟨k, hk, rfl, vs, R, bs, gr, hsrc, hB⟩ := hrel
    have HB := Lib.hid hB
    have GR := Lib.hid gr
    have HSRC := Lib.hid hsrc
    obtain ⟨p0, p1, pf⟩ := blk2 bs
    by_cases hlt : k < L.length
    · obtain ⟨ad', Ak, c, hA, hbl, cr, rk⟩ := row_at (RA.out.below hB) (fun k l hl => let ⟨u, hu, ha⟩ := HK.out k l hl; (⟨u, hu, ha.below hB⟩ : ∃ u, rows[k]? = some u ∧ ArcsAt wr w.heap.size u l)) hlt
      obtain rfl : ad = ad' := by injection hA
      have hll := (HL.out k hlt).1
      have hts := HTO.out k hlt
      have HTG := Lib.hid (PlG.tg_get L k · hlt)
      have HTL := Lib.hid (PlG.tg_len L k hlt)
      have RK0 := Lib.hid (show Reads w w.heap.size 2 Ak L[k].length (L[k].flatMap arcCells) from rk.keep fun p hp => (hB.cell hp).symm)
      generalize L[k] = l at *
      have HTS := Lib.hid hts
      have k0 : (0 : Int) ≤ (k : Int) := by omega
      have k1 : (k : Int) < (L.length : Int) := by omega
      clear hB gr hsrc rk hts
      go_wp2
      go_loopw [22] (fun i wr => ∃ j : Nat, j ≤ l.length ∧ i = .int .i64 j ∧ SrcRel w #[.slice Ae E.length ce, .slice (some ad) L.length ca] L k j wr) (fun i _ => l.length - (intOf i).toNat)
      case atStart => exact ⟨0, Nat.zero_le _, rfl, vs, R, bs, GR.out, HSRC.out, HB.out⟩
      case round =>
        clear bs GR HSRC HB p0 p1 pf cr
        obtain ⟨j, hj, rfl, vs, R, bs, gr, hsrc, hB⟩ := hrel
        have HB := Lib.hid hB
        by_cases hlt2 : j < l.length
        · obtain ⟨ad2, hA, hbl2, c0, c1⟩ := arc_at (RK0.out.below hB) hlt2
          subst hA
          have hx := HTS.out l[j] (List.getElem_mem _)
          have htg := HTG.out j hlt2
          generalize l[j] = x at *
          obtain ⟨xs, xt⟩ := x
          dsimp only at c0 c1 hx htg
          obtain ⟨t, rfl⟩ : ∃ t : Nat, xt = (t : Int) := ⟨xt.toNat, by omega⟩
          have htn : t < L.length := by have := HN3.out; omega
          rw [Int.toNat_natCast] at htg
          have j0 : (0 : Int) ≤ (j : Int) := by omega
          have j1 : (j : Int) < (l.length : Int) := by omega
          have t0 : (0 : Int) ≤ (t : Int) := by omega
          have t1 : (t : Int) < (L.length : Int) := by omega
          have htr : t < R.length := by rw [hsrc.len]; exact htn
          have htv : t < vs.length := by rw [gr.len]; exact htr
          have hsize : R[t].length ≤ k * 1000000 + j := by have := hsrc.size t; rwa [List.getD_eq_getElem?_getD, List.getElem?_eq_getElem htr] at this
          have HSN := Lib.hid (hsrc.next htn htg htr)
          have bz := hB.size
          clear hx htg hsrc hB
          go_upto_region 8 with fail
          generalize hW : World.alloc _ _ = W
          have ba : Blk W wr.heap.size 42 #[.int .u32 (xs : Int), .int .i64 (t : Int)] := by rw [← hW]; exact Blk.new _ _ _
          have GW : Grid W w.heap.size (w.heap.size + 1) 29 3 vs R := by rw [← hW]; exact gr.alloc _
          have bsW : Blk W w.heap.size 25 #[.slice Ae E.length ce, .slice (some ad) L.length ca] := by rw [← hW]; exact bs.alloc _
          have HBW : Hid (Below w.heap.size w W) := by rw [← hW]; exact HB.out.alloc bz _
          clear hW gr bs HB c0 c1
          have gcell := GW.blk.get htv
          have gfrz := GW.blk.frozen t
          obtain ⟨a0, a1, af⟩ := blk2 ba
          have hrow := GW.row t htv htr
          have HROW := Lib.hid hrow
          generalize hvt : vs[t] = vt at *
          have HV := Lib.hid hvt
          have HVT := Lib.hid (fun (h : Grid W w.heap.size (w.heap.size + 1) 29 3 vs R) => h)
          clear hvt hrow
          have hWs := ba.lt
          have hgs := GW.blk.lt
          go_region_law (first
              | ((with_reducible refine step_append_any _ rfl (.tmp 33) (.tmp 35) 29 rfl w.heap.size 3 i0 (.int .i64 0) 1 8 Try.underlying29 hi0 hz0 hz1 hz2 rfl (by decide) vt R[t].length (R[t].map I) rfl ?_ (W.heap.size + 1) (some ⟨W.heap.size, 0, none⟩) 1 1 [I k] rfl ?_ ?_ ?_ ?_ ?_ ?_); exact HROW.out.alloc _; exact reads_new1 _ _ _; exact one_I k; exact len_ok (by omega); omega; (simp; omega); intro v1 x1 ho1 hg1 hv1; obtain ⟨gv, cv, rfl, -, -⟩ := ho1.form (by omega); have hgw := grown_pre (grown_drew hg1); obtain ⟨hgb, hG2⟩ := (HVT.out GW).app (by decide) (k := k) (S := W.heap.size + 1) (by omega) htv htr (by rw [HV.out]; exact hgw) ho1 (by rw [HV.out]; simpa using hv1); have z1 := (ba.grown hgw (Ne.symm (own_blk_ne HROW.out ba (by decide)))).cell 1; have z2 := hgb.get htv; rw [HV.out] at z2; have z3 := hgb.frozen t; have HG2 := Lib.hid hG2; have HB2 := Lib.hid (HBW.out.grown hgw (by omega) (fun b hb => (HROW.out.lt b hb).1)); have HS2 := Lib.hid (bsW.grown hgw (Ne.symm (own_blk_ne HROW.out bsW (by decide)))); clear hG2 hgb hgw hg1 hv1 ho1))
          all_goals
            go_wp2
            refine ⟨⟨j + 1, by omega, by go_num, vs.set t (.slice (some ⟨gv, 0, none⟩) (R[t].length + 1) cv), R.set t (R[t] ++ [k]), ?_, ?_, HSN.out, ?_⟩, by simp [intOf]; omega⟩
            · first | exact HS2.out.far (by simp) _ | exact (HS2.out.far (by simp) _).drew
            · first | exact HG2.out | exact HG2.out.drew
            · first | exact HB2.out.setCell (by simp) _ | exact (HB2.out.setCell (by simp) _).drew
        · have HSR := Lib.hid (hsrc.row (by have := HTL.out; omega) (by omega))
          go_wp2
          refine ⟨⟨k + 1, by omega, by go_num, vs, R, bs, gr, HSR.out, HB.out⟩, by simp [intOf]; omega⟩
    · obtain rfl : k = L.length := by omega
      go_wp2
      go_ret
      exact ⟨w.heap.size + 1, vs, R, rfl, by omega, gr, hsrc.done, hB⟩
end Go.Proofs.Ytbilciiffecdgaa
