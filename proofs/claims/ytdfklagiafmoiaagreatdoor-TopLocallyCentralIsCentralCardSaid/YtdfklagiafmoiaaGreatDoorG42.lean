/- family.Path(2): its links. -/
import Derived.Test.YtdfklagiafmoiaaGreatDoorG41
namespace Go.Proofs.YtdfklagiafmoiaaGreatDoor
open Go.RowKit

/-- the rows of the path's links behind so many steps -/
def lkR (k : Nat) : List (Nat × List Value) := [if 2 ≤ k then (1, pc [(1, 1)]) else (0, []), if 3 ≤ k then (1, pc [(0, 1)]) else (0, [])]
def RlL (w0 : World) (gb rb gi gp : Nat) (vs : List Value) (k : Nat) (l : List (Ch w0.heap.size)) : List (Ch w0.heap.size) :=
  cB w0.heap.size gb 29 #[.slice (some ⟨gi, 0, none⟩) 2 2, .slice (some ⟨gp, 0, none⟩) 2 2] :: cR w0.heap.size 3 1 (.slice (some ⟨gi, 0, none⟩) 2 2) 2 [.int .i64 0, .int .i64 1] :: cV w0.heap.size gp 79 135 2 vs (lkR k) :: cB w0.heap.size rb 29 #[.slice none 0 0, .slice none 0 0] :: l
theorem one_lnk (a b : Int) : ∀ y ∈ [Value.int .i64 a, .int .i64 b], y.oneCell' = true := by intro y hy; simp only [List.mem_cons, List.not_mem_nil, or_false] at hy; rcases hy with rfl | rfl <;> rfl
theorem path1_q (a b : Int) (h : -1000 ≤ a ∧ a ≤ 1000) (X : World) : Calls Tryz.prog 36 #[.int .i64 a, .int .i64 b] X fun e w' => e = .returned (.bool (a + 1 == b)) ∧ X = w' := by
  have w1 := IntWalk.i64_in (a + 1) (by omega)
  go_enter Tryz.func36, Tryz.ntmps36
  go_wp2
  go_ret
  exact ⟨rfl, rfl⟩
set_option maxRecDepth 100000 in
set_option maxHeartbeats 8000000 in
theorem related_q {w0 X : World} {l : List (Ch w0.heap.size)} (h : Mem w0 l X) : Calls Tryz.prog 66 #[.int .i64 2, .func (.func 36) #[] #[]] X fun e w' => ∃ gi gp vs, e = .returned (.agg (gA gi gp)) ∧
    Mem w0 (cR w0.heap.size 3 1 (.slice (some ⟨gi, 0, none⟩) 2 2) 2 [.int .i64 0, .int .i64 1] :: cV w0.heap.size gp 79 135 2 vs (lkR 4) :: l) w' := by
  have HW0 := Lib.hid (h.new 29 #[.slice none 0 0, .slice none 0 0])
  clear h
  go_enter Tryz.func66, Tryz.ntmps66
  go_wp2_with fail
  refine (empty_q HW0.out).mono ?_
  rintro e w1 ⟨gi, gp, rfl, hM⟩
  have HM1 := Lib.hid (hM.new 29 (gA gi gp))
  unfold gA at HM1 ⊢
  clear hM HW0
  go_wp2_with fail
  obtain ⟨l0, hl0, hz0, hz1, hz2⟩ := info_parts Tryz.infoLink
  go_loopw [11] (fun i wr => ∃ v : Nat, i = .int .i64 v ∧ v ≤ 2 ∧ ∃ vs, Mem w0 (RlL w0 w1.heap.size X.heap.size gi gp vs (2 * v) l) wr) (fun i _ => 2 - (intOf i).toNat)
  case atStart => exact ⟨0, rfl, by omega, _, HM1.out⟩
  case round =>
    clear HM1
    obtain ⟨v, rfl, hv, vs, hM⟩ := hrel
    have HM := Lib.hid hM
    clear hM
    by_cases hv2 : v < 2
    · have k1 : (v : Int) < 2 := by omega
      go_wp2_with fail
      go_loopw [15] (fun i wr => ∃ u : Nat, i = .int .i64 u ∧ u ≤ 2 ∧ ∃ vs, Mem w0 (RlL w0 w1.heap.size X.heap.size gi gp vs (2 * v + u) l) wr) (fun i _ => 2 - (intOf i).toNat)
      case atStart => exact ⟨0, rfl, by omega, _, HM.out⟩
      case round =>
        clear HM
        obtain ⟨u, rfl, hu, vs, hM⟩ := hrel
        have HM := Lib.hid hM
        clear hM
        rcases (by omega : u = 2 ∨ (v = 0 ∧ u = 0) ∨ (v = 1 ∧ u = 1) ∨ (v = 0 ∧ u = 1) ∨ (v = 1 ∧ u = 0)) with rfl | ⟨rfl, rfl⟩ | ⟨rfl, rfl⟩ | ⟨rfl, rfl⟩ | ⟨rfl, rfl⟩
        · have w1 := IntWalk.i64_in ((v : Int) + 1) (by omega)
          go_wp2
          go_roundw
          case rel => exact ⟨v + 1, by go_num, by omega, vs, HM.out⟩
          case measure => simp [intOf]; omega
        · go_wp2
          go_roundw
          case rel => exact ⟨1, rfl, by omega, vs, HM.out⟩
          case measure => simp [intOf]
        · go_wp2
          go_roundw
          case rel => exact ⟨2, rfl, by omega, vs, HM.out⟩
          case measure => simp [intOf]
        · obtain ⟨hB, G⟩ := HM.out.get 2 rfl
          obtain ⟨va, vb, rfl⟩ : ∃ va vb, vs = [va, vb] := by
            have hl : vs.length = 2 := G.len
            match vs, hl with
            | [a, b], _ => exact ⟨a, b, rfl⟩
          have HROW := Lib.hid (show wr.ownsRow w0.heap.size 135 2 va 0 [] from G.row 0 (show 0 < 2 by decide) (show 0 < 2 by decide))
          obtain ⟨Aa, ca, rfl⟩ := own_sl HROW.out
          have HGV := Lib.hid (show Blk wr gp 79 #[.slice Aa 0 ca, vb] from G.blk)
          have HGB := Lib.hid (HM.out.get 0 rfl).2
          have HMV := HM
          clear HM G hB
          obtain ⟨b0, b1, bf⟩ := blk2 HGB.out
          obtain ⟨c0, c1, cf⟩ := blk2 HGV.out
          have n0 := HGV.out.lt
          have n9 := HGB.out.lt
          have hsz := HMV.out.size
          go_wp2_with (go_at_call 36; refine (path1_q _ _ (by omega) _).mono ?_; rintro e w' ⟨rfl, rfl⟩)
          go_region_law (first
            | ((with_reducible refine step_append_any _ rfl (.tmp 38) (.tmp 41) 79 rfl w0.heap.size 135 l0 _ 2 16 Tryz.underlying79 hl0 hz0 hz1 hz2 rfl (by decide) (.slice Aa 0 ca) 0 [] rfl ?_ (wr.heap.size + 1) (some ⟨wr.heap.size, 0, none⟩) 1 1 [.int .i64 1, .int .i64 1] rfl ?_ ?_ ?_ ?_ ?_ ?_); exact HROW.out.alloc _; exact reads_blk (l := [.int .i64 1, .int .i64 1]) (Blk.new _ _ _) (Nat.lt_succ_self _) rfl; exact one_lnk _ _; exact len_ok (by omega); omega; (simp; omega); intro v1 x1 ho1 hg1 hv1; obtain ⟨A5, c5, rfl⟩ := own_sl ho1; have hgw := grown_pre (grown_drew hg1); have z2 := HGV.out.grown hgw (Ne.symm (own_blk_ne HROW.out HGV.out (by decide))); obtain ⟨y0, y1, yf⟩ := blk2 z2; have z3 := HGB.out.grown hgw (Ne.symm (own_blk_ne HROW.out HGB.out (by decide))); obtain ⟨e0, e1, ef⟩ := blk2 z3; have yl := z2.lt; have HM4 := Lib.hid (Mem.rowV HMV.out 2 rfl (by decide) (t := 0) (by decide) (S := wr.heap.size + 1) (by omega) (show 0 < 2 by decide) (show 0 < 2 by decide) hgw ho1 (by simpa using hv1)); clear hgw hg1 hv1 ho1 z2 z3))
          all_goals
            go_wp2
            go_roundw
            case rel =>
              have h2 := HM4.out
              have h3 := h2.drew
              (repeat apply Exists.intro)
              first | exact ⟨⟨1 + 1, rfl, by omega, [.slice A5 1 c5, vb], h2⟩, rfl⟩ | exact ⟨⟨1 + 1, rfl, by omega, [.slice A5 1 c5, vb], h3⟩, rfl⟩
            case measure => simp [intOf]
        · obtain ⟨hB, G⟩ := HM.out.get 2 rfl
          obtain ⟨va, vb, rfl⟩ : ∃ va vb, vs = [va, vb] := by
            have hl : vs.length = 2 := G.len
            match vs, hl with
            | [a, b], _ => exact ⟨a, b, rfl⟩
          have HROW := Lib.hid (show wr.ownsRow w0.heap.size 135 2 vb 0 [] from G.row 1 (show 1 < 2 by decide) (show 1 < 2 by decide))
          obtain ⟨Aa, ca, rfl⟩ := own_sl HROW.out
          have HGV := Lib.hid (show Blk wr gp 79 #[va, .slice Aa 0 ca] from G.blk)
          have HGB := Lib.hid (HM.out.get 0 rfl).2
          have HMV := HM
          clear HM G hB
          obtain ⟨b0, b1, bf⟩ := blk2 HGB.out
          obtain ⟨c0, c1, cf⟩ := blk2 HGV.out
          have n0 := HGV.out.lt
          have n9 := HGB.out.lt
          have hsz := HMV.out.size
          go_wp2_with (go_at_call 36; refine (path1_q _ _ (by omega) _).mono ?_; rintro e w' ⟨rfl, rfl⟩)
          go_region_law (first
            | ((with_reducible refine step_append_any _ rfl (.tmp 38) (.tmp 41) 79 rfl w0.heap.size 135 l0 _ 2 16 Tryz.underlying79 hl0 hz0 hz1 hz2 rfl (by decide) (.slice Aa 0 ca) 0 [] rfl ?_ (wr.heap.size + 1) (some ⟨wr.heap.size, 0, none⟩) 1 1 [.int .i64 0, .int .i64 1] rfl ?_ ?_ ?_ ?_ ?_ ?_); exact HROW.out.alloc _; exact reads_blk (l := [.int .i64 0, .int .i64 1]) (Blk.new _ _ _) (Nat.lt_succ_self _) rfl; exact one_lnk _ _; exact len_ok (by omega); omega; (simp; omega); intro v1 x1 ho1 hg1 hv1; obtain ⟨A5, c5, rfl⟩ := own_sl ho1; have hgw := grown_pre (grown_drew hg1); have z2 := HGV.out.grown hgw (Ne.symm (own_blk_ne HROW.out HGV.out (by decide))); obtain ⟨y0, y1, yf⟩ := blk2 z2; have z3 := HGB.out.grown hgw (Ne.symm (own_blk_ne HROW.out HGB.out (by decide))); obtain ⟨e0, e1, ef⟩ := blk2 z3; have yl := z2.lt; have HM4 := Lib.hid (Mem.rowV HMV.out 2 rfl (by decide) (t := 1) (by decide) (S := wr.heap.size + 1) (by omega) (show 1 < 2 by decide) (show 1 < 2 by decide) hgw ho1 (by simpa using hv1)); clear hgw hg1 hv1 ho1 z2 z3))
          all_goals
            go_wp2
            go_roundw
            case rel =>
              have h2 := HM4.out
              have h3 := h2.drew
              (repeat apply Exists.intro)
              first | exact ⟨⟨0 + 1, rfl, by omega, [va, .slice A5 1 c5], h2⟩, rfl⟩ | exact ⟨⟨0 + 1, rfl, by omega, [va, .slice A5 1 c5], h3⟩, rfl⟩
            case measure => simp [intOf]
    · obtain rfl : v = 2 := by omega
      obtain ⟨b0, b1, bf⟩ := blk2 (HM.out.get 0 rfl).2
      obtain ⟨e0, e1, ef⟩ := blk2 (HM.out.get 3 rfl).2
      have n1 : X.heap.size < wr.heap.size := (HM.out.get 3 rfl).2.lt
      have hF := (HM.out.set_ 3 rfl 0 (.slice (some ⟨gi, 0, none⟩) 2 2) rfl).set_ 3 rfl 1 (.slice (some ⟨gp, 0, none⟩) 2 2) rfl
      have HF := Lib.hid hF
      clear hF
      go_wp2
      have hF := HF.out
      clear HF HM e0 e1 ef n1 b0 b1 bf
      generalize World.setCell _ _ _ = Y at *
      obtain ⟨e0, e1, ef⟩ := blk2 (hF.get 3 rfl).2
      refine bodyPost_ret (v := .agg #[.slice (some ⟨gi, 0, none⟩) 2 2, .slice (some ⟨gp, 0, none⟩) 2 2]) ?_ rfl ⟨gi, gp, vs, rfl, (hF.erase 0).erase 2⟩
      simp [results, Tryz.results66, go_sem, e0, e1]
end Go.Proofs.YtdfklagiafmoiaaGreatDoor
