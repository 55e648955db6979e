/- Lemmas of this seat, laid together out of 2 texts: no statement of the seat is proved here. -/
import Derived.Test.YtdfklagiafmoiaaGreatDoorG42
/- family.Path(2). -/
namespace Go.Proofs.YtdfklagiafmoiaaGreatDoor
open Go.RowKit

set_option maxRecDepth 100000 in
set_option maxHeartbeats 8000000 in
theorem ofSize_q {w0 X : World} {l : List (Ch w0.heap.size)} (h : Mem w0 l X) : Calls Tryz.prog 35 #[.int .i64 2, .func (.func 36) #[] #[]] X fun e w' => ∃ gi gp vs, e = .returned (.tuple #[.agg (gA gi gp), .int .i64 0]) ∧
    Mem w0 (cR w0.heap.size 3 1 (.slice (some ⟨gi, 0, none⟩) 2 2) 2 [.int .i64 0, .int .i64 1] :: cV w0.heap.size gp 79 135 2 vs (lkR 4) :: l) w' := by
  have HW0 := Lib.hid (h.new 29 #[.slice none 0 0, .slice none 0 0])
  clear h
  go_enter Tryz.func35, Tryz.ntmps35
  go_wp2_with fail
  refine (related_q HW0.out).mono ?_
  rintro e w1 ⟨gi, gp, vs, rfl, hM⟩
  unfold gA at *
  obtain ⟨e0, e1, ef⟩ := blk2 (hM.get 2 rfl).2
  have n1 : X.heap.size < w1.heap.size := (hM.get 2 rfl).2.lt
  have hF := (hM.set_ 2 rfl 0 (.slice (some ⟨gi, 0, none⟩) 2 2) rfl).set_ 2 rfl 1 (.slice (some ⟨gp, 0, none⟩) 2 2) rfl
  have HF := Lib.hid hF
  clear hF hM HW0
  go_wp2
  have hF := HF.out
  clear HF e0 e1 ef n1
  generalize World.setCell _ _ _ = Y at *
  obtain ⟨e0, e1, ef⟩ := blk2 (hF.get 2 rfl).2
  refine bodyPost_ret (v := .tuple #[.agg #[.slice (some ⟨gi, 0, none⟩) 2 2, .slice (some ⟨gp, 0, none⟩) 2 2], .int .i64 0]) ?_ rfl ⟨gi, gp, vs, rfl, hF.erase 2⟩
  simp [results, Tryz.results35, go_sem, e0, e1]
set_option maxRecDepth 100000 in
set_option maxHeartbeats 8000000 in
theorem path_q {w0 X : World} {l : List (Ch w0.heap.size)} (h : Mem w0 l X) : Calls Tryz.prog 19 #[.int .i64 2] X fun e w' => ∃ gi gp vs, e = .returned (.tuple #[.agg (gA gi gp), .int .i64 0]) ∧
    Mem w0 (cR w0.heap.size 3 1 (.slice (some ⟨gi, 0, none⟩) 2 2) 2 [.int .i64 0, .int .i64 1] :: cV w0.heap.size gp 79 135 2 vs (lkR 4) :: l) w' := by
  have HW0 := Lib.hid (h.new 29 #[.slice none 0 0, .slice none 0 0])
  clear h
  go_enter Tryz.func19, Tryz.ntmps19
  go_wp2_with fail
  refine (ofSize_q HW0.out).mono ?_
  rintro e w1 ⟨gi, gp, vs, rfl, hM⟩
  unfold gA at *
  obtain ⟨e0, e1, ef⟩ := blk2 (hM.get 2 rfl).2
  have n1 : X.heap.size < w1.heap.size := (hM.get 2 rfl).2.lt
  have hF := (hM.set_ 2 rfl 0 (.slice (some ⟨gi, 0, none⟩) 2 2) rfl).set_ 2 rfl 1 (.slice (some ⟨gp, 0, none⟩) 2 2) rfl
  have HF := Lib.hid hF
  clear hF hM HW0
  go_wp2
  have hF := HF.out
  clear HF e0 e1 ef n1
  generalize World.setCell _ _ _ = Y at *
  obtain ⟨e0, e1, ef⟩ := blk2 (hF.get 2 rfl).2
  refine bodyPost_ret (v := .tuple #[.agg #[.slice (some ⟨gi, 0, none⟩) 2 2, .slice (some ⟨gp, 0, none⟩) 2 2], .int .i64 0]) ?_ rfl ⟨gi, gp, vs, rfl, hF.erase 2⟩
  simp [results, Tryz.results19, go_sem, e0, e1]
/-- the path in memory -/
theorem g2_at {w : World} {b gi gp : Nat} {vs : List Value} (h1 : w.ownsRow b 3 1 (.slice (some ⟨gi, 0, none⟩) 2 2) 2 [.int .i64 0, .int .i64 1]) (h2 : GridV w b gp 79 135 2 vs (lkR 4)) : GraphAt w w.heap.size (.agg (gA gi gp)) g2 := by
  obtain ⟨va, vb, rfl⟩ : ∃ va vb, vs = [va, vb] := by
    have hl : vs.length = 2 := h2.len
    match vs, hl with
    | [a, b], _ => exact ⟨a, b, rfl⟩
  have ha : w.ownsRow b 135 2 va 1 (pc [(1, 1)]) := h2.row 0 (show 0 < 2 by decide) (show 0 < 2 by decide)
  have hb : w.ownsRow b 135 2 vb 1 (pc [(0, 1)]) := h2.row 1 (show 1 < 2 by decide) (show 1 < 2 by decide)
  obtain ⟨Aa, ca, rfl⟩ := own_sl ha
  obtain ⟨Ab, cb, rfl⟩ := own_sl hb
  refine ⟨_, _, rfl, ?_, ?_⟩
  · have h1' : w.ownsRow b 3 1 (.slice (some ⟨gi, 0, none⟩) 2 2) 2 (([0, 1] : List Int).map fun z => .int .i64 z) := h1
    obtain ⟨A, c, e, h⟩ := ints_own h1'
    rw [e]
    exact h
  · have hB : Blk w gp 79 [Value.slice Aa 1 ca, .slice Ab 1 cb].toArray := h2.blk
    refine ⟨_, 2, _, rfl, reads_blk hB hB.lt rfl, fun k x hk => ?_⟩
    match k, hk with
    | 0, hk => injection hk with hk; subst hk; exact ⟨[.slice Aa 1 ca], rfl, ⟨_, rfl, pairs_own ha rfl⟩, fun j u hj => match j, hj with | 0, hj => hj | j + 1, hj => absurd hj (by simp)⟩
    | 1, hk => injection hk with hk; subst hk; exact ⟨[.slice Ab 1 cb], rfl, ⟨_, rfl, pairs_own hb rfl⟩, fun j u hj => match j, hj with | 0, hj => hj | j + 1, hj => absurd hj (by simp)⟩
    | k + 2, hk => simp [g2] at hk
end Go.Proofs.YtdfklagiafmoiaaGreatDoor

/- The laws' sanity check answers true. -/
namespace Go.Proofs.YtdfklagiafmoiaaGreatDoor
open Go.RowKit

theorem run20_ok : RunOk colP g2 c20 [1] 1 := by
  have := run_ok c20_ok 1 [3, 3] (by decide)
  rwa [fol20] at this
theorem accA20 : ∃ z1 z3 z4 : Int, accA ⟨colP, g2, c20, [1], 1, 2⟩ 1 = #[.int .i64 1, .int .i64 z1, .int .i64 1, .int .i64 z3, .int .u32 z4] := by
  unfold accA
  rw [show accT colP g2 c20 [1] 1 = (1, 1, 0) from acc20]
  exact ⟨_, _, _, rfl⟩
/-- the four slices of the check -/
def awW (W : World) : World := (((W.alloc (.cells #[.int .i64 0] 3)).alloc (.cells #[.int .i64 0] 3)).alloc (.cells #[.slice (some ⟨W.heap.size, 0, none⟩) 1 1, .slice (some ⟨W.heap.size + 1, 0, none⟩) 1 1] 26)).alloc (.cells #[.int .u32 3, .int .u32 3] 34)
theorem aw_conf (W : World) : ConfAt (awW W) (awW W).heap.size (.slice (some ⟨W.heap.size + 1 + 1, 0, none⟩) 2 2) c20 := by
  have b0 : Blk (awW W) W.heap.size 3 #[.int .i64 0] := (((Blk.new W _ _).alloc _).alloc _).alloc _
  have b1 : Blk (awW W) (W.heap.size + 1) 3 #[.int .i64 0] := ((blk_new_at (by simp)).alloc _).alloc _
  have b2 : Blk (awW W) (W.heap.size + 1 + 1) 26 [Value.slice (some ⟨W.heap.size, 0, none⟩) 1 1, .slice (some ⟨W.heap.size + 1, 0, none⟩) 1 1].toArray := (blk_new_at (by simp)).alloc _
  have i0 : ∀ g, Blk (awW W) g 3 #[.int .i64 0] → IntsAt (awW W) (awW W).heap.size (.slice (some ⟨g, 0, none⟩) 1 1) [0] := fun g hb =>
    ⟨_, 1, _, rfl, reads_blk (l := [.int .i64 0]) hb hb.lt rfl, fun k x hk => match k, hk with
      | 0, hk => ⟨[.int .i64 0], rfl, by injection hk with hk; subst hk; rfl, fun j u hj => match j, hj with | 0, hj => hj | j + 1, hj => absurd hj (by simp)⟩
      | k + 1, hk => absurd hk (by simp)⟩
  refine ⟨_, 2, _, rfl, reads_blk b2 b2.lt rfl, fun k x hk => ?_⟩
  match k, hk with
  | 0, hk => injection hk with hk; subst hk; exact ⟨[.slice (some ⟨W.heap.size, 0, none⟩) 1 1], rfl, ⟨_, rfl, i0 _ b0⟩, fun j u hj => match j, hj with | 0, hj => hj | j + 1, hj => absurd hj (by simp)⟩
  | 1, hk => injection hk with hk; subst hk; exact ⟨[.slice (some ⟨W.heap.size + 1, 0, none⟩) 1 1], rfl, ⟨_, rfl, i0 _ b1⟩, fun j u hj => match j, hj with | 0, hj => hj | j + 1, hj => absurd hj (by simp)⟩
  | k + 2, hk => simp [c20] at hk
theorem aw_u32 (W : World) : U32At (awW W) (awW W).heap.size (.slice (some ⟨W.heap.size + 1 + 1 + 1, 0, none⟩) 2 2) [3, 3] := by
  have b0 : Blk (awW W) (W.heap.size + 1 + 1 + 1) 34 [Value.int .u32 3, .int .u32 3].toArray := blk_new_at (by simp)
  refine ⟨_, 2, _, rfl, reads_blk b0 b0.lt rfl, fun k x hk => ?_⟩
  match k, hk with
  | 0, hk => injection hk with hk; subst hk; exact ⟨[.int .u32 3], rfl, rfl, fun j u hj => match j, hj with | 0, hj => hj | j + 1, hj => absurd hj (by simp)⟩
  | 1, hk => injection hk with hk; subst hk; exact ⟨[.int .u32 3], rfl, rfl, fun j u hj => match j, hj with | 0, hj => hj | j + 1, hj => absurd hj (by simp)⟩
  | k + 2, hk => simp at hk
theorem aw_below (W : World) : Below W.heap.size W (awW W) := balloc (balloc (balloc (balloc (Below.refl _ _) _) _) _) _
set_option maxRecDepth 100000 in
set_option maxHeartbeats 8000000 in
theorem awake_ok : AwakeOk := by
  intro X htz
  have HTZ := Lib.hid htz
  have HPA := Lib.hid (parse_r X)
  unfold colT at HPA
  clear htz
  go_enter Tryz.func6, Tryz.ntmps6
  go_wp2_with fail
  refine HPA.out.mono ?_
  rintro e w1 ⟨v, rfl, hp, hb1⟩
  have HP1 := Lib.hid hp
  obtain ⟨vv, vr, rfl, hv, hr⟩ := hp
  obtain ⟨Av, cv, rfl⟩ : ∃ A c, vv = .slice A 1 c := ListAt.sl hv
  obtain ⟨Ar, cr, rfl⟩ : ∃ A c, vr = .slice A 1 c := ListAt.sl hr
  clear HPA
  have HPW := Lib.hid (show ProgAt (w1.alloc (.cells #[.string colP.name, (.slice Av 1 cv), (.slice Ar 1 cr)] 25)) (w1.alloc (.cells #[.string colP.name, (.slice Av 1 cv), (.slice Ar 1 cr)] 25)).heap.size (.agg #[.string colP.name, (.slice Av 1 cv), (.slice Ar 1 cr)]) colP ∧ Below X.heap.size X (w1.alloc (.cells #[.string colP.name, (.slice Av 1 cv), (.slice Ar 1 cr)] 25)) ∧ Blk (w1.alloc (.cells #[.string colP.name, (.slice Av 1 cv), (.slice Ar 1 cr)] 25)) w1.heap.size 25 #[.string colP.name, (.slice Av 1 cv), (.slice Ar 1 cr)] from ⟨ProgAt.to (Holds_.go (balloc (Below.refl _ _) _)) HP1.out, balloc hb1 _, Blk.new _ _ _⟩)
  clear HP1 hb1 hv hr
  generalize colP.name = pn at *
  go_wp2_with fail
  generalize World.alloc _ _ = W1 at *
  refine (path_q (Mem.start W1)).mono ?_
  rintro e w2 ⟨gi, gp, vs, rfl, hM⟩
  have hG := g2_at (hM.get 0 rfl) (hM.get 1 rfl).2
  have hb2 := hM.bel
  unfold gA at hG ⊢
  have hbw : Below w2.heap.size w2 (w2.alloc (.cells #[.slice (some ⟨gi, 0, none⟩) 2 2, .slice (some ⟨gp, 0, none⟩) 2 2] 29)) := balloc (Below.refl _ _) _
  have HGW := Lib.hid (show ∀ W, W = w2.alloc (.cells #[.slice (some ⟨gi, 0, none⟩) 2 2, .slice (some ⟨gp, 0, none⟩) 2 2] 29) → GraphAt W W.heap.size (.agg #[.slice (some ⟨gi, 0, none⟩) 2 2, .slice (some ⟨gp, 0, none⟩) 2 2]) g2 ∧ Below W1.heap.size W1 W ∧ Blk W w2.heap.size 29 #[.slice (some ⟨gi, 0, none⟩) 2 2, .slice (some ⟨gp, 0, none⟩) 2 2] from fun W hW => by subst hW; exact ⟨GraphAt.to (Holds_.go hbw) hG, balloc hb2 _, Blk.new _ _ _⟩)
  clear hG hb2 hM hbw
  go_upto_region 3 with fail
  generalize hW2 : w2.alloc _ = W2 at *
  have hgw := HGW.out W2 rfl
  have HGW := Lib.hid hgw
  have hbp : Blk W2 w1.heap.size 25 #[.string pn, (.slice Av 1 cv), (.slice Ar 1 cr)] := HPW.out.2.2.below hgw.2.1 HPW.out.2.2.lt
  obtain ⟨p0, p1, p2, pf⟩ := blk3 hbp
  obtain ⟨q0, q1, qf⟩ := blk2 hgw.2.2
  have n1 := hbp.lt
  have n2 := hgw.2.2.lt
  have HXB := Lib.hid (show Below X.heap.size X (awW W2) from (HPW.out.2.1.trans (hgw.2.1.mono HPW.out.2.1.size)).trans ((aw_below W2).mono (Nat.le_trans HPW.out.2.1.size hgw.2.1.size)))
  have HFO := Lib.hid (show ∀ W, W = awW W2 → Calls Tryz.prog 7 #[.agg #[.string pn, (.slice Av 1 cv), (.slice Ar 1 cr)], .agg #[.slice (some ⟨gi, 0, none⟩) 2 2, .slice (some ⟨gp, 0, none⟩) 2 2], .int .i64 1, .slice (some ⟨W2.heap.size + 1 + 1, 0, none⟩) 2 2, .slice (some ⟨W2.heap.size + 1 + 1 + 1, 0, none⟩) 2 2] W (RunPost ⟨colP, g2, c20, [1], 1, 2⟩ W) from fun W hW => by
    subst hW
    exact Follow_p ⟨colP, g2, c20, [1], 1, 2⟩ run20_ok ⟨by decide, by decide⟩ g2_light [3, 3] (by decide) rfl (by decide) fol20.symm _ (HTZ.out.below HXB.out HTZ.out.1) _ _ (ProgAt.to (Holds_.go (below_end (aw_below W2) hgw.2.1)) HPW.out.1) (GraphAt.to (Holds_.go (aw_below W2)) hgw.1) _ 2 (aw_conf W2) _ 2 (aw_u32 W2))
  clear hW2 hgw hbp HTZ
  go_wp2_with fail
  refine (HFO.out _ rfl).mono ?_
  rintro e w3 ⟨A1, c1, A2, c2, gb, rfl, -, -, hC, hb3⟩
  have HB3 := Lib.hid (show Below X.heap.size X w3 from HXB.out.trans (hb3.mono HXB.out.size))
  have hC' : ConfAt w3 w3.heap.size (.slice (some ⟨gb, 0, none⟩) 2 2) c21 := by
    have h := hC
    rw [show runC colP g2 c20 [1] = c21 from run20] at h
    exact h
  obtain ⟨ad, ae, ce, hA, hbd, d0, hbe, e0⟩ := cell_at hC' (v := 0) (x := 0) (show 0 < 2 by decide) (show 0 < 1 by decide)
  injection hA with hA
  subst hA
  obtain ⟨z1, z3, z4, hz⟩ := accA20
  have HZ := Lib.hid (show trV gb 2 (.slice A1 1 c1) (.slice A2 2 c2) (accA ⟨colP, g2, c20, [1], 1, 2⟩ 1) = .agg #[.slice A1 1 c1, .slice A2 2 c2, .slice (some ⟨gb, 0, none⟩) 2 2, .int .i64 1, .int .i64 z1, .int .i64 1, .int .i64 z3, .int .u32 z4] from by rw [hz]; rfl)
  have d0' : w3.cell? ⟨gb, 0, none⟩ = some (.slice (some ae) 1 ce) := d0
  have e0' : w3.cell? ae = some (.int .i64 1) := by
    have h := e0
    unfold Addr.add at h
    rw [if_pos rfl, show cellZ c21 0 ((0 : Nat) : Int) = 1 by decide] at h
    exact h
  dsimp only
  rw [show (⟨colP, g2, c20, [1], 1, 2⟩ : RunP).L.length = 1 from rfl, show (⟨colP, g2, c20, [1], 1, 2⟩ : RunP).c.length = 2 from rfl, HZ.out]
  have HW4 := Lib.hid (show Below X.heap.size X (w3.alloc (.cells #[.slice A1 1 c1, .slice A2 2 c2, .slice (some ⟨gb, 0, none⟩) 2 2, .int .i64 1, .int .i64 z1, .int .i64 1, .int .i64 z3, .int .u32 z4] 38)) from balloc HB3.out _)
  have hbd' : gb < w3.heap.size := hbd
  clear hC hC' d0 e0 HFO HPW HGW HXB p0 p1 p2 pf q0 q1 qf n1 n2 hb3 hbd hz HZ HB3
  go_wp2
  go_ret
  exact ⟨rfl, HW4.out⟩
#print axioms awake_ok
end Go.Proofs.YtdfklagiafmoiaaGreatDoor
