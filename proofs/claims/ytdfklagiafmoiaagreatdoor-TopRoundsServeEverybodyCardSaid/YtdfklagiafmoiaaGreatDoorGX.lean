/- Lemmas of this seat, laid together out of 3 texts: no statement of the seat is proved here. -/
import Derived.Test.YtdfklagiafmoiaaGreatDoorG38
import Derived.Test.YtdfklagiafmoiaaGreatDoorG39
/- Watching a run: what the shower writes down. -/
namespace Go.Proofs.YtdfklagiafmoiaaGreatDoor
open Go.RowKit

theorem Tryz.infoCfgs : (Tryz.prog.info? 30).map (fun i => (i.zero, i.size, i.bytes)) = some (some (.slice none 0 0), 1, 24) := by kernel_rfl
theorem Tryz.infoCount : (Tryz.prog.info? 36).map (fun i => (i.zero, i.size, i.bytes)) = some (some (.agg #[.int .i64 0, .int .i64 0, .int .i64 0, .int .i64 0, .int .u32 0]), 5, 40) := by kernel_rfl
theorem one_slc (A : Option Addr) (n c : Nat) : ∀ y ∈ [Value.slice A n c], y.oneCell' = true := by intro y hy; rw [List.mem_singleton] at hy; subst hy; rfl
theorem one_cnt (a b c d e : Int) : ∀ y ∈ [Value.int .i64 a, .int .i64 b, .int .i64 c, .int .i64 d, .int .u32 e], y.oneCell' = true := by intro y hy; simp only [List.mem_cons, List.not_mem_nil, or_false] at hy; rcases hy with rfl | rfl | rfl | rfl | rfl <;> rfl
variable (q : RunP)
/-- the counts written down -/
noncomputable def cntL (m : Nat) : List Value := (List.range m).flatMap fun k => (accA q k).toList
theorem cntL_succ (m : Nat) : cntL q (m + 1) = cntL q m ++ (accA q m).toList := by unfold cntL; rw [List.range_succ, List.flatMap_append]; simp
theorem cntL_len (m : Nat) : (cntL q m).length = m * 5 := by
  induction m with
  | zero => rfl
  | succ m ih =>
    rw [cntL_succ, List.length_append, ih]
    obtain ⟨z0, z1, z2, z3, z4, hz⟩ := accA_ex q m
    rw [hz]
    simp only [List.length_cons, List.length_nil]
    omega
def wL (B b1 b2 : Nat) (vC vK : Value) (i : Nat) (xs ys : List Value) (cs0 : List (Ch B)) : List (Ch B) :=
  cB B b1 47 #[vC] :: cB B b2 48 #[vK] :: cR B 30 1 vC i xs :: cR B 36 5 vK i ys :: cs0
def WJ (B b1 b2 : Nat) (cs0 : List (Ch B)) (i : Nat) (cs : List (Ch B)) : Prop := ∃ vC vK xs, cs = wL B b1 b2 vC vK i xs (cntL q i) cs0
set_option maxRecDepth 100000 in
set_option maxHeartbeats 8000000 in
theorem watch1_p (hR : RunOk q.p q.g q.c q.L q.kind) (w0 : World) (b1 b2 : Nat) (cs0 : List (Ch w0.heap.size)) : SeeOk q w0 26 [.pointer (some ⟨b1, 0, none⟩), .pointer (some ⟨b2, 0, none⟩)] (WJ q w0.heap.size b1 b2 cs0) := by
  rintro i l cs X gb hi ⟨vC, vK, xs, rfl⟩ hM hc
  have hM' := hM.perm List.perm_append_comm
  have hil : i ≤ 4096 := by have := hR.len; omega
  rw [accV_eq]
  obtain ⟨z0, z1, z2, z3, z4, hz⟩ := accA_ex q i
  have HYS := Lib.hid (show cntL q (i + 1) = cntL q i ++ [.int .i64 z0, .int .i64 z1, .int .i64 z2, .int .i64 z3, .int .u32 z4] from by rw [cntL_succ, hz])
  rw [hz]
  have hl : (Cx q.p q.g q.c q.L i).length = q.c.length := Cx_len hR i
  have hok := Cx_ok q.p q.g q.c q.L hR.ok i
  have hn24 : q.c.length ≤ 24 := by rw [hR.ok.len]; exact hR.ok.fit.gr.hi
  have HM1 := Lib.hid (hM'.new 36 #[.int .i64 z0, .int .i64 z1, .int .i64 z2, .int .i64 z3, .int .u32 z4])
  have HCP := Lib.hid (show ∀ Y, Below X.heap.size X Y → Calls Tryz.prog 27 #[.slice (some ⟨gb, 0, none⟩) q.c.length q.c.length] Y fun e w' => ∃ g', e = .returned (.slice (some ⟨g', 0, none⟩) q.c.length q.c.length) ∧ Below Y.heap.size Y w' from fun Y hY => by
    have := copy_p (Cx q.p q.g q.c q.L i) (by omega) (fun k hk => by
      obtain ⟨_, h1, -⟩ := hok.at_ k hk
      have := hok.fit.pg.vhi
      omega) (some ⟨gb, 0, none⟩) q.c.length Y (by rw [hl]; exact ConfAt.to (Holds_.go hY) hc)
    rw [hl] at this
    refine this.mono ?_
    rintro e w' ⟨g', vs', rfl, -, hb⟩
    exact ⟨g', by rw [hl], hb⟩)
  obtain ⟨n, hn⟩ : ∃ n, q.c.length = n := ⟨_, rfl⟩
  rw [hn] at HCP ⊢
  obtain ⟨ys, hys⟩ : ∃ ys, cntL q i = ys := ⟨_, rfl⟩
  rw [hys] at HM1 HYS
  obtain ⟨en, hen⟩ : ∃ en, Ex_ q.p q.g q.c q.L i = en := ⟨_, rfl⟩
  rw [hen]
  obtain ⟨A1, c1, rfl⟩ := own_sl (hM'.get 2 rfl)
  obtain ⟨A2, c2, rfl⟩ := own_sl (hM'.get 3 rfl)
  obtain ⟨j0, hj0, hy0, hy1, hy2⟩ := info_parts Tryz.infoCfgs
  obtain ⟨k0, hk0, hx0, hx1, hx2⟩ := info_parts Tryz.infoCount
  clear hM hM' hc hz hl hok hn24 hn hys hen hR hi
  unfold wL at HM1
  go_enter Tryz.func26, Tryz.ntmps26
  go_upto_region 1 with fail
  have HX1 := Lib.hid (show Below X.heap.size X (X.alloc (.cells #[.int .i64 z0, .int .i64 z1, .int .i64 z2, .int .i64 z3, .int .u32 z4] 36)) from balloc (Below.refl _ _) _)
  generalize World.alloc _ _ = X1 at *
  have hM1 := HM1.out
  have p0 : X1.cell? ⟨b1, 0, none⟩ = some (.slice A1 i c1) := (hM1.get 1 rfl).2.cell 0
  have pf := (hM1.get 1 rfl).2.frozen
  have pl : b1 < X1.heap.size := (hM1.get 1 rfl).2.lt
  clear hM1
  go_cut [7] (fun p wx => p = .pointer (some ⟨X.heap.size, 0, none⟩) ∧ ∃ A c xs', Mem w0 (cB w0.heap.size X.heap.size 36 #[.int .i64 z0, .int .i64 z1, .int .i64 z2, .int .i64 z3, .int .u32 z4] :: cB w0.heap.size b1 47 #[.slice A (i + 1) c] :: cB w0.heap.size b2 48 #[.slice A2 i c2] :: cR w0.heap.size 30 1 (.slice A (i + 1) c) (i + 1) xs' :: cR w0.heap.size 36 5 (.slice A2 i c2) i ys :: (cs0 ++ l)) wx)
  case first =>
    go_region_law (first
      | ((with_reducible refine step_append_any _ rfl (.tmp 8) (.tmp 11) 47 rfl w0.heap.size 30 j0 _ 1 24 Tryz.underlying47 hj0 hy0 hy1 hy2 rfl (by decide) (.slice A1 i c1) i xs rfl ?_ (x1.heap.size + 1) (some ⟨x1.heap.size, 0, none⟩) 1 1 [.slice (some ⟨g', 0, none⟩) n n] rfl ?_ ?_ ?_ ?_ ?_ ?_); exact (HM2.out.get 3 rfl).alloc _; exact reads_new1 _ _ _; exact one_slc _ _ _; exact len_ok (by omega); omega; (have := HM2.out.size; simp; omega); intro v1 x2 ho1 hg1 hv1; have HM3 := Lib.hid (HM2.out.app 3 rfl (grown_pre hg1) ho1 hv1 (by simp)); obtain ⟨A, c, rfl⟩ := own_sl ho1; have r0 : x2.cell? ⟨b1, 0, none⟩ = some (.slice A1 i c1) := (HM3.out.get 1 rfl).2.cell 0; have rf := (HM3.out.get 1 rfl).2.frozen; have rl : b1 < x2.heap.size := (HM3.out.get 1 rfl).2.lt; clear ho1 hg1 hv1)
      | (go_simp; go_at_call 27; (with_reducible refine (HCP.out _ (bdrw HX1.out)).mono ?_); rintro e x1 ⟨g', rfl, hb⟩; have hx1 : Below X1.heap.size X1 x1 := below_step hb (Below.drew (Below.refl _ _)); have HM2 := Lib.hid (HM1.out.below hx1); have q0 : x1.cell? ⟨b1, 0, none⟩ = some (.slice A1 i c1) := (HM2.out.get 1 rfl).2.cell 0; have qf := (HM2.out.get 1 rfl).2.frozen; have ql : b1 < x1.heap.size := (HM2.out.get 1 rfl).2.lt; clear hb hx1))
    all_goals
      go_wp2
      go_meet
      refine ⟨rfl, A, c, xs ++ [.slice (some ⟨g', 0, none⟩) n n], ?_⟩
      have h2 := HM3.out.set_ 1 rfl 0 (.slice A (i + 1) c) rfl
      have h3 := h2.drew
      first | exact h2 | exact h3
  case rest =>
    obtain ⟨rfl, A, c, xs', hM⟩ := hcut
    have HM4 := Lib.hid hM
    obtain ⟨t0, t1, t2, t3, t4, tf⟩ := blk5 (hM.get 0 rfl).2
    have p1 : wc.cell? ⟨b2, 0, none⟩ = some (.slice A2 i c2) := (hM.get 2 rfl).2.cell 0
    have pf1 := (hM.get 2 rfl).2.frozen
    have pl1 : b2 < wc.heap.size := (hM.get 2 rfl).2.lt
    have tl := (hM.get 0 rfl).2.lt
    have hsz := hM.size
    clear hM p0 pf pl HM1 HCP HX1
    go_wp2_with (at_builtin; refine wpList_append_any _ rfl (.tmp 13) (.tmp 15) 48 rfl w0.heap.size 36 k0 _ 5 40 Tryz.underlying48 hk0 hx0 hx1 hx2 rfl (by decide) (.slice A2 i c2) i ys rfl ((HM4.out.get 4 rfl).alloc _) (wc.heap.size + 1) (some ⟨wc.heap.size, 0, none⟩) 1 1 [.int .i64 z0, .int .i64 z1, .int .i64 z2, .int .i64 z3, .int .u32 z4] rfl (reads_blk (l := [.int .i64 z0, .int .i64 z1, .int .i64 z2, .int .i64 z3, .int .u32 z4]) (Blk.new _ _ _) (Nat.lt_succ_self _) rfl) (one_cnt _ _ _ _ _) (len_ok (by omega)) (by omega) (by rw [World.size_alloc]; omega) ?_; intro v1 x3 ho1 hg1 hv1; have HM5 := Lib.hid (HM4.out.app 4 rfl (grown_pre hg1) ho1 hv1 (by simp)); obtain ⟨B, d, rfl⟩ := own_sl ho1; have r0 : x3.cell? ⟨b2, 0, none⟩ = some (.slice A2 i c2) := (HM5.out.get 2 rfl).2.cell 0; have rf := (HM5.out.get 2 rfl).2.frozen; have rl : b2 < x3.heap.size := (HM5.out.get 2 rfl).2.lt; clear ho1 hg1 hv1)
    go_end0
    have hF : Mem w0 (wL w0.heap.size b1 b2 (.slice A (i + 1) c) (.slice B (i + 1) d) (i + 1) xs' (cntL q (i + 1)) cs0 ++ l) (x3.setCell ⟨b2, 0, none⟩ (.slice B (i + 1) d)) := by
      rw [HYS.out]
      exact (HM5.out.set_ 2 rfl 0 (.slice B (i + 1) d) rfl).erase 0
    exact ⟨⟨_, rfl⟩, _, ⟨_, _, _, rfl⟩, hF.perm List.perm_append_comm⟩
end Go.Proofs.YtdfklagiafmoiaaGreatDoor

/- Watch. -/
namespace Go.Proofs.YtdfklagiafmoiaaGreatDoor
open Go.RowKit

variable (q : RunP)
/-- what watching answers: as for the law, the counts -/
def WatchPost (w : World) (e : Ending) (w' : World) : Prop :=
  ∃ (vC : Value) (A : Option Addr) (c : Nat), e = .returned (.tuple #[vC, .slice A (q.L.length + 1) c, .int .i64 0]) ∧ Reads w' w'.heap.size 5 A (q.L.length + 1) (cntL q (q.L.length + 1)) ∧ Below w.heap.size w w'
set_option maxRecDepth 100000 in
set_option maxHeartbeats 16000000 in
theorem Watch_p (hR : RunOk q.p q.g q.c q.L q.kind) (hk : 1 ≤ q.kind ∧ q.kind ≤ 4) (hlg : LightG q.g) (ws : List Nat) (hln : ws.length ≤ 4096) (hlen : q.len = ws.length) (hws : ∀ x ∈ ws, x < 4294967296) (hq : q.L = folL q.p q.g q.kind q.c ws)
    (w : World) (htz : TzAt w) (vp vg : Value) (hP : ProgAt w w.heap.size vp q.p) (hG : GraphAt w w.heap.size vg q.g) (Ac : Option Addr) (capc : Nat) (hcf : ConfAt w w.heap.size (.slice Ac q.c.length capc) q.c) (Aw : Option Addr) (cw : Nat) (hw : U32At w w.heap.size (.slice Aw ws.length cw) ws) :
    Calls Tryz.prog 12 #[vp, vg, .int .i64 q.kind, .slice Ac q.c.length capc, .slice Aw ws.length cw] w (WatchPost q w) := by
  have HP := Lib.hid hP
  have HG := Lib.hid hG
  have HCF := Lib.hid hcf
  have HW := Lib.hid hw
  have HR := Lib.hid hR
  have HTZ := Lib.hid htz
  have HLG := Lib.hid hlg
  obtain ⟨vv, vr, rfl, -, -⟩ := hP
  obtain ⟨vi, vq, rfl, -, -⟩ := hG
  have hM := ((Mem.start w).new 25 #[.string q.p.name, vv, vr]).new 29 #[vi, vq]
  simp only [World.size_alloc] at hM
  have HM0 := Lib.hid hM
  have HCK := Lib.hid (fun (X : World) (hX : Below w.heap.size w X) => rcheck_p q.p q.g q.c hR.ok hlg q.kind hk ws.length hln (.agg #[.string q.p.name, vv, vr]) (.agg #[vi, vq]) Ac capc X (ProgAt.to (Holds_.go hX) HP.out) (GraphAt.to (Holds_.go hX) HG.out) (ConfAt.to (Holds_.go hX) hcf))
  have HNR := Lib.hid (fun (X : World) (hX : Below w.heap.size w X) (b1 b2 : Nat) => runner_p q.p q.g hR.ok.fit hlg q.kind (.func 26) #[.pointer (some ⟨b1, 0, none⟩), .pointer (some ⟨b2, 0, none⟩)] (.agg #[.string q.p.name, vv, vr]) (.agg #[vi, vq]) X w.heap.size hX.size (ProgAt.to ⟨Nat.le_refl _, fun p hp => hX.cell hp⟩ HP.out) (GraphAt.to ⟨Nat.le_refl _, fun p hp => hX.cell hp⟩ HG.out))
  have HFO := Lib.hid (fun (b1 b2 : Nat) (X Y : World) (hb0 : w.heap.size ≤ X.heap.size) (hbw : X.heap.size ≤ Y.heap.size) (cs0 : List (Ch w.heap.size)) (hMY : Mem w (cF w.heap.size X.heap.size hb0 Y :: wL w.heap.size b1 b2 (.slice none 0 0) (.slice none 0 0) 0 [] [] cs0) Y) (m bn : Nat) (hm : MoverOwn Y X.heap.size w.heap.size m q.p q.g) (hnet : NetOwn Y X.heap.size (.slice (some ⟨bn, 0, none⟩) (nets q.g).length (nets q.g).length) (nets q.g)) =>
    follow_p q hR ws hln hlen hws hq w X.heap.size hb0 Y hbw _ (WJ q w.heap.size b1 b2 cs0) ⟨_, _, _, rfl⟩ hMY m bn hm hnet htz 26 [.pointer (some ⟨b1, 0, none⟩), .pointer (some ⟨b2, 0, none⟩)] (watch1_p q hR w b1 b2 cs0) (enters_of Tryz.func26 (by kernel_rfl) rfl) Ac capc
      (ConfAt.to ⟨Nat.le_refl _, fun p hp => hMY.bel.cell hp⟩ hcf) Aw cw (U32At.to ⟨Nat.le_refl _, fun p hp => hMY.bel.cell hp⟩ hw))
  have HLN := Lib.hid hln
  clear hcf hw htz hM hR hk hlg hlen hws hq
  go_enter Tryz.func12, Tryz.ntmps12
  go_wp2_with fail
  refine (HCK.out _ HM0.out.bel).mono ?_
  rintro e w1 ⟨rfl, hb1⟩
  have HM1 := Lib.hid (HM0.out.below hb1)
  clear hb1 HM0
  obtain ⟨p0, p1, p2, pf⟩ := blk3 (HM1.out.get 1 rfl).2
  obtain ⟨q0, q1, qf⟩ := blk2 (HM1.out.get 0 rfl).2
  have hp1 : w.heap.size < w1.heap.size := (HM1.out.get 1 rfl).2.lt
  have hq1 : w.heap.size + 1 < w1.heap.size := (HM1.out.get 0 rfl).2.lt
  have hM2 := ((HM1.out.new 47 #[.slice none 0 0]).new 48 #[.slice none 0 0])
  simp only [World.size_alloc] at hM2
  have HM2 := Lib.hid hM2
  clear hM2
  go_wp2_with fail
  generalize World.alloc (World.alloc _ _) _ = W1 at *
  refine (HNR.out _ HM2.out.bel w1.heap.size (w1.heap.size + 1)).mono ?_
  rintro e w2 ⟨m, vn, rfl, hmo, hno, hb2⟩
  obtain ⟨bn, rfl, -⟩ := id hno
  have hML : Mem w (wL w.heap.size w1.heap.size (w1.heap.size + 1) (.slice none 0 0) (.slice none 0 0) 0 [] [] [cB w.heap.size (w.heap.size + 1) 29 #[vi, vq], cB w.heap.size w.heap.size 25 #[.string q.p.name, vv, vr]]) W1 :=
    ((HM2.out.nil_ 36 5).nil_ 30 1).perm ((List.Perm.append_right [_, _] (List.perm_append_comm (l₁ := [_, _]) (l₂ := [_, _]))).trans (List.Perm.swap _ _ _))
  have HML := Lib.hid hML
  clear hML
  have HMF := Lib.hid (HML.out.pushF hb2)
  have HB2 := Lib.hid hb2
  have HMO := Lib.hid hmo
  have HNO := Lib.hid hno
  clear hb2 hmo hno p0 p1 p2 pf q0 q1 qf hp1 hq1 HNR
  have HB3 := Lib.hid (show Below w2.heap.size w2 (w2.alloc (.cells #[.pointer (some ⟨m, 0, none⟩), .slice (some ⟨bn, 0, none⟩) (nets q.g).length (nets q.g).length, .int .i64 q.kind, .int .u32 (allSet q.g.ports.length), .func (.func 26) #[] #[.pointer (some ⟨w1.heap.size, 0, none⟩), .pointer (some ⟨w1.heap.size + 1, 0, none⟩)]] 66)) from balloc (Below.refl _ _) _)
  have HM3 := Lib.hid (HMF.out.growF HB3.out)
  have HK := Lib.hid (Kept2.below (B0 := w.heap.size) (base := W1.heap.size) HMF.out.size HB3.out)
  have HF := Lib.hid (HFO.out w1.heap.size (w1.heap.size + 1) W1 _ HM2.out.size (Nat.le_trans HB2.out.size HB3.out.size) _ HM3.out m bn (HMO.out.to HK.out) (HNO.out.same HK.out.hi))
  clear HK HM3 HB3 HMO HNO HMF HFO HM1 HM2
  go_wp2_with fail
  generalize World.alloc _ _ = W3 at *
  refine HF.out.mono ?_
  rintro e w4 ⟨gb, vs, vC, vE, cs1, rfl, -, ⟨vc, vk, xs, rfl⟩, hM4, -⟩
  obtain ⟨A2, c2, rfl⟩ := own_sl (hM4.get 0 rfl)
  obtain ⟨A1, c1, rfl⟩ := own_sl (hM4.get 1 rfl)
  obtain ⟨z0, z1, z2, z3, z4, hz⟩ := accA_ex q q.L.length
  have HZ := Lib.hid (show trV gb q.c.length (.slice A1 q.L.length c1) (.slice A2 (q.L.length + 1) c2) (accA q q.L.length) = .agg #[.slice A1 q.L.length c1, .slice A2 (q.L.length + 1) c2, .slice (some ⟨gb, 0, none⟩) q.c.length q.c.length, .int .i64 z0, .int .i64 z1, .int .i64 z2, .int .i64 z3, .int .u32 z4] from by rw [hz]; rfl)
  rw [HZ.out]
  obtain ⟨Ak, ck, rfl⟩ := own_sl (hM4.get 5 rfl)
  obtain ⟨Ac2, cc2, rfl⟩ := own_sl (hM4.get 4 rfl)
  have r0 : w4.cell? ⟨w1.heap.size, 0, none⟩ = some (.slice Ac2 (q.L.length + 1) cc2) := (hM4.get 2 rfl).2.cell 0
  have r1 : w4.cell? ⟨w1.heap.size + 1, 0, none⟩ = some (.slice Ak (q.L.length + 1) ck) := (hM4.get 3 rfl).2.cell 0
  have l0 : w1.heap.size < w4.heap.size := (hM4.get 2 rfl).2.lt
  have l1 : w1.heap.size + 1 < w4.heap.size := (hM4.get 3 rfl).2.lt
  have HM5 := Lib.hid (hM4.new 38 #[.slice A1 q.L.length c1, .slice A2 (q.L.length + 1) c2, .slice (some ⟨gb, 0, none⟩) q.c.length q.c.length, .int .i64 z0, .int .i64 z1, .int .i64 z2, .int .i64 z3, .int .u32 z4])
  clear hM4 hz HZ HF
  go_upto_region 10 with fail
  go_quiet (fail)
  go_wp2
  go_ret3
  have hF := HM5.out.drewN nq
  exact ⟨_, Ak, ck, rfl, Reads.of_own (hF.get 6 rfl), hF.bel⟩
end Go.Proofs.YtdfklagiafmoiaaGreatDoor

/- The walk of TopRoundsServeEverybody, behind awake's contract. -/
namespace Go.Proofs.YtdfklagiafmoiaaGreatDoor
open Go.RowKit

theorem cntL_get (q : RunP) : ∀ (m i j : Nat), i < m → j < 5 → (cntL q m)[i * 5 + j]? = (accA q i)[j]?
  | 0, i, j, hi, _ => absurd hi (Nat.not_lt_zero _)
  | m + 1, i, j, hi, hj => by
    rw [cntL_succ]
    by_cases h : i < m
    · rw [List.getElem?_append_left (by rw [cntL_len]; omega)]
      exact cntL_get q m i j h hj
    · obtain rfl : i = m := by omega
      rw [List.getElem?_append_right (by rw [cntL_len]; omega), cntL_len, show i * 5 + j - i * 5 = j by omega, Array.getElem?_toList]
theorem ts_st_succ (C E : List Nat) (k f r b : Nat) (h : Pl3.st C E k = (f, r, b)) :
    Pl3.st C E (k + 1) = if Pl3.pend C E f (k + 1 - f) = 0 then (k + 1, r + 1, if k = f then b + 1 else b) else (f, r, if k = f then b + 1 else b) := by
  simp only [Pl3.st, h]
theorem ts_served_succ (C E : List Nat) (f m : Nat) (h : f ≤ m) :
    Pl3.served C E f (m + 1 - f) = Pl3.served C E f (m - f) ||| (C.getD m 0 ||| (4294967295 - E.getD (m + 1) 0)) := by
  rw [show m + 1 - f = (m - f) + 1 from by omega, Pl3.served, show f + (m - f) = m from by omega]
theorem ts_or_not (x y z : Nat) (hx : x < 16777216) (hy : y < 16777216) (hz : z < 4294967296) :
    bits .or .u32 (z : Int) (bits .or .u32 (x : Int) (bits .xor .u32 (if IntKind.u32.signed = true then -1 else IntKind.u32.max) (y : Int))) = ((z ||| (x ||| (4294967295 - y)) : Nat) : Int) := by
  have e0 : (if IntKind.u32.signed = true then -1 else IntKind.u32.max) = ((4294967295 : Nat) : Int) := by decide
  have e1 : 4294967295 ^^^ y = 4294967295 - y := by
    apply Nat.eq_of_testBit_eq
    intro i
    rw [Pl3.testBit_not y i (by omega), Nat.testBit_xor, show (4294967295 : Nat) = 4294967295 - 0 from rfl, Pl3.testBit_not 0 i (by decide)]
    by_cases hi : i < 32
    · simp [hi]
    · have : y.testBit i = false := by
        cases hb : y.testBit i
        · rfl
        · exact absurd (Pl3.lt32 y i (by omega) hb) hi
      simp [hi, this]
  rw [e0, u32_xor_nat _ _ (by decide) (by omega), e1, u32_or_nat _ _ (by omega) (by omega), u32_or_nat _ _ hz (Nat.or_lt_two_pow (n := 32) (by omega) (by omega))]
/-- what the law reads of a run -/
structure TsRd (W : World) (n : Nat) (C E : List Nat) (A1 A2 Ak : Option Addr) : Prop where
  c : ∀ i, i < n → ∃ ad, A1 = some ad ∧ ad.block < W.heap.size ∧ W.cell? (ad.add i) = some (.int .u32 (C.getD i 0 : Nat))
  e : ∀ i, i < n + 1 → ∃ ad, A2 = some ad ∧ ad.block < W.heap.size ∧ W.cell? (ad.add i) = some (.int .u32 (E.getD i 0 : Nat))
  k : ∀ i, i < n + 1 → ∃ ad, Ak = some ad ∧ ad.block < W.heap.size ∧ W.cell? ⟨(ad.add (i * 5)).block, (ad.add (i * 5)).off + 2, none⟩ = some (.int .i64 ((Pl3.acc C E i).1 : Nat))
  cl : ∀ i, C.getD i 0 < 16777216
  el : ∀ i, E.getD i 0 < 16777216
theorem ts_rd (q : RunP) (hR : RunOk q.p q.g q.c q.L q.kind) {w2 W : World} (hb : Below w2.heap.size w2 W) {A1 A2 Ak : Option Addr} {c1 c2 : Nat} (h1 : U32At w2 w2.heap.size (.slice A1 q.L.length c1) q.L) (h2 : U32At w2 w2.heap.size (.slice A2 (q.L.length + 1) c2) (EL q.p q.g q.c q.L (q.L.length + 1)))
    (h3 : Reads W W.heap.size 5 Ak (q.L.length + 1) (cntL q (q.L.length + 1))) : TsRd W q.L.length q.L (EL q.p q.g q.c q.L (q.L.length + 1)) A1 A2 Ak := by
  refine ⟨fun i hi => ?_, fun i hi => ?_, fun i hi => ?_, fun i => ?_, fun i => ?_⟩
  · obtain ⟨ad, e, hb, hc⟩ := u32_at (U32At.to (Holds_.go hb) h1) hi
    refine ⟨ad, e, hb, ?_⟩
    rw [hc, List.getD_eq_getElem?_getD, List.getElem?_eq_getElem hi]; rfl
  · have hl : (EL q.p q.g q.c q.L (q.L.length + 1)).length = q.L.length + 1 := by unfold EL; simp
    have h2' : U32At W W.heap.size (.slice A2 (EL q.p q.g q.c q.L (q.L.length + 1)).length c2) (EL q.p q.g q.c q.L (q.L.length + 1)) := by rw [hl]; exact U32At.to (Holds_.go hb) h2
    obtain ⟨ad, e, hb, hc⟩ := u32_at h2' (show i < _ by rw [hl]; exact hi)
    refine ⟨ad, e, hb, ?_⟩
    rw [hc, List.getD_eq_getElem?_getD, List.getElem?_eq_getElem (by rw [hl]; exact hi)]; rfl
  · obtain ⟨ad, e, hb, hc⟩ := h3.2 (by omega)
    refine ⟨ad, e, hb, ?_⟩
    have := hc (i * 5 + 2) (.int .i64 ((Pl3.acc q.L (EL q.p q.g q.c q.L (q.L.length + 1)) i).1 : Nat)) (by rw [cntL_get q _ i 2 hi (by decide)]; rfl)
    rw [← add_of_add] at this
    exact this
  · by_cases hi : i < q.L.length
    · obtain ⟨-, h, -⟩ := hR.set hi
      rw [List.getD_eq_getElem?_getD, List.getElem?_eq_getElem hi]
      exact h
    · rw [List.getD_eq_getElem?_getD, List.getElem?_eq_none (by omega)]; decide
  · by_cases hi : i < q.L.length + 1
    · rw [EL_get q.p q.g q.c q.L hi]; exact hR.en_lt i
    · rw [List.getD_eq_getElem?_getD, List.getElem?_eq_none (by unfold EL; simp; omega)]; decide
set_option maxRecDepth 100000 in
set_option maxHeartbeats 16000000 in
theorem ts_law (haw : AwakeOk) (p : Pg) (g : Gr) (c : Cfg) (hz : Sized p g) (hc0 : c.length ≤ 9223372036854775807) (ws : List Nat) (hws : ∀ x ∈ ws, x < 4294967296) (hm : ws.length ≤ 9223372036854775807) (kind : Int) (hkd : -9223372036854775808 ≤ kind ∧ kind ≤ 9223372036854775807) (vp vg : Value) (Ac : Option Addr) (cc : Nat) (Aw : Option Addr) (cw : Nat) (w : World) (htz : TzAt w)
    (hP : ProgAt w w.heap.size vp p) (hG : GraphAt w w.heap.size vg g) (hC : ConfAt w w.heap.size (.slice Ac c.length cc) c) (hW : U32At w w.heap.size (.slice Aw ws.length cw) ws) :
    Calls Tryz.prog 4 #[vp, vg, .int .i64 kind, .slice Ac c.length cc, .slice Aw ws.length cw] w fun e w' => e = .returned (.bool true) ∧ Below w.heap.size w w' := by
  have HP := Lib.hid hP
  have HG := Lib.hid hG
  have HC := Lib.hid hC
  have HW := Lib.hid hW
  have HAW := Lib.hid haw
  have HTZ := Lib.hid htz
  have HWS := Lib.hid hws
  obtain ⟨vv, vr, rfl, -, -⟩ := hP
  obtain ⟨vi, vq, rfl, -, -⟩ := hG
  have HF := Lib.hid (fun (X : World) (hX : Below w.heap.size w X) => fair_l p g c hz hc0 (ws.length : Int) (.agg #[.string p.name, vv, vr]) (.agg #[vi, vq]) Ac cc X (ProgAt.to (Holds_.go hX) HP.out) (GraphAt.to (Holds_.go hX) HG.out) (ConfAt.to (Holds_.go hX) HC.out))
  have HMO := Lib.hid (fun (X : World) => mod4_r kind hkd X)
  have hM := ((Mem.start w).new 25 #[.string p.name, vv, vr]).new 29 #[vi, vq]
  simp only [World.size_alloc] at hM
  have HM0 := Lib.hid hM
  clear hM hC hW haw htz hws hz hkd
  go_enter Tryz.func4, Tryz.ntmps4
  go_wp2_with fail
  refine (HF.out _ HM0.out.bel).mono ?_
  rintro e w1 ⟨b, rfl, hb, hb1⟩
  have HM1 := Lib.hid (HM0.out.below hb1)
  clear hb1 HM0 HF
  obtain ⟨p0, p1, p2, pf⟩ := blk3 (HM1.out.get 1 rfl).2
  obtain ⟨q0, q1, qf⟩ := blk2 (HM1.out.get 0 rfl).2
  cases b
  · clear hb
    go_wp2_with fail
    refine (HAW.out _ (HTZ.out.below HM1.out.bel HTZ.out.1)).mono ?_
    rintro e w2 ⟨rfl, hb2⟩
    have HB := Lib.hid (HM1.out.below hb2).bel
    clear p0 p1 p2 pf q0 q1 qf hb2
    go_wp2
    go_ret
    exact ⟨rfl, HB.out⟩
  · have hfo := hb rfl
    have hn40 : ws.length ≤ 40 := by have := hfo.n; omega
    have HFO := Lib.hid hfo
    have HF1 := Lib.hid (fun (k : Int) (hk : 1 ≤ k ∧ k ≤ 4) (X : World) (hX : Below w.heap.size w X) => Follow_p ⟨p, g, c, folL p g k c ws, k, ws.length⟩ (run_ok hfo.cf k ws (by omega)) hk hfo.lg ws (by omega) rfl HWS.out rfl X (HTZ.out.below hX HTZ.out.1) (.agg #[.string p.name, vv, vr]) (.agg #[vi, vq]) (ProgAt.to (Holds_.go hX) HP.out) (GraphAt.to (Holds_.go hX) HG.out) Ac cc (ConfAt.to (Holds_.go hX) HC.out) Aw cw (U32At.to (Holds_.go hX) HW.out))
    have HF2 := Lib.hid (fun (k : Int) (hk : 1 ≤ k ∧ k ≤ 4) (X : World) (hX : Below w.heap.size w X) => Watch_p ⟨p, g, c, folL p g k c ws, k, ws.length⟩ (run_ok hfo.cf k ws (by omega)) hk hfo.lg ws (by omega) rfl HWS.out rfl X (HTZ.out.below hX HTZ.out.1) (.agg #[.string p.name, vv, vr]) (.agg #[vi, vq]) (ProgAt.to (Holds_.go hX) HP.out) (GraphAt.to (Holds_.go hX) HG.out) Ac cc (ConfAt.to (Holds_.go hX) HC.out) Aw cw (U32At.to (Holds_.go hX) HW.out))
    have HRK := Lib.hid (fun (k : Int) => run_ok hfo.cf k ws (by omega))
    have HLL := Lib.hid (fun (k : Int) => show (folL p g k c ws).length ≤ 40 from Nat.le_trans (folL_good k ws hfo.cf).2.2 hn40)
    clear hb hfo hn40
    go_wp2_with fail
    refine (HMO.out _).mono ?_
    rintro e w' ⟨⟨r, rfl, hr0, hr3⟩, rfl⟩
    have wr1 := IntWalk.i64_in (1 + r) (by omega)
    obtain ⟨k, hk⟩ : ∃ k, 1 + r = k := ⟨_, rfl⟩
    have HKK := Lib.hid (show 1 ≤ k ∧ k ≤ 4 by omega)
    rw [hk] at wr1
    have HFk := Lib.hid (HF1.out k HKK.out)
    have HWk := Lib.hid (HF2.out k HKK.out)
    have hRk := HRK.out k
    have hLk := HLL.out k
    obtain ⟨L, hL⟩ : ∃ L, folL p g k c ws = L := ⟨_, rfl⟩
    rw [hL] at HFk HWk hRk hLk
    have HR := Lib.hid hRk
    clear hL hRk HF1 HF2 HRK HLL HMO hr0 hr3
    go_wp2_with fail
    refine (HFk.out _ HM1.out.bel).mono ?_
    rintro e w2 ⟨A1, c1, A2, c2, gb, rfl, hC1, hC2, -, hb2⟩
    dsimp only at hC1 hC2 ⊢
    obtain ⟨z0, z1, z2, z3, z4, hz⟩ := accA_ex ⟨p, g, c, L, k, ws.length⟩ L.length
    have HZ := Lib.hid (show trV gb c.length (.slice A1 L.length c1) (.slice A2 (L.length + 1) c2) (accA ⟨p, g, c, L, k, ws.length⟩ L.length) = .agg #[.slice A1 L.length c1, .slice A2 (L.length + 1) c2, .slice (some ⟨gb, 0, none⟩) c.length c.length, .int .i64 z0, .int .i64 z1, .int .i64 z2, .int .i64 z3, .int .u32 z4] from by rw [hz]; rfl)
    rw [HZ.out]
    have HC1 := Lib.hid hC1
    have HC2 := Lib.hid hC2
    have HM2 := Lib.hid ((HM1.out.below hb2).new 38 #[.slice A1 L.length c1, .slice A2 (L.length + 1) c2, .slice (some ⟨gb, 0, none⟩) c.length c.length, .int .i64 z0, .int .i64 z1, .int .i64 z2, .int .i64 z3, .int .u32 z4])
    have HB2 := Lib.hid (show Below w2.heap.size w2 (w2.alloc (.cells #[.slice A1 L.length c1, .slice A2 (L.length + 1) c2, .slice (some ⟨gb, 0, none⟩) c.length c.length, .int .i64 z0, .int .i64 z1, .int .i64 z2, .int .i64 z3, .int .u32 z4] 38)) from balloc (Below.refl _ _) _)
    clear hC1 hC2 hz HZ hb2 HFk HM1 p0 p1 p2 pf q0 q1 qf
    obtain ⟨p0, p1, p2, pf⟩ := blk3 (HM2.out.get 2 rfl).2
    obtain ⟨q0, q1, qf⟩ := blk2 (HM2.out.get 1 rfl).2
    go_upto_region 5 with fail
    generalize World.alloc _ _ = W2 at *
    go_wp2_with fail
    refine (HWk.out _ HM2.out.bel).mono ?_
    rintro e W ⟨vC, Ak, ck, rfl, hK, hb3⟩
    dsimp only at hK ⊢
    have hrd := ts_rd ⟨p, g, c, L, k, ws.length⟩ HR.out (below_end hb3 HB2.out) HC1.out HC2.out hK
    dsimp only at hrd
    have HMW := Lib.hid (HM2.out.below hb3)
    obtain ⟨E, hE⟩ : ∃ E, EL p g c L (L.length + 1) = E := ⟨_, rfl⟩
    rw [hE] at hrd
    obtain ⟨n, hn⟩ : ∃ n, L.length = n := ⟨_, rfl⟩
    rw [hn] at hrd hLk
    have HRD := Lib.hid hrd
    have HN := Lib.hid hLk
    rw [hn]
    have HT : Hid (Blk W w2.heap.size 38 #[.slice A1 n c1, .slice A2 (n + 1) c2, .slice (some ⟨gb, 0, none⟩) c.length c.length, .int .i64 z0, .int .i64 z1, .int .i64 z2, .int .i64 z3, .int .u32 z4]) := by
      have := (HMW.out.get 0 rfl).2
      rw [hn] at this
      exact Lib.hid this
    have HBW := Lib.hid HMW.out.bel
    obtain ⟨t0, t1, t2, t3, t4, t5, t6, t7, tf⟩ := blk8 HT.out
    have tl := HT.out.lt
    have w3 := IntWalk.i64_in ((n : Int) + 1) (by omega)
    clear hrd hK hb3 hE HMW HM2 HB2 HWk p0 p1 p2 pf q0 q1 qf HC1 HC2 hn hLk HR
    clear t2 t3 t4 t5 t6 t7
    go_wp2_with fail
    go_loopw [16, 17] (fun fr i wr => ∃ j d : Nat, j ≤ n ∧ i = .int .i64 ((j + 1 : Nat) : Int) ∧ fr = .int .i64 (Pl3.st L E j).1 ∧ wr = W.drewN d) (fun _ i _ => n + 1 - (intOf i).toNat)
    case atStart => exact ⟨0, 0, Nat.zero_le _, rfl, rfl, rfl⟩
    case round =>
      obtain ⟨j, d, hj, rfl, rfl, rfl⟩ := hrel
      by_cases hlt : j < n
      · obtain ⟨hf1, hf2, hf3⟩ := Pl3.st_le L E j
        have hacc := (Pl3.acc_st L E j).1
        have hacc1 := (Pl3.acc_st L E (j + 1)).1
        generalize hst : Pl3.st L E j = s0 at *
        obtain ⟨f, r0, b0⟩ := s0
        have HST := Lib.hid (ts_st_succ L E j f r0 b0 hst)
        clear hst
        dsimp only at *
        obtain ⟨I, hI⟩ : ∃ I, j + 1 = I := ⟨_, rfl⟩
        rw [hI] at hacc1 HST
        rw [hI]
        have HI := Lib.hid hI
        have i0 : (I : Int) < (n : Int) + 1 := by omega
        have i1 : (I : Int) - 1 = (j : Int) := by omega
        have i2 := IntWalk.i64_in (j : Int) (by have := HN.out; omega)
        have i3 := IntWalk.i64_in ((I : Int) + 1) (by have := HN.out; omega)
        have i4 : (j : Int) < (n : Int) + 1 := by omega
        have i5 : (0 : Int) ≤ (j : Int) := by omega
        have i6 : (0 : Int) ≤ (I : Int) := by omega
        have HACC := Lib.hid hacc
        have HACC1 := Lib.hid hacc1
        have HLT := Lib.hid hlt
        clear hI hacc hacc1 hlt hj hf2 hf3
        go_wp2_with fail
        go_loopw [18, 19] (fun sv i wr => ∃ m e : Nat, f ≤ m ∧ m ≤ I ∧ i = .int .i64 (m : Nat) ∧ sv = .int .u32 (Pl3.served L E f (m - f)) ∧ wr = W.drewN e) (fun _ i _ => I - (intOf i).toNat)
        case atStart => exact ⟨f, d, Nat.le_refl _, by have := HI.out; omega, rfl, by simp [Pl3.served], rfl⟩
        case round =>
          obtain ⟨m, e, hm1, hm2, rfl, rfl, rfl⟩ := hrel
          by_cases hmk : m < I
          · have hmn : m < n := by have := HI.out; have := HLT.out; omega
            obtain ⟨ad1, hA1, hbl1, cc1⟩ := HRD.out.c m hmn
            obtain ⟨ad2, hA2, hbl2, cc2⟩ := HRD.out.e (m + 1) (by omega)
            subst hA1 hA2
            have m0 : (0 : Int) ≤ (m : Int) := by omega
            have m1 : (m : Int) < (n : Int) := by omega
            have m2 : (m : Int) + 1 < (n : Int) + 1 := by omega
            have m3 := IntWalk.i64_in ((m : Int) + 1) (by have := HN.out; omega)
            have m4 : (0 : Int) ≤ (m : Int) + 1 := by omega
            have m5 : ((m : Int) + 1).toNat = m + 1 := by omega
            have m7 : (m : Int) < (I : Int) := by omega
            have cl := HRD.out.cl m
            have el := HRD.out.el (m + 1)
            have sl := Pl3.served_lt L E (fun i => Nat.lt_trans (HRD.out.cl i) (by decide)) f (m - f)
            have HSV := Lib.hid (ts_served_succ L E f m hm1)
            generalize L.getD m 0 = x at *
            generalize E.getD (m + 1) 0 = y at *
            generalize Pl3.served L E f (m - f) = z at *
            have cc3 : W.cell? ⟨ad2.block, ad2.off + (m + 1), none⟩ = some (.int .u32 (y : Int)) := by rw [← cc2]; rfl
            go_wp2_with fail
            go_quiet (fail)
            go_wp2
            refine ⟨⟨m + 1, e + nq, by omega, by omega, by go_num, ?_, rfl⟩, by simp [intOf]; omega⟩
            rw [HSV.out, ts_or_not x y z cl el sl]
          · obtain rfl : m = I := by omega
            have hmn : m ≤ n := by omega
            obtain ⟨ad2, hA2, hbl2, cc2⟩ := HRD.out.e f (by omega)
            obtain ⟨ak, hAk, hbk, ck1⟩ := HRD.out.k m (by omega)
            obtain ⟨ak', hAk', -, ck0⟩ := HRD.out.k j (by omega)
            subst hA2 hAk
            injection hAk' with hAk'
            subst hAk'
            have m0 : (0 : Int) ≤ (f : Int) := by omega
            have m2 : (f : Int) < (n : Int) + 1 := by omega
            have m3 : ¬ (m : Int) < (m : Int) := by omega
            have el := HRD.out.el f
            have sl := Pl3.served_lt L E (fun i => Nat.lt_trans (HRD.out.cl i) (by decide)) f (m - f)
            have HP := Lib.hid (Pl3.pend_served L E (fun i => Nat.lt_trans (HRD.out.cl i) (by decide)) (fun i => Nat.lt_trans (HRD.out.el i) (by decide)) f (m - f))
            generalize Pl3.served L E f (m - f) = z at *
            generalize E.getD f 0 = y at *
            have ea := u32_andNot_nat y z (by omega) sl
            rw [HACC.out] at ck0
            rw [HACC1.out] at ck1
            by_cases hz : y &&& (4294967295 - z) = 0
            · have hst1 := HST.out
              rw [HP.out, if_pos hz] at hst1
              rw [hst1] at ck1
              have HS1 := Lib.hid hst1
              dsimp only at ck1
              obtain ⟨R1, hR1⟩ : ∃ R1, r0 + 1 = R1 := ⟨_, rfl⟩
              rw [hR1] at ck1
              have hgt : (r0 : Int) < (R1 : Int) := by omega
              clear hst1 hR1 HACC HACC1 HST HP
              generalize y &&& (4294967295 - z) = q at *
              subst hz
              go_wp2_with fail
              go_quiet (fail)
              go_wp2
              refine ⟨⟨m, e + nq, hmn, by go_num, by rw [HS1.out], rfl⟩, by simp [intOf]; omega⟩
            · have hst1 := HST.out
              rw [HP.out, if_neg hz] at hst1
              rw [hst1] at ck1
              have HS1 := Lib.hid hst1
              dsimp only at ck1
              clear hst1 HACC HACC1 HST HP
              generalize y &&& (4294967295 - z) = q at *
              have hq : ((q : Int) == 0) = false := beq_eq_false_iff_ne.2 (by omega)
              go_wp2_with fail
              go_quiet (fail)
              go_wp2
              refine ⟨⟨m, e + nq, hmn, by go_num, by rw [HS1.out], rfl⟩, by simp [intOf]; omega⟩
      · obtain rfl : j = n := by omega
        have j1 : ¬ (j : Int) + 1 < (j : Int) + 1 := by omega
        go_wp2_with fail
        refine (HAW.out _ (HTZ.out.below (below_drewN HBW.out d) HTZ.out.1)).mono ?_
        rintro e w5 ⟨rfl, hb5⟩
        have HB5 := Lib.hid (below_end hb5 (below_drewN HBW.out d))
        clear hb5
        go_wp2
        go_ret
        exact ⟨rfl, HB5.out⟩
end Go.Proofs.YtdfklagiafmoiaaGreatDoor
