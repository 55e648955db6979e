/- Lemmas of this seat, laid together out of 3 texts: no statement of the seat is proved here. -/
import Derived.Test.YtdfklagiafmoiaaGreatDoorG37
/- What a run is told: wishes, schedules; nobody looks. -/
namespace Go.Proofs.YtdfklagiafmoiaaGreatDoor
open Go.RowKit

theorem Mem.growF {w0 w w' : World} {base : Nat} {hb0 : w0.heap.size ≤ base} {cs : List (Ch w0.heap.size)} (h : Mem w0 (cF w0.heap.size base hb0 w :: cs) w) (hb : Below w.heap.size w w') : Mem w0 (cF w0.heap.size base hb0 w' :: cs) w' := by
  have h' := h.below hb
  refine ⟨h'.1, fun d hd => ?_, ?_⟩
  · rcases List.mem_cons.1 hd with rfl | hd
    · exact Same.refl _ _
    · exact h'.2.1 d (List.mem_cons_of_mem _ hd)
  · have hp := List.pairwise_cons.1 h.2.2
    refine List.pairwise_cons.2 ⟨fun d hd g h1 h2 => ?_, hp.2⟩
    have h3 := (d.low (h.2.1 d (List.mem_cons_of_mem _ hd)) h2).2
    exact hp.1 d hd g ⟨h1.1, h3⟩ h2
theorem folL_at {p : Pg} {g : Gr} {kind : Int} : ∀ (ws : List Nat) (c : Cfg) (i : Nat), i ≤ (folL p g kind c ws).length → ∀ hi : i < ws.length,
    (i < (folL p g kind c ws).length ↔ enS p g (runC p g c ((folL p g kind c ws).take i)) ≠ 0) ∧ ∀ h : i < (folL p g kind c ws).length, (folL p g kind c ws)[i] = resZ g kind (enS p g (runC p g c ((folL p g kind c ws).take i))) ws[i]
  | [], c, i, _, hi => absurd hi (Nat.not_lt_zero _)
  | w :: ws, c, i, hl, hi => by
    by_cases h0 : enS p g c = 0
    · have e : folL p g kind c (w :: ws) = [] := by unfold folL; rw [if_pos h0]
      rw [e] at hl ⊢
      have : i = 0 := Nat.le_zero.1 hl
      subst this
      exact ⟨⟨fun h => absurd h (Nat.not_lt_zero _), fun h => absurd h0 h⟩, fun h => absurd h (Nat.not_lt_zero _)⟩
    · have e : folL p g kind c (w :: ws) = resZ g kind (enS p g c) w :: folL p g kind (stepC p g c (resZ g kind (enS p g c) w)) ws := by conv => lhs; unfold folL; rw [if_neg h0]
      rw [e] at hl ⊢
      cases i with
      | zero => exact ⟨⟨fun _ => h0, fun _ => Nat.zero_lt_succ _⟩, fun _ => rfl⟩
      | succ i =>
        have ih := folL_at ws (stepC p g c (resZ g kind (enS p g c) w)) i (by simpa using hl) (by simpa using hi)
        exact ⟨⟨fun h => ih.1.1 (by simpa using h), fun h => by have := ih.1.2 h; simpa using this⟩, fun h => ih.2 (by simpa using h)⟩
theorem ignore_ok (q : RunP) (w0 : World) (cs0 : List (Ch w0.heap.size)) : SeeOk q w0 22 [] (fun _ cs => cs = cs0) := by
  rintro i l cs X gb hi rfl hM -
  rw [accV_eq]
  obtain ⟨z0, z1, z2, z3, z4, hz⟩ := accA_ex q i
  rw [hz]
  have HM := Lib.hid (hM.alloc (.cells #[.int .i64 z0, .int .i64 z1, .int .i64 z2, .int .i64 z3, .int .u32 z4] 36))
  clear hM hz
  go_enter Tryz.func22, Tryz.ntmps22
  go_wp2
  go_end0
  exact ⟨⟨_, rfl⟩, _, rfl, HM.out⟩
set_option maxRecDepth 100000 in
set_option maxHeartbeats 4000000 in
theorem follow1_p (g : Gr) (hg : GrOk g) (kind : Int) (en : Nat) (hen : ∀ i, en.testBit i = true → i < g.ports.length) (ws : List Nat) (hws : ∀ x ∈ ws, x < 4294967296) (_hln : ws.length ≤ 4096) (i : Nat) (hi : i < ws.length) (rb wb : Nat) (bn : Nat) (Aw : Option Addr) (cw : Nat) (X : World) (hrb : rb < X.heap.size) (hwb : wb < X.heap.size)
    (h1 : X.cell? ⟨rb, 1, none⟩ = some (.slice (some ⟨bn, 0, none⟩) (nets g).length (nets g).length)) (h2 : X.cell? ⟨rb, 2, none⟩ = some (.int .i64 kind)) (h3 : X.cell? ⟨wb, 0, none⟩ = some (.slice Aw ws.length cw))
    (ht : TzAt X) (hn : U32At X X.heap.size (.slice (some ⟨bn, 0, none⟩) (nets g).length (nets g).length) (nets g)) (hw : U32At X X.heap.size (.slice Aw ws.length cw) ws) :
    Calls Tryz.prog 43 #[.int .i64 (i : Int), .int .u32 (en : Int), .pointer (some ⟨rb, 0, none⟩), .pointer (some ⟨wb, 0, none⟩)] X fun e w' => e = .returned (.tuple #[.int .u32 (resZ g kind en ws[i] : Nat), .bool (en != 0)]) ∧ Below X.heap.size X w' := by
  obtain ⟨ad, hA, hb, d0⟩ := u32_at hw hi
  subst hA
  have hbe : (ad.add i).block < X.heap.size := by rw [block_of_add]; exact hb
  have HR := Lib.hid (show ∀ Y, Below X.heap.size X Y → Calls Tryz.prog 44 #[.slice (some ⟨bn, 0, none⟩) (nets g).length (nets g).length, .int .i64 kind, .int .u32 (en : Int), .int .u32 (ws[i] : Nat)] Y fun e w' => e = .returned (.int .u32 (resZ g kind en ws[i])) ∧ Below Y.heap.size Y w' from fun Y hY =>
    resolve_p g hg kind en ws[i] hen (hws _ (List.getElem_mem hi)) _ _ Y (ht.below hY ht.1) (U32At.to (Holds_.go hY) hn))
  obtain ⟨wi, hwi⟩ : ∃ wi, ws[i] = wi := ⟨_, rfl⟩
  rw [hwi] at HR d0 ⊢
  obtain ⟨R, hRz⟩ : ∃ R, resZ g kind en wi = R := ⟨_, rfl⟩
  rw [hRz] at HR ⊢
  obtain ⟨n, hnn⟩ : ∃ n, ws.length = n := ⟨_, rfl⟩
  rw [hnn] at h3 hi
  have i0 : (0 : Int) ≤ (i : Int) := by omega
  have i1 : (i : Int) < (n : Int) := by omega
  have HNE := Lib.hid (show ((en : Int) != 0) = (en != 0) from by cases en <;> rfl)
  clear ht hn hw hg hen hws hwi hRz _hln hnn
  go_enter Tryz.func43, Tryz.ntmps43
  go_upto_region 1 with fail
  have rule := below_rule X
  have rule2 := below_addr X
  go_region_held3 (fun Y => Below X.heap.size X Y) (first | with_reducible exact Below.refl _ _ | with_reducible exact Below.drew (Below.refl _ _) | with_reducible assumption | exact below_step (by assumption) (by assumption))
    (first | (go_at_call 44; refine (HR.out _ (Below.drew (Below.refl _ _))).mono ?_; rintro e w2 ⟨rfl, hb2⟩; have hx2 : Below X.heap.size X w2 := below_step hb2 (Below.drew (Below.refl _ _))))
  have HX := Lib.hid hx2
  clear rule rule2 hb2 hx2
  go_wp2
  go_ret2
  exact ⟨by rw [← HNE.out]; rfl, HX.out⟩
set_option maxRecDepth 100000 in
set_option maxHeartbeats 4000000 in
theorem play1_p (ws : List Nat) (_hln : ws.length ≤ 4096) (i : Nat) (hi : i < ws.length) (en : Int) (wb : Nat) (Aw : Option Addr) (cw : Nat) (X : World) (_hwb : wb < X.heap.size)
    (h3 : X.cell? ⟨wb, 0, none⟩ = some (.slice Aw ws.length cw)) (hw : U32At X X.heap.size (.slice Aw ws.length cw) ws) :
    Calls Tryz.prog 45 #[.int .i64 (i : Int), .int .u32 en, .pointer (some ⟨wb, 0, none⟩)] X fun e w' => e = .returned (.tuple #[.int .u32 (ws[i] : Nat), .bool true]) ∧ X = w' := by
  obtain ⟨ad, hA, hb, d0⟩ := u32_at hw hi
  subst hA
  obtain ⟨wi, hwi⟩ : ∃ wi, ws[i] = wi := ⟨_, rfl⟩
  rw [hwi] at d0 ⊢
  obtain ⟨n, hnn⟩ : ∃ n, ws.length = n := ⟨_, rfl⟩
  rw [hnn] at h3 hi
  have i0 : (0 : Int) ≤ (i : Int) := by omega
  have i1 : (i : Int) < (n : Int) := by omega
  clear hw hwi _hln hnn
  go_enter Tryz.func45, Tryz.ntmps45
  go_wp2
  go_ret2
  exact ⟨rfl, rfl⟩
end Go.Proofs.YtdfklagiafmoiaaGreatDoor

/- The runner's methods: follow, play. (Printed by genX91.py.) -/
namespace Go.Proofs.YtdfklagiafmoiaaGreatDoor
open Go.RowKit

theorem SeeOk.more {q : RunP} {w0 : World} {fs : Nat} {sc : List Value} {J : Nat → List (Ch w0.heap.size) → Prop} (h : SeeOk q w0 fs sc J) (c : Ch w0.heap.size) : SeeOk q w0 fs sc (fun i cs => ∃ cs', cs = c :: cs' ∧ J i cs') := by
  rintro i l cs X gb hi ⟨cs', rfl, hj⟩ hM hc
  have := h i (l ++ [c]) cs' X gb hi hj (by rw [List.append_assoc]; exact hM) hc
  refine this.mono ?_
  rintro e w' ⟨h1, cs2, h2, h3⟩
  exact ⟨h1, c :: cs2, ⟨cs2, rfl, h2⟩, by rw [List.append_assoc] at h3; exact h3⟩
theorem Same.trans_ {base : Nat} {w w1 X : World} (h1 : Same base w w1) (h2 : Same base w1 X) : Same base w X :=
  ⟨Nat.le_trans h1.1 h2.1, fun b hb hlt => (h2.2 b hb (Nat.lt_of_lt_of_le hlt h1.1)).trans (h1.2 b hb hlt)⟩
variable (q : RunP)
set_option maxRecDepth 100000 in
set_option maxHeartbeats 16000000 in
theorem follow_p (hR : RunOk q.p q.g q.c q.L q.kind) (ws : List Nat) (hln : ws.length ≤ 4096) (hlen : q.len = ws.length) (hws : ∀ x ∈ ws, x < 4294967296) (hq : q.L = folL q.p q.g q.kind q.c ws)
    (w0 : World) (base : Nat) (hb0 : w0.heap.size ≤ base) (w : World) (hbw : base ≤ w.heap.size) (cs : List (Ch w0.heap.size)) (J : Nat → List (Ch w0.heap.size) → Prop) (hJ : J 0 cs)
    (hM : Mem w0 (cF w0.heap.size base hb0 w :: cs) w) (m bn : Nat) (hm : MoverOwn w base w0.heap.size m q.p q.g) (hnet : NetOwn w base (.slice (some ⟨bn, 0, none⟩) (nets q.g).length (nets q.g).length) (nets q.g)) (htz : TzAt w0)
    (fs : Nat) (sc : List Value) (hs : SeeOk q w0 fs sc J) (hes : ∀ a W, (callFunc fs a).run Tryz.prog W = .ok (.enter fs a) W)
    (Ac : Option Addr) (capc : Nat) (hcf : ConfAt w w0.heap.size (.slice Ac q.c.length capc) q.c) (Aw : Option Addr) (cw : Nat) (hw : U32At w w0.heap.size (.slice Aw ws.length cw) ws) :
    Calls Tryz.prog 23 #[.agg #[.pointer (some ⟨m, 0, none⟩), .slice (some ⟨bn, 0, none⟩) (nets q.g).length (nets q.g).length, .int .i64 q.kind, .int .u32 (allSet q.g.ports.length), .func (.func fs) #[] sc.toArray], .slice Ac q.c.length capc, .slice Aw ws.length cw] w (ExecPost q w0 base w w J) := by
  obtain ⟨U, hU⟩ : ∃ U, (w.alloc (.cells #[.pointer (some ⟨m, 0, none⟩), .slice (some ⟨bn, 0, none⟩) (nets q.g).length (nets q.g).length, .int .i64 q.kind, .int .u32 (allSet q.g.ports.length), .func (.func fs) #[] sc.toArray] 66)).alloc (.cells #[.slice Aw ws.length cw] 31) = U := ⟨_, rfl⟩
  have hUw : Below w.heap.size w U := by rw [← hU]; exact balloc (balloc (Below.refl _ _) _) _
  have hb1 : Blk U w.heap.size 66 #[.pointer (some ⟨m, 0, none⟩), .slice (some ⟨bn, 0, none⟩) (nets q.g).length (nets q.g).length, .int .i64 q.kind, .int .u32 (allSet q.g.ports.length), .func (.func fs) #[] sc.toArray] := by rw [← hU]; exact (Blk.new _ _ _).alloc _
  have hb2 : Blk U (w.heap.size + 1) 31 #[.slice Aw ws.length cw] := by rw [← hU]; exact blk_new_at (by simp)
  have hUs : U.heap.size = w.heap.size + 1 + 1 := by rw [← hU]; simp
  have hMU := hM.growF hUw
  have HMU := Lib.hid hMU
  have hk2 := Kept2.below (base := base) hM.size hUw
  have HR := Lib.hid hR
  have HBW := Lib.hid hbw
  have HCH := Lib.hid (show ChooseOk q w0 base U 43 [.pointer (some ⟨w.heap.size, 0, none⟩), .pointer (some ⟨w.heap.size + 1, 0, none⟩)] from fun i X hi hl hX hS => by
    rw [hlen] at hl
    have hx2 : ∀ b, base ≤ b → b < U.heap.size → ∀ o, X.cell? ⟨b, o, none⟩ = U.cell? ⟨b, o, none⟩ := fun b h1 h2 o => World.cell?_of_block (hS.2 b h1 h2)
    have hwX : U32At X X.heap.size (.slice Aw ws.length cw) ws := U32At.to ⟨hX.size, fun p hp => (hX.cell hp).trans (hM.bel.cell hp).symm⟩ hw
    have h1 := (hx2 w.heap.size hbw (by omega) 1).trans (hb1.cell 1)
    have h2 := (hx2 w.heap.size hbw (by omega) 2).trans (hb1.cell 2)
    have h3 := (hx2 (w.heap.size + 1) (by omega) (by omega) 0).trans (hb2.cell 0)
    have hlu := hS.1
    have hat := folL_at (kind := q.kind) (p := q.p) (g := q.g) ws q.c i (by rw [← hq]; exact hi) hl
    rw [← hq] at hat
    refine (follow1_p q.g hR.ok.fit.gr q.kind _ (fun v hv => enS_in v hv) ws hws hln i hl w.heap.size (w.heap.size + 1) bn Aw cw X (by omega) (by omega) h1 h2 h3 (htz.below hX htz.1) ((hnet.same hk2.hi).same hS).at_ hwX).mono ?_
    rintro e w' ⟨rfl, hb⟩
    refine ⟨⟨_, fun h => (hat.2 h).symm, ?_⟩, hb⟩
    have : (Ex_ q.p q.g q.c q.L i != 0) = decide (i < q.L.length) := by
      by_cases h : i < q.L.length
      · rw [decide_eq_true h]; exact bne_iff_ne.2 (hat.1.1 h)
      · rw [decide_eq_false h, bne_eq_false_iff_eq]
        exact Classical.byContradiction fun h2 => h (hat.1.2 h2)
    rw [← this]; rfl)
  have HX := Lib.hid (show Calls Tryz.prog 42 #[.agg #[.pointer (some ⟨m, 0, none⟩), .slice (some ⟨bn, 0, none⟩) (nets q.g).length (nets q.g).length, .int .i64 q.kind, .int .u32 (allSet q.g.ports.length), .func (.func fs) #[] sc.toArray], .slice Ac q.c.length capc, .int .i64 (ws.length : Int), .func (.func 43) #[] ([.pointer (some ⟨w.heap.size, 0, none⟩), .pointer (some ⟨w.heap.size + 1, 0, none⟩)] : List Value).toArray] (U.alloc (.cells z8 38)) _ from by
    have := exec_p q hR (by rw [hlen]; exact (by rw [hq]; exact (folL_good q.kind ws hR.ok).2.2)) (by rw [hlen]; exact hln) w0 base hb0 (U.alloc (.cells z8 38)) U hMU.bel (cB w0.heap.size U.heap.size 38 z8 :: cs) (fun i cs1 => ∃ cs', cs1 = cB w0.heap.size U.heap.size 38 z8 :: cs' ∧ J i cs') ⟨cs, rfl, hJ⟩
      ((hMU.new 38 z8).perm (List.Perm.swap _ _ _)) m (hm.to hk2) _ (hnet.same hk2.hi) htz fs sc (hs.more _) hes 43 [.pointer (some ⟨w.heap.size, 0, none⟩), .pointer (some ⟨w.heap.size + 1, 0, none⟩)] HCH.out (enters_of Tryz.func43 (by kernel_rfl) rfl)
      Ac capc (ConfAt.to ⟨Nat.le_refl _, fun p hp => ((hMU.new 38 z8).bel.cell hp).trans (hM.bel.cell hp).symm⟩ hcf)
    rw [hlen] at this
    exact this)
  obtain ⟨V, hV⟩ : ∃ V, U.alloc (.cells z8 38) = V := ⟨_, rfl⟩
  have HV := Lib.hid (show Below w.heap.size w V from by rw [← hV]; exact balloc hUw _)
  have r0 := hb1.alloc (.cells z8 38)
  have r1 := hb2.alloc (.cells z8 38)
  rw [hV] at HX r0 r1
  obtain ⟨r0, r1', r2, r3, r4, rf⟩ := blk5 r0
  have s0 := r1.cell 0
  have HUS := Lib.hid (show Same base w U from hk2.hi)
  have hV2 : ((w.alloc (.cells #[.pointer (some ⟨m, 0, none⟩), .slice (some ⟨bn, 0, none⟩) (nets q.g).length (nets q.g).length, .int .i64 q.kind, .int .u32 (allSet q.g.ports.length), .func (.func fs) #[] sc.toArray] 66)).alloc (.cells #[.slice Aw ws.length cw] 31)).alloc (.cells z8 38) = V := by rw [hU]; exact hV
  have HV2 := Lib.hid hV2
  rw [hUs] at HX
  clear hV hV2 hb1 hb2 hk2 hMU hUw hM hw hcf hs hes hJ htz hnet hm hU hUs hR hbw HCH hlen hq
  go_enter Tryz.func23, Tryz.ntmps23
  unfold z8 at HV2
  have hV2 := HV2.out
  go_wp2_with fail
  refine HX.out.mono ?_
  rintro e w2 ⟨gb, vs, vC, vE, cs1, rfl, hcw, ⟨cs2, rfl, hj⟩, hM2, hsm⟩
  obtain ⟨A2, c2, rfl⟩ := own_sl (hM2.get 0 rfl)
  obtain ⟨A1, c1, rfl⟩ := own_sl (hM2.get 1 rfl)
  obtain ⟨z0, z1, z2, z3, z4, hz⟩ := accA_ex q q.L.length
  have HZ := Lib.hid (show trV gb q.c.length (.slice A1 q.L.length c1) (.slice A2 (q.L.length + 1) c2) (accA q q.L.length) = .agg #[.slice A1 q.L.length c1, .slice A2 (q.L.length + 1) c2, .slice (some ⟨gb, 0, none⟩) q.c.length q.c.length, .int .i64 z0, .int .i64 z1, .int .i64 z2, .int .i64 z3, .int .u32 z4] from by rw [hz]; rfl)
  rw [HZ.out]
  have hMY := (hM2.set8 2 rfl (.slice A1 q.L.length c1) (.slice A2 (q.L.length + 1) c2) (.slice (some ⟨gb, 0, none⟩) q.c.length q.c.length) (.int .i64 z0) (.int .i64 z1) (.int .i64 z2) (.int .i64 z3) (.int .u32 z4))
  have HMY := Lib.hid hMY
  have hgr : w2.grownBy _ (some (w.heap.size + 1 + 1)) := (((((((gset' w2 (w.heap.size + 1 + 1) 0 (.slice A1 q.L.length c1)).trans (gset' _ _ 1 (.slice A2 (q.L.length + 1) c2))).trans (gset' _ _ 2 (.slice (some ⟨gb, 0, none⟩) q.c.length q.c.length))).trans (gset' _ _ 3 (.int .i64 z0))).trans (gset' _ _ 4 (.int .i64 z1))).trans (gset' _ _ 5 (.int .i64 z2))).trans (gset' _ _ 6 (.int .i64 z3))).trans (gset' _ _ 7 (.int .u32 z4))
  have HGR := Lib.hid hgr
  have hbk := (hM2.get 2 rfl).2
  unfold z8 at hbk
  obtain ⟨t0, t1, t2, t3, t4, t5, t6, t7, tf⟩ := blk8 hbk
  have n2 : w.heap.size + 1 + 1 < w2.heap.size := hbk.lt
  have HC := Lib.hid hcw
  have HJ := Lib.hid hj
  have HSM := Lib.hid hsm
  have HVS := Lib.hid (show w.heap.size + 1 + 1 < V.heap.size from by rw [← HV2.out]; simp)
  clear hcw hj hsm hM2 hMY hgr hbk r0 r1 r1' r2 r3 r4 rf s0 hV2 HX hz
  go_wp2
  have hMY := HMY.out
  have hgr := HGR.out
  clear HMY HGR
  generalize World.setCell _ _ _ = Y at *
  have HMY := Lib.hid hMY
  have HGR := Lib.hid hgr
  clear hMY hgr t0 t1 t2 t3 t4 t5 t6 t7 tf n2
  obtain ⟨t0, t1, t2, t3, t4, t5, t6, t7, tf⟩ := blk8 (HMY.out.get 2 rfl).2
  refine bodyPost_ret (v := .tuple #[.agg #[.slice A1 q.L.length c1, .slice A2 (q.L.length + 1) c2, .slice (some ⟨gb, 0, none⟩) q.c.length q.c.length, .int .i64 z0, .int .i64 z1, .int .i64 z2, .int .i64 z3, .int .u32 z4], .int .i64 0]) ?_ rfl ?_
  · simp [results, Tryz.results23, go_sem, t0, t1, t2, t3, t4, t5, t6, t7]
  · have hM3 : Mem w0 (cR w0.heap.size 34 1 (.slice A2 (q.L.length + 1) c2) (q.L.length + 1) (uv (EL q.p q.g q.c q.L (q.L.length + 1))) :: cR w0.heap.size 34 1 (.slice A1 q.L.length c1) q.L.length (uv q.L) :: cs2) Y := HMY.out.erase 2
    refine ⟨gb, vs, .slice A1 q.L.length c1, .slice A2 (q.L.length + 1) c2, cs2, by rw [HZ.out], ?_, HJ.out, hM3, ?_⟩
    · exact (HC.out.same (kept2_grown (B0 := 0) HGR.out HVS.out (by omega) (by omega)).hi).lo HV.out.size
    · refine ⟨Nat.le_trans HUS.out.1 (Nat.le_trans HSM.out.1 HGR.out.size), fun b hb hlt => ?_⟩
      exact (HGR.out.block b (Nat.lt_of_lt_of_le (Nat.lt_of_lt_of_le hlt HUS.out.1) HSM.out.1) (fun e => by injection e with e; omega)).trans ((HSM.out.2 b hb (Nat.lt_of_lt_of_le hlt HUS.out.1)).trans (HUS.out.2 b hb hlt))
set_option maxRecDepth 100000 in
set_option maxHeartbeats 16000000 in
theorem play_p (hR : RunOk q.p q.g q.c q.L q.kind) (ws : List Nat) (hln : ws.length ≤ 4096) (hlen : q.len = ws.length) (hq : q.L = ws)
    (w0 : World) (base : Nat) (hb0 : w0.heap.size ≤ base) (w : World) (hbw : base ≤ w.heap.size) (cs : List (Ch w0.heap.size)) (J : Nat → List (Ch w0.heap.size) → Prop) (hJ : J 0 cs)
    (hM : Mem w0 (cF w0.heap.size base hb0 w :: cs) w) (m bn : Nat) (hm : MoverOwn w base w0.heap.size m q.p q.g) (hnet : NetOwn w base (.slice (some ⟨bn, 0, none⟩) (nets q.g).length (nets q.g).length) (nets q.g)) (htz : TzAt w0)
    (fs : Nat) (sc : List Value) (hs : SeeOk q w0 fs sc J) (hes : ∀ a W, (callFunc fs a).run Tryz.prog W = .ok (.enter fs a) W)
    (Ac : Option Addr) (capc : Nat) (hcf : ConfAt w w0.heap.size (.slice Ac q.c.length capc) q.c) (Aw : Option Addr) (cw : Nat) (hw : U32At w w0.heap.size (.slice Aw ws.length cw) ws) :
    Calls Tryz.prog 24 #[.agg #[.pointer (some ⟨m, 0, none⟩), .slice (some ⟨bn, 0, none⟩) (nets q.g).length (nets q.g).length, .int .i64 q.kind, .int .u32 (allSet q.g.ports.length), .func (.func fs) #[] sc.toArray], .slice Ac q.c.length capc, .slice Aw ws.length cw] w (ExecPost q w0 base w w J) := by
  obtain ⟨U, hU⟩ : ∃ U, (w.alloc (.cells #[.pointer (some ⟨m, 0, none⟩), .slice (some ⟨bn, 0, none⟩) (nets q.g).length (nets q.g).length, .int .i64 q.kind, .int .u32 (allSet q.g.ports.length), .func (.func fs) #[] sc.toArray] 66)).alloc (.cells #[.slice Aw ws.length cw] 31) = U := ⟨_, rfl⟩
  have hUw : Below w.heap.size w U := by rw [← hU]; exact balloc (balloc (Below.refl _ _) _) _
  have hb1 : Blk U w.heap.size 66 #[.pointer (some ⟨m, 0, none⟩), .slice (some ⟨bn, 0, none⟩) (nets q.g).length (nets q.g).length, .int .i64 q.kind, .int .u32 (allSet q.g.ports.length), .func (.func fs) #[] sc.toArray] := by rw [← hU]; exact (Blk.new _ _ _).alloc _
  have hb2 : Blk U (w.heap.size + 1) 31 #[.slice Aw ws.length cw] := by rw [← hU]; exact blk_new_at (by simp)
  have hUs : U.heap.size = w.heap.size + 1 + 1 := by rw [← hU]; simp
  have hMU := hM.growF hUw
  have HMU := Lib.hid hMU
  have hk2 := Kept2.below (base := base) hM.size hUw
  have HR := Lib.hid hR
  have HBW := Lib.hid hbw
  have HCH := Lib.hid (show ChooseOk q w0 base U 45 [.pointer (some ⟨w.heap.size + 1, 0, none⟩)] from fun i X hi hl hX hS => by
    rw [hlen] at hl
    have hx2 : ∀ b, base ≤ b → b < U.heap.size → ∀ o, X.cell? ⟨b, o, none⟩ = U.cell? ⟨b, o, none⟩ := fun b h1 h2 o => World.cell?_of_block (hS.2 b h1 h2)
    have hwX : U32At X X.heap.size (.slice Aw ws.length cw) ws := U32At.to ⟨hX.size, fun p hp => (hX.cell hp).trans (hM.bel.cell hp).symm⟩ hw
    have h3 := (hx2 (w.heap.size + 1) (by omega) (by omega) 0).trans (hb2.cell 0)
    have hlu := hS.1
    have hlL : i < q.L.length := by rw [hq]; exact hl
    refine (play1_p ws hln i hl _ (w.heap.size + 1) Aw cw X (by omega) h3 hwX).mono ?_
    rintro e w' ⟨rfl, rfl⟩
    refine ⟨⟨ws[i], fun h => by simp only [hq], ?_⟩, Below.refl _ _⟩
    rw [decide_eq_true hlL])
  have HX := Lib.hid (show Calls Tryz.prog 42 #[.agg #[.pointer (some ⟨m, 0, none⟩), .slice (some ⟨bn, 0, none⟩) (nets q.g).length (nets q.g).length, .int .i64 q.kind, .int .u32 (allSet q.g.ports.length), .func (.func fs) #[] sc.toArray], .slice Ac q.c.length capc, .int .i64 (ws.length : Int), .func (.func 45) #[] ([.pointer (some ⟨w.heap.size + 1, 0, none⟩)] : List Value).toArray] (U.alloc (.cells z8 38)) _ from by
    have := exec_p q hR (by rw [hlen]; rw [hq]; exact Nat.le_refl _) (by rw [hlen]; exact hln) w0 base hb0 (U.alloc (.cells z8 38)) U hMU.bel (cB w0.heap.size U.heap.size 38 z8 :: cs) (fun i cs1 => ∃ cs', cs1 = cB w0.heap.size U.heap.size 38 z8 :: cs' ∧ J i cs') ⟨cs, rfl, hJ⟩
      ((hMU.new 38 z8).perm (List.Perm.swap _ _ _)) m (hm.to hk2) _ (hnet.same hk2.hi) htz fs sc (hs.more _) hes 45 [.pointer (some ⟨w.heap.size + 1, 0, none⟩)] HCH.out (enters_of Tryz.func45 (by kernel_rfl) rfl)
      Ac capc (ConfAt.to ⟨Nat.le_refl _, fun p hp => ((hMU.new 38 z8).bel.cell hp).trans (hM.bel.cell hp).symm⟩ hcf)
    rw [hlen] at this
    exact this)
  obtain ⟨V, hV⟩ : ∃ V, U.alloc (.cells z8 38) = V := ⟨_, rfl⟩
  have HV := Lib.hid (show Below w.heap.size w V from by rw [← hV]; exact balloc hUw _)
  have r0 := hb1.alloc (.cells z8 38)
  have r1 := hb2.alloc (.cells z8 38)
  rw [hV] at HX r0 r1
  obtain ⟨r0, r1', r2, r3, r4, rf⟩ := blk5 r0
  have s0 := r1.cell 0
  have HUS := Lib.hid (show Same base w U from hk2.hi)
  have hV2 : ((w.alloc (.cells #[.pointer (some ⟨m, 0, none⟩), .slice (some ⟨bn, 0, none⟩) (nets q.g).length (nets q.g).length, .int .i64 q.kind, .int .u32 (allSet q.g.ports.length), .func (.func fs) #[] sc.toArray] 66)).alloc (.cells #[.slice Aw ws.length cw] 31)).alloc (.cells z8 38) = V := by rw [hU]; exact hV
  have HV2 := Lib.hid hV2
  rw [hUs] at HX
  clear hV hV2 hb1 hb2 hk2 hMU hUw hM hw hcf hs hes hJ htz hnet hm hU hUs hR hbw HCH hlen hq
  go_enter Tryz.func24, Tryz.ntmps24
  unfold z8 at HV2
  have hV2 := HV2.out
  go_wp2_with fail
  refine HX.out.mono ?_
  rintro e w2 ⟨gb, vs, vC, vE, cs1, rfl, hcw, ⟨cs2, rfl, hj⟩, hM2, hsm⟩
  obtain ⟨A2, c2, rfl⟩ := own_sl (hM2.get 0 rfl)
  obtain ⟨A1, c1, rfl⟩ := own_sl (hM2.get 1 rfl)
  obtain ⟨z0, z1, z2, z3, z4, hz⟩ := accA_ex q q.L.length
  have HZ := Lib.hid (show trV gb q.c.length (.slice A1 q.L.length c1) (.slice A2 (q.L.length + 1) c2) (accA q q.L.length) = .agg #[.slice A1 q.L.length c1, .slice A2 (q.L.length + 1) c2, .slice (some ⟨gb, 0, none⟩) q.c.length q.c.length, .int .i64 z0, .int .i64 z1, .int .i64 z2, .int .i64 z3, .int .u32 z4] from by rw [hz]; rfl)
  rw [HZ.out]
  have hMY := (hM2.set8 2 rfl (.slice A1 q.L.length c1) (.slice A2 (q.L.length + 1) c2) (.slice (some ⟨gb, 0, none⟩) q.c.length q.c.length) (.int .i64 z0) (.int .i64 z1) (.int .i64 z2) (.int .i64 z3) (.int .u32 z4))
  have HMY := Lib.hid hMY
  have hgr : w2.grownBy _ (some (w.heap.size + 1 + 1)) := (((((((gset' w2 (w.heap.size + 1 + 1) 0 (.slice A1 q.L.length c1)).trans (gset' _ _ 1 (.slice A2 (q.L.length + 1) c2))).trans (gset' _ _ 2 (.slice (some ⟨gb, 0, none⟩) q.c.length q.c.length))).trans (gset' _ _ 3 (.int .i64 z0))).trans (gset' _ _ 4 (.int .i64 z1))).trans (gset' _ _ 5 (.int .i64 z2))).trans (gset' _ _ 6 (.int .i64 z3))).trans (gset' _ _ 7 (.int .u32 z4))
  have HGR := Lib.hid hgr
  have hbk := (hM2.get 2 rfl).2
  unfold z8 at hbk
  obtain ⟨t0, t1, t2, t3, t4, t5, t6, t7, tf⟩ := blk8 hbk
  have n2 : w.heap.size + 1 + 1 < w2.heap.size := hbk.lt
  have HC := Lib.hid hcw
  have HJ := Lib.hid hj
  have HSM := Lib.hid hsm
  have HVS := Lib.hid (show w.heap.size + 1 + 1 < V.heap.size from by rw [← HV2.out]; simp)
  clear hcw hj hsm hM2 hMY hgr hbk r0 r1 r1' r2 r3 r4 rf s0 hV2 HX hz
  go_wp2
  have hMY := HMY.out
  have hgr := HGR.out
  clear HMY HGR
  generalize World.setCell _ _ _ = Y at *
  have HMY := Lib.hid hMY
  have HGR := Lib.hid hgr
  clear hMY hgr t0 t1 t2 t3 t4 t5 t6 t7 tf n2
  obtain ⟨t0, t1, t2, t3, t4, t5, t6, t7, tf⟩ := blk8 (HMY.out.get 2 rfl).2
  refine bodyPost_ret (v := .tuple #[.agg #[.slice A1 q.L.length c1, .slice A2 (q.L.length + 1) c2, .slice (some ⟨gb, 0, none⟩) q.c.length q.c.length, .int .i64 z0, .int .i64 z1, .int .i64 z2, .int .i64 z3, .int .u32 z4], .int .i64 0]) ?_ rfl ?_
  · simp [results, Tryz.results24, go_sem, t0, t1, t2, t3, t4, t5, t6, t7]
  · have hM3 : Mem w0 (cR w0.heap.size 34 1 (.slice A2 (q.L.length + 1) c2) (q.L.length + 1) (uv (EL q.p q.g q.c q.L (q.L.length + 1))) :: cR w0.heap.size 34 1 (.slice A1 q.L.length c1) q.L.length (uv q.L) :: cs2) Y := HMY.out.erase 2
    refine ⟨gb, vs, .slice A1 q.L.length c1, .slice A2 (q.L.length + 1) c2, cs2, by rw [HZ.out], ?_, HJ.out, hM3, ?_⟩
    · exact (HC.out.same (kept2_grown (B0 := 0) HGR.out HVS.out (by omega) (by omega)).hi).lo HV.out.size
    · refine ⟨Nat.le_trans HUS.out.1 (Nat.le_trans HSM.out.1 HGR.out.size), fun b hb hlt => ?_⟩
      exact (HGR.out.block b (Nat.lt_of_lt_of_le (Nat.lt_of_lt_of_le hlt HUS.out.1) HSM.out.1) (fun e => by injection e with e; omega)).trans ((HSM.out.2 b hb (Nat.lt_of_lt_of_le hlt HUS.out.1)).trans (HUS.out.2 b hb hlt))
end Go.Proofs.YtdfklagiafmoiaaGreatDoor

/- Follow; Play. (Printed by genX92.py.) -/
namespace Go.Proofs.YtdfklagiafmoiaaGreatDoor
open Go.RowKit

variable (q : RunP)
/-- what a run answers -/
def RunPost (w : World) (e : Ending) (w' : World) : Prop :=
  ∃ (A1 : Option Addr) (c1 : Nat) (A2 : Option Addr) (c2 gb : Nat), e = .returned (.tuple #[trV gb q.c.length (.slice A1 q.L.length c1) (.slice A2 (q.L.length + 1) c2) (accA q q.L.length), .int .i64 0]) ∧
    U32At w' w'.heap.size (.slice A1 q.L.length c1) q.L ∧ U32At w' w'.heap.size (.slice A2 (q.L.length + 1) c2) (EL q.p q.g q.c q.L (q.L.length + 1)) ∧
    ConfAt w' w'.heap.size (.slice (some ⟨gb, 0, none⟩) q.c.length q.c.length) (runC q.p q.g q.c q.L) ∧ Below w.heap.size w w'
set_option maxRecDepth 100000 in
set_option maxHeartbeats 16000000 in
theorem Follow_p (hR : RunOk q.p q.g q.c q.L q.kind) (hk : 1 ≤ q.kind ∧ q.kind ≤ 4) (hlg : LightG q.g) (ws : List Nat) (hln : ws.length ≤ 4096) (hlen : q.len = ws.length) (hws : ∀ x ∈ ws, x < 4294967296) (hq : q.L = folL q.p q.g q.kind q.c ws)
    (w : World) (htz : TzAt w) (vp vg : Value) (hP : ProgAt w w.heap.size vp q.p) (hG : GraphAt w w.heap.size vg q.g) (Ac : Option Addr) (capc : Nat) (hcf : ConfAt w w.heap.size (.slice Ac q.c.length capc) q.c) (Aw : Option Addr) (cw : Nat) (hw : U32At w w.heap.size (.slice Aw ws.length cw) ws) :
    Calls Tryz.prog 7 #[vp, vg, .int .i64 q.kind, .slice Ac q.c.length capc, .slice Aw ws.length cw] w (RunPost q w) := by
  have HP := Lib.hid hP
  have HG := Lib.hid hG
  have HCF := Lib.hid hcf
  have HW := Lib.hid hw
  have HR := Lib.hid hR
  have HTZ := Lib.hid htz
  have HLG := Lib.hid hlg
  obtain ⟨vv, vr, rfl, -, -⟩ := hP
  obtain ⟨vi, vq, rfl, -, -⟩ := hG
  have hM := (((Mem.start w).new 25 #[.string q.p.name, vv, vr]).new 29 #[vi, vq]).new 38 z8
  simp only [World.size_alloc] at hM
  have HM0 := Lib.hid hM
  unfold z8 at HM0
  have HCK := Lib.hid (fun (X : World) (hX : Below w.heap.size w X) => rcheck_p q.p q.g q.c hR.ok hlg q.kind hk ws.length hln (.agg #[.string q.p.name, vv, vr]) (.agg #[vi, vq]) Ac capc X (ProgAt.to (Holds_.go hX) HP.out) (GraphAt.to (Holds_.go hX) HG.out) (ConfAt.to (Holds_.go hX) hcf))
  have HNR := Lib.hid (fun (X : World) (hX : Below w.heap.size w X) => runner_p q.p q.g hR.ok.fit hlg q.kind (.func 22) #[] (.agg #[.string q.p.name, vv, vr]) (.agg #[vi, vq]) X w.heap.size hX.size (ProgAt.to ⟨Nat.le_refl _, fun p hp => hX.cell hp⟩ HP.out) (GraphAt.to ⟨Nat.le_refl _, fun p hp => hX.cell hp⟩ HG.out))
  have HFO := Lib.hid (fun (X Y : World) (hb0 : w.heap.size ≤ X.heap.size) (hbw : X.heap.size ≤ Y.heap.size) (cs : List (Ch w.heap.size)) (hMY : Mem w (cF w.heap.size X.heap.size hb0 Y :: cs) Y) (m bn : Nat) (hm : MoverOwn Y X.heap.size w.heap.size m q.p q.g) (hnet : NetOwn Y X.heap.size (.slice (some ⟨bn, 0, none⟩) (nets q.g).length (nets q.g).length) (nets q.g)) =>
    follow_p q hR ws hln hlen hws hq w X.heap.size hb0 Y hbw cs (fun _ cs' => cs' = cs) rfl hMY m bn hm hnet htz 22 [] (ignore_ok q w cs) (enters_of Tryz.func22 (by kernel_rfl) rfl) Ac capc
      (ConfAt.to ⟨Nat.le_refl _, fun p hp => hMY.bel.cell hp⟩ hcf) Aw cw (U32At.to ⟨Nat.le_refl _, fun p hp => hMY.bel.cell hp⟩ hw))
  have HLN := Lib.hid hln
  clear hcf hw htz hM hR hk hlg hlen hws hq
  go_enter Tryz.func7, Tryz.ntmps7
  go_wp2_with fail
  refine (HCK.out _ HM0.out.bel).mono ?_
  rintro e w1 ⟨rfl, hb1⟩
  have HM1 := Lib.hid (HM0.out.below hb1)
  clear hb1 HM0
  obtain ⟨p0, p1, p2, pf⟩ := blk3 (HM1.out.get 2 rfl).2
  obtain ⟨q0, q1, qf⟩ := blk2 (HM1.out.get 1 rfl).2
  go_wp2_with fail
  refine (HNR.out _ HM1.out.bel).mono ?_
  rintro e w2 ⟨m, vn, rfl, hmo, hno, hb2⟩
  obtain ⟨bn, rfl, -⟩ := id hno
  have hM2 := HM1.out.pushF hb2
  have HF := Lib.hid (HFO.out w1 w2 HM1.out.size hb2.size _ hM2 m bn hmo hno)
  have HB2 := Lib.hid hb2
  clear hM2 hb2 hmo hno p0 p1 p2 pf q0 q1 qf HFO
  go_wp2_with fail
  refine HF.out.mono ?_
  rintro e w3 ⟨gb, vs, vC, vE, cs1, rfl, hcw, rfl, hM3, hsm⟩
  obtain ⟨A2, c2, rfl⟩ := own_sl (hM3.get 0 rfl)
  obtain ⟨A1, c1, rfl⟩ := own_sl (hM3.get 1 rfl)
  obtain ⟨z0, z1, z2, z3, z4, hz⟩ := accA_ex q q.L.length
  have HZ := Lib.hid (show trV gb q.c.length (.slice A1 q.L.length c1) (.slice A2 (q.L.length + 1) c2) (accA q q.L.length) = .agg #[.slice A1 q.L.length c1, .slice A2 (q.L.length + 1) c2, .slice (some ⟨gb, 0, none⟩) q.c.length q.c.length, .int .i64 z0, .int .i64 z1, .int .i64 z2, .int .i64 z3, .int .u32 z4] from by rw [hz]; rfl)
  rw [HZ.out]
  have HMY := Lib.hid (hM3.set8 2 rfl (.slice A1 q.L.length c1) (.slice A2 (q.L.length + 1) c2) (.slice (some ⟨gb, 0, none⟩) q.c.length q.c.length) (.int .i64 z0) (.int .i64 z1) (.int .i64 z2) (.int .i64 z3) (.int .u32 z4))
  have hgr : w3.grownBy _ (some (w.heap.size + 1 + 1)) := (((((((gset' w3 (w.heap.size + 1 + 1) 0 (.slice A1 q.L.length c1)).trans (gset' _ _ 1 (.slice A2 (q.L.length + 1) c2))).trans (gset' _ _ 2 (.slice (some ⟨gb, 0, none⟩) q.c.length q.c.length))).trans (gset' _ _ 3 (.int .i64 z0))).trans (gset' _ _ 4 (.int .i64 z1))).trans (gset' _ _ 5 (.int .i64 z2))).trans (gset' _ _ 6 (.int .i64 z3))).trans (gset' _ _ 7 (.int .u32 z4))
  have HGR := Lib.hid hgr
  obtain ⟨t0, t1, t2, t3, t4, t5, t6, t7, tf⟩ := blk8 (hM3.get 2 rfl).2
  have n2 : w.heap.size + 1 + 1 < w3.heap.size := (hM3.get 2 rfl).2.lt
  have HC := Lib.hid hcw
  have HSZ := Lib.hid (show w.heap.size + 1 + 1 < w2.heap.size from Nat.lt_of_lt_of_le (HM1.out.get 0 rfl).2.lt HB2.out.size)
  clear hcw hsm hM3 hgr hz HF
  go_wp2
  have hMY := HMY.out
  have hgr := HGR.out
  clear HMY HGR
  generalize World.setCell _ _ _ = Y at *
  have HMY := Lib.hid hMY
  have HGR := Lib.hid hgr
  clear hMY hgr t0 t1 t2 t3 t4 t5 t6 t7 tf n2
  obtain ⟨t0, t1, t2, t3, t4, t5, t6, t7, tf⟩ := blk8 (HMY.out.get 2 rfl).2
  refine bodyPost_ret (v := .tuple #[.agg #[.slice A1 q.L.length c1, .slice A2 (q.L.length + 1) c2, .slice (some ⟨gb, 0, none⟩) q.c.length q.c.length, .int .i64 z0, .int .i64 z1, .int .i64 z2, .int .i64 z3, .int .u32 z4], .int .i64 0]) ?_ rfl ?_
  · simp [results, Tryz.results7, go_sem, t0, t1, t2, t3, t4, t5, t6, t7]
  · refine ⟨A1, c1, A2, c2, gb, by rw [HZ.out], u32_own' (HMY.out.get 1 rfl), u32_own' (HMY.out.get 0 rfl), ?_, HMY.out.bel⟩
    have h := (HC.out.same (kept2_grown (B0 := 0) HGR.out HSZ.out (by omega) (by omega)).hi).conf
    rw [show (runC q.p q.g q.c q.L).length = q.c.length from by rw [← Cx_end, Cx_len HR.out]] at h
    exact h
set_option maxRecDepth 100000 in
set_option maxHeartbeats 16000000 in
theorem Play_p (hR : RunOk q.p q.g q.c q.L q.kind) (hk : 1 ≤ q.kind ∧ q.kind ≤ 4) (hlg : LightG q.g) (ws : List Nat) (hln : ws.length ≤ 4096) (hlen : q.len = ws.length) (hq : q.L = ws)
    (w : World) (htz : TzAt w) (vp vg : Value) (hP : ProgAt w w.heap.size vp q.p) (hG : GraphAt w w.heap.size vg q.g) (Ac : Option Addr) (capc : Nat) (hcf : ConfAt w w.heap.size (.slice Ac q.c.length capc) q.c) (Aw : Option Addr) (cw : Nat) (hw : U32At w w.heap.size (.slice Aw ws.length cw) ws) :
    Calls Tryz.prog 9 #[vp, vg, .int .i64 q.kind, .slice Ac q.c.length capc, .slice Aw ws.length cw] w (RunPost q w) := by
  have HP := Lib.hid hP
  have HG := Lib.hid hG
  have HCF := Lib.hid hcf
  have HW := Lib.hid hw
  have HR := Lib.hid hR
  have HTZ := Lib.hid htz
  have HLG := Lib.hid hlg
  obtain ⟨vv, vr, rfl, -, -⟩ := hP
  obtain ⟨vi, vq, rfl, -, -⟩ := hG
  have hM := (((Mem.start w).new 25 #[.string q.p.name, vv, vr]).new 29 #[vi, vq]).new 38 z8
  simp only [World.size_alloc] at hM
  have HM0 := Lib.hid hM
  unfold z8 at HM0
  have HCK := Lib.hid (fun (X : World) (hX : Below w.heap.size w X) => rcheck_p q.p q.g q.c hR.ok hlg q.kind hk ws.length hln (.agg #[.string q.p.name, vv, vr]) (.agg #[vi, vq]) Ac capc X (ProgAt.to (Holds_.go hX) HP.out) (GraphAt.to (Holds_.go hX) HG.out) (ConfAt.to (Holds_.go hX) hcf))
  have HNR := Lib.hid (fun (X : World) (hX : Below w.heap.size w X) => runner_p q.p q.g hR.ok.fit hlg q.kind (.func 22) #[] (.agg #[.string q.p.name, vv, vr]) (.agg #[vi, vq]) X w.heap.size hX.size (ProgAt.to ⟨Nat.le_refl _, fun p hp => hX.cell hp⟩ HP.out) (GraphAt.to ⟨Nat.le_refl _, fun p hp => hX.cell hp⟩ HG.out))
  have HFO := Lib.hid (fun (X Y : World) (hb0 : w.heap.size ≤ X.heap.size) (hbw : X.heap.size ≤ Y.heap.size) (cs : List (Ch w.heap.size)) (hMY : Mem w (cF w.heap.size X.heap.size hb0 Y :: cs) Y) (m bn : Nat) (hm : MoverOwn Y X.heap.size w.heap.size m q.p q.g) (hnet : NetOwn Y X.heap.size (.slice (some ⟨bn, 0, none⟩) (nets q.g).length (nets q.g).length) (nets q.g)) =>
    play_p q hR ws hln hlen hq w X.heap.size hb0 Y hbw cs (fun _ cs' => cs' = cs) rfl hMY m bn hm hnet htz 22 [] (ignore_ok q w cs) (enters_of Tryz.func22 (by kernel_rfl) rfl) Ac capc
      (ConfAt.to ⟨Nat.le_refl _, fun p hp => hMY.bel.cell hp⟩ hcf) Aw cw (U32At.to ⟨Nat.le_refl _, fun p hp => hMY.bel.cell hp⟩ hw))
  have HLN := Lib.hid hln
  clear hcf hw htz hM hR hk hlg hlen hq
  go_enter Tryz.func9, Tryz.ntmps9
  go_wp2_with fail
  refine (HCK.out _ HM0.out.bel).mono ?_
  rintro e w1 ⟨rfl, hb1⟩
  have HM1 := Lib.hid (HM0.out.below hb1)
  clear hb1 HM0
  obtain ⟨p0, p1, p2, pf⟩ := blk3 (HM1.out.get 2 rfl).2
  obtain ⟨q0, q1, qf⟩ := blk2 (HM1.out.get 1 rfl).2
  go_wp2_with fail
  refine (HNR.out _ HM1.out.bel).mono ?_
  rintro e w2 ⟨m, vn, rfl, hmo, hno, hb2⟩
  obtain ⟨bn, rfl, -⟩ := id hno
  have hM2 := HM1.out.pushF hb2
  have HF := Lib.hid (HFO.out w1 w2 HM1.out.size hb2.size _ hM2 m bn hmo hno)
  have HB2 := Lib.hid hb2
  clear hM2 hb2 hmo hno p0 p1 p2 pf q0 q1 qf HFO
  go_wp2_with fail
  refine HF.out.mono ?_
  rintro e w3 ⟨gb, vs, vC, vE, cs1, rfl, hcw, rfl, hM3, hsm⟩
  obtain ⟨A2, c2, rfl⟩ := own_sl (hM3.get 0 rfl)
  obtain ⟨A1, c1, rfl⟩ := own_sl (hM3.get 1 rfl)
  obtain ⟨z0, z1, z2, z3, z4, hz⟩ := accA_ex q q.L.length
  have HZ := Lib.hid (show trV gb q.c.length (.slice A1 q.L.length c1) (.slice A2 (q.L.length + 1) c2) (accA q q.L.length) = .agg #[.slice A1 q.L.length c1, .slice A2 (q.L.length + 1) c2, .slice (some ⟨gb, 0, none⟩) q.c.length q.c.length, .int .i64 z0, .int .i64 z1, .int .i64 z2, .int .i64 z3, .int .u32 z4] from by rw [hz]; rfl)
  rw [HZ.out]
  have HMY := Lib.hid (hM3.set8 2 rfl (.slice A1 q.L.length c1) (.slice A2 (q.L.length + 1) c2) (.slice (some ⟨gb, 0, none⟩) q.c.length q.c.length) (.int .i64 z0) (.int .i64 z1) (.int .i64 z2) (.int .i64 z3) (.int .u32 z4))
  have hgr : w3.grownBy _ (some (w.heap.size + 1 + 1)) := (((((((gset' w3 (w.heap.size + 1 + 1) 0 (.slice A1 q.L.length c1)).trans (gset' _ _ 1 (.slice A2 (q.L.length + 1) c2))).trans (gset' _ _ 2 (.slice (some ⟨gb, 0, none⟩) q.c.length q.c.length))).trans (gset' _ _ 3 (.int .i64 z0))).trans (gset' _ _ 4 (.int .i64 z1))).trans (gset' _ _ 5 (.int .i64 z2))).trans (gset' _ _ 6 (.int .i64 z3))).trans (gset' _ _ 7 (.int .u32 z4))
  have HGR := Lib.hid hgr
  obtain ⟨t0, t1, t2, t3, t4, t5, t6, t7, tf⟩ := blk8 (hM3.get 2 rfl).2
  have n2 : w.heap.size + 1 + 1 < w3.heap.size := (hM3.get 2 rfl).2.lt
  have HC := Lib.hid hcw
  have HSZ := Lib.hid (show w.heap.size + 1 + 1 < w2.heap.size from Nat.lt_of_lt_of_le (HM1.out.get 0 rfl).2.lt HB2.out.size)
  clear hcw hsm hM3 hgr hz HF
  go_wp2
  have hMY := HMY.out
  have hgr := HGR.out
  clear HMY HGR
  generalize World.setCell _ _ _ = Y at *
  have HMY := Lib.hid hMY
  have HGR := Lib.hid hgr
  clear hMY hgr t0 t1 t2 t3 t4 t5 t6 t7 tf n2
  obtain ⟨t0, t1, t2, t3, t4, t5, t6, t7, tf⟩ := blk8 (HMY.out.get 2 rfl).2
  refine bodyPost_ret (v := .tuple #[.agg #[.slice A1 q.L.length c1, .slice A2 (q.L.length + 1) c2, .slice (some ⟨gb, 0, none⟩) q.c.length q.c.length, .int .i64 z0, .int .i64 z1, .int .i64 z2, .int .i64 z3, .int .u32 z4], .int .i64 0]) ?_ rfl ?_
  · simp [results, Tryz.results9, go_sem, t0, t1, t2, t3, t4, t5, t6, t7]
  · refine ⟨A1, c1, A2, c2, gb, by rw [HZ.out], u32_own' (HMY.out.get 1 rfl), u32_own' (HMY.out.get 0 rfl), ?_, HMY.out.bel⟩
    have h := (HC.out.same (kept2_grown (B0 := 0) HGR.out HSZ.out (by omega) (by omega)).hi).conf
    rw [show (runC q.p q.g q.c q.L).length = q.c.length from by rw [← Cx_end, Cx_len HR.out]] at h
    exact h
end Go.Proofs.YtdfklagiafmoiaaGreatDoor
