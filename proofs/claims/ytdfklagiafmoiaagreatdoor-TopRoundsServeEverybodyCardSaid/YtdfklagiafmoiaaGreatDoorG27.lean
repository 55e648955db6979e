/- Lemmas of this seat, laid together out of 5 texts: no statement of the seat is proved here. -/
import Derived.Test.YtdfklagiafmoiaaGreatDoorG26
/- The scene; what does not depend on the configuration. -/
namespace Go.Proofs.YtdfklagiafmoiaaGreatDoor
open Go.RowKit

def backs (g : Gr) : Cfg := (List.range g.ports.length).map fun v => (g.ports.getD v []).map fun t => portTo (g.ports.getD t.1.toNat []) v
/-- the cells of a scene in block b -/
structure SceneC (w : World) (b : Nat) (p : Pg) (g : Gr) (Av : Option Addr) (cv : Nat) (Ar : Option Addr) (cr : Nat) (Ai : Option Addr) (ci : Nat) (Ap : Option Addr) (cp : Nat) (Ab : Option Addr) (cb : Nat) : Prop where
  c0 : w.cell? ⟨b, 0, none⟩ = some (.string p.name)
  c1 : w.cell? ⟨b, 1, none⟩ = some (.slice Av p.vars.length cv)
  c2 : w.cell? ⟨b, 2, none⟩ = some (.slice Ar p.rules.length cr)
  c3 : w.cell? ⟨b, 3, none⟩ = some (.slice Ai g.ids.length ci)
  c4 : w.cell? ⟨b, 4, none⟩ = some (.slice Ap g.ports.length cp)
  c5 : w.cell? ⟨b, 5, none⟩ = some (.int .i64 (gmax g.ids))
  c6 : w.cell? ⟨b, 6, none⟩ = some (.slice Ab (backs g).length cb)
def SceneAt (w : World) (B b : Nat) (p : Pg) (g : Gr) : Prop := ∃ (Av : Option Addr) (cv : Nat) (Ar : Option Addr) (cr : Nat) (Ai : Option Addr) (ci : Nat) (Ap : Option Addr) (cp : Nat) (Ab : Option Addr) (cb : Nat), b < B ∧ SceneC w b p g Av cv Ar cr Ai ci Ap cp Ab cb ∧
  VarsAt w B (.slice Av p.vars.length cv) p.vars ∧ RulesAt w B (.slice Ar p.rules.length cr) p.rules ∧ IntsAt w B (.slice Ai g.ids.length ci) g.ids ∧ PortsAt w B (.slice Ap g.ports.length cp) g.ports ∧ ConfAt w B (.slice Ab (backs g).length cb) (backs g)
theorem SceneAt.to {w w' : World} {B B' b : Nat} {p : Pg} {g : Gr} (k : Holds_ B B' w w') (h : SceneAt w B b p g) : SceneAt w' B' b p g := by
  obtain ⟨Av, cv, Ar, cr, Ai, ci, Ap, cp, Ab, cb, hb, hc, h1, h2, h3, h4, h5⟩ := h
  have e : ∀ i, w'.cell? ⟨b, i, none⟩ = w.cell? ⟨b, i, none⟩ := fun i => k.2 ⟨b, i, none⟩ hb
  exact ⟨Av, cv, Ar, cr, Ai, ci, Ap, cp, Ab, cb, Nat.lt_of_lt_of_le hb k.1, ⟨by rw [e]; exact hc.c0, by rw [e]; exact hc.c1, by rw [e]; exact hc.c2, by rw [e]; exact hc.c3, by rw [e]; exact hc.c4, by rw [e]; exact hc.c5, by rw [e]; exact hc.c6⟩, VarsAt.to k h1, RulesAt.to k h2, IntsAt.to k h3, PortsAt.to k h4, ConfAt.to k h5⟩
def linkAt (g : Gr) (v : Nat) (i : Int) : Tm := (g.ports.getD v []).getD i.toNat (0, 0)
def factZ (g : Gr) (op : Int) (v : Nat) (i : Int) : Int :=
  if op = 6 then g.ids.length else if op = 7 then gmax g.ids else if op = 8 then g.ids.getD v 0 else if op = 9 then (g.ports.getD v []).length else if op = 10 then truZ ((v : Int) == 0) else if op = 11 then i
  else if op = 13 then g.ids.getD (linkAt g v i).1.toNat 0 else if op = 14 then (g.ports.getD (linkAt g v i).1.toNat []).length else if op = 15 then truZ ((linkAt g v i).1 == 0) else if op = 16 then (linkAt g v i).2 else ((backs g).getD v []).getD i.toNat 0
section
variable (p : Pg) (g : Gr) (hg : GrOk g) (b v : Nat) (hv : v < g.ports.length) (w : World) (h : SceneAt w w.heap.size b p g)
include hg hv h
set_option maxRecDepth 100000 in
set_option maxHeartbeats 16000000 in
theorem fact_own (op : Int) (z : Int) (h0 : 6 ≤ op) (h1 : op ≤ 11) : Calls Tryz.prog 190 #[.pointer (some ⟨b, 0, none⟩), .int .i64 op, .int .i64 (v : Int), .int .i64 z] w fun e w' => e = .returned (.int .i64 (factZ g op v z)) ∧ w = w' := by
  obtain ⟨Av, cv, Ar, cr, Ai, ci, Ap, cp, Ab, cb, hb, hc, -, -, hi, hq, -⟩ := h
  obtain ⟨c0, c1, c2, c3, c4, c5, c6⟩ := hc
  have hvi : v < g.ids.length := by rw [hg.len]; exact hv
  obtain ⟨ai, hA, hbi, d0⟩ := int_at hi hvi
  subst hA
  obtain ⟨ap, Ae, ce, hA, hbp, e0, -⟩ := row_at hq hv
  subst hA
  have HI := Lib.hid (show g.ids.getD v 0 = g.ids[v]'hvi from by rw [List.getD_eq_getElem?_getD, List.getElem?_eq_getElem hvi]; rfl)
  have HP := Lib.hid (show g.ports.getD v [] = g.ports[v]'hv from by rw [List.getD_eq_getElem?_getD, List.getElem?_eq_getElem hv]; rfl)
  have v0 : (0 : Int) ≤ (v : Int) := by omega
  have v1 : (v : Int) < (g.ids.length : Int) := by omega
  have v2 : (v : Int) < (g.ports.length : Int) := by omega
  clear hi hq hg
  rcases (by omega : op = 6 ∨ op = 7 ∨ op = 8 ∨ op = 9 ∨ op = 10 ∨ op = 11) with rfl | rfl | rfl | rfl | rfl | rfl
  all_goals
    go_enter Tryz.func190, Tryz.ntmps190
    go_wp2_with (first | (go_at_call 191; refine (truth_p _ _).mono ?_; rintro e w' ⟨rfl, rfl⟩))
    go_ret
    refine ⟨ret_int ?_, rfl⟩
    first
      | rfl
      | (unfold factZ; rw [HI.out]; rfl)
      | (unfold factZ; rw [HP.out]; rfl)
      | (unfold factZ; simp; done)
set_option maxRecDepth 100000 in
set_option maxHeartbeats 16000000 in
theorem fact_near (op : Int) (i : Nat) (hi : i < g.ports[v].length) (h0 : 13 ≤ op) (h1 : op ≤ 17) : Calls Tryz.prog 190 #[.pointer (some ⟨b, 0, none⟩), .int .i64 op, .int .i64 (v : Int), .int .i64 (i : Int)] w fun e w' => e = .returned (.int .i64 (factZ g op v i)) ∧ Below w.heap.size w w' := by
  obtain ⟨Av, cv, Ar, cr, Ai, ci, Ap, cp, Ab, cb, hb, hc, -, -, hI, hq, hB⟩ := h
  obtain ⟨c0, c1, c2, c3, c4, c5, c6⟩ := hc
  obtain ⟨ap, Ae, ce, hA, hbp, e0, he⟩ := row_at hq hv
  subst hA
  obtain ⟨ae, hA, hbe, f0, f1⟩ := pair_at he hi
  subst hA
  obtain ⟨_, _, _, _, hlk, _⟩ := hg.ids v hv
  obtain ⟨hu, -, -, -⟩ := hlk i hi hi
  have hLK := Lib.hid (show linkAt g v i = (g.ports[v]'hv)[i]'hi from by
    unfold linkAt
    rw [List.getD_eq_getElem?_getD (l := g.ports), List.getElem?_eq_getElem hv, Option.getD_some, Int.toNat_natCast, List.getD_eq_getElem?_getD, List.getElem?_eq_getElem hi]; rfl)
  have hbl : (backs g).length = g.ports.length := by simp [backs]
  have hvb : v < (backs g).length := by rw [hbl]; exact hv
  obtain ⟨ab, Af, cf, hA, hbb, m0, hf⟩ := conf_at hB hvb
  subst hA
  have hbrow : (backs g)[v]'hvb = (g.ports[v]'hv).map fun t => portTo (g.ports.getD t.1.toNat []) v := by
    simp [backs, List.getD_eq_getElem?_getD, hv]
  have hib : i < ((backs g)[v]'hvb).length := by rw [hbrow, List.length_map]; exact hi
  obtain ⟨af, hA, hbf, k0⟩ := int_at hf hib
  subst hA
  have HBK := Lib.hid (show ((backs g).getD v []).getD (i : Int).toNat 0 = ((backs g)[v]'hvb)[i]'hib from by
    rw [List.getD_eq_getElem?_getD (l := backs g), List.getElem?_eq_getElem hvb, Option.getD_some, Int.toNat_natCast, List.getD_eq_getElem?_getD, List.getElem?_eq_getElem hib]; rfl)
  obtain ⟨bz, hbz⟩ : ∃ bz, ((backs g)[v]'hvb)[i]'hib = bz := ⟨_, rfl⟩
  rw [hbz] at k0 HBK
  obtain ⟨bn, hbn⟩ : ∃ bn, ((backs g)[v]'hvb).length = bn := ⟨_, rfl⟩
  rw [hbn] at m0 hib
  obtain ⟨dn, hdn⟩ : ∃ dn, (g.ports[v]'hv).length = dn := ⟨_, rfl⟩
  have hi' := hi
  rw [hdn] at e0 hi'
  obtain ⟨t, ht⟩ : ∃ t : Tm, (g.ports[v]'hv)[i]'hi = t := ⟨_, rfl⟩
  rw [ht] at f0 f1 hu hLK
  obtain ⟨tu, wt⟩ := t
  dsimp only at f0 f1 hu
  obtain ⟨u, rfl⟩ : ∃ u : Nat, tu = u := ⟨tu.toNat, by omega⟩
  have huP : u < g.ports.length := by omega
  have huI : u < g.ids.length := by rw [hg.len]; exact huP
  obtain ⟨ai, hA, hbi, d0⟩ := int_at hI huI
  subst hA
  obtain ⟨ap2, Ag, cg, hA, hbq, g0, -⟩ := row_at hq huP
  injection hA with hA
  subst hA
  have HI := Lib.hid (show g.ids.getD u 0 = g.ids[u]'huI from by rw [List.getD_eq_getElem?_getD, List.getElem?_eq_getElem huI]; rfl)
  have HP := Lib.hid (show g.ports.getD u [] = g.ports[u]'huP from by rw [List.getD_eq_getElem?_getD, List.getElem?_eq_getElem huP]; rfl)
  have HM := Lib.hid ((Mem.start w).new 135 #[.int .i64 (u : Int), .int .i64 wt])
  have v0 : (0 : Int) ≤ (v : Int) := by omega
  have v2 : (v : Int) < (g.ports.length : Int) := by omega
  have v3 : (v : Int) < ((backs g).length : Int) := by omega
  have i0 : (0 : Int) ≤ (i : Int) := by omega
  have i1 : (i : Int) < (dn : Int) := by omega
  have i2 : (i : Int) < (bn : Int) := by omega
  have u0 : (0 : Int) ≤ (u : Int) := by omega
  have u1 : (u : Int) < (g.ids.length : Int) := by omega
  have u2 : (u : Int) < (g.ports.length : Int) := by omega
  have x1 : (ap.add v).block < w.heap.size := by rw [block_of_add]; exact hbp
  have x2 : (ae.add (i * 2)).block < w.heap.size := by rw [block_of_add]; exact hbe
  have x3 : (ai.add u).block < w.heap.size := by rw [block_of_add]; exact hbi
  have x4 : (ap.add u).block < w.heap.size := by rw [block_of_add]; exact hbp
  have x5 : (ab.add v).block < w.heap.size := by rw [block_of_add]; exact hbb
  have x6 : (af.add i).block < w.heap.size := by rw [block_of_add]; exact hbf
  obtain ⟨iz, hiz⟩ : ∃ iz, g.ids[u]'huI = iz := ⟨_, rfl⟩
  rw [hiz] at d0 HI
  obtain ⟨pn, hpn⟩ : ∃ pn, (g.ports[u]'huP).length = pn := ⟨_, rfl⟩
  rw [hpn] at g0
  have HPN := Lib.hid hpn
  clear hI hq hB he hf hbz hbn hdn ht hbrow hbl hu hlk hiz hpn
  rcases (by omega : op = 13 ∨ op = 14 ∨ op = 15 ∨ op = 16 ∨ op = 17) with rfl | rfl | rfl | rfl | rfl
  · go_enter Tryz.func190, Tryz.ntmps190
    go_upto_region 17 with fail
    go_quiet (fail)
    go_wp2
    go_ret
    exact ⟨ret_int (by rw [← HI.out]; unfold factZ; rw [hLK.out]; rfl), (HM.out.drewN _).bel⟩
  · go_enter Tryz.func190, Tryz.ntmps190
    go_upto_region 19 with fail
    go_quiet (fail)
    go_wp2
    go_ret
    exact ⟨ret_int (by rw [← HPN.out, ← HP.out]; unfold factZ; rw [hLK.out]; rfl), (HM.out.drewN _).bel⟩
  · go_enter Tryz.func190, Tryz.ntmps190
    go_wp2_with (first | (go_at_call 191; refine (truth_p _ _).mono ?_; rintro e w' ⟨rfl, rfl⟩))
    go_ret
    exact ⟨ret_int (by unfold factZ; rw [hLK.out]; rfl), HM.out.bel⟩
  · go_enter Tryz.func190, Tryz.ntmps190
    go_wp2
    go_ret
    exact ⟨ret_int (by unfold factZ; rw [hLK.out]; rfl), HM.out.bel⟩
  · go_enter Tryz.func190, Tryz.ntmps190
    go_wp2
    go_ret
    exact ⟨ret_int (by unfold factZ; rw [HBK.out]; rfl), HM.out.bel⟩
end
end Go.Proofs.YtdfklagiafmoiaaGreatDoor

/- Values: a term without operands. -/
namespace Go.Proofs.YtdfklagiafmoiaaGreatDoor
open Go.RowKit

/-- a walk's cells in block k -/
structure WalkC (w : World) (k b v : Nat) (Ac : Option Addr) (nc cc : Nat) (Ae : Option Addr) (ne ce : Nat) : Prop where
  c0 : w.cell? ⟨k, 0, none⟩ = some (.pointer (some ⟨b, 0, none⟩))
  c1 : w.cell? ⟨k, 1, none⟩ = some (.slice Ac nc cc)
  c2 : w.cell? ⟨k, 2, none⟩ = some (.int .i64 (v : Int))
  c3 : w.cell? ⟨k, 3, none⟩ = some (.slice Ae ne ce)
def WalkAt (w : World) (B k b : Nat) (p : Pg) (g : Gr) (c : Cfg) (v : Nat) (l : List Tm) : Prop := ∃ (Ac : Option Addr) (cc : Nat) (Ae : Option Addr) (ce : Nat), k < B ∧ WalkC w k b v Ac c.length cc Ae l.length ce ∧ SceneAt w B b p g ∧ ConfAt w B (.slice Ac c.length cc) c ∧ PairsAt w B (.slice Ae l.length ce) l
theorem WalkAt.to {w w' : World} {B B' k b v : Nat} {p : Pg} {g : Gr} {c : Cfg} {l : List Tm} (q : Holds_ B B' w w') (h : WalkAt w B k b p g c v l) : WalkAt w' B' k b p g c v l := by
  obtain ⟨Ac, cc, Ae, ce, hb, hc, h1, h2, h3⟩ := h
  have e : ∀ i, w'.cell? ⟨k, i, none⟩ = w.cell? ⟨k, i, none⟩ := fun i => q.2 ⟨k, i, none⟩ hb
  exact ⟨Ac, cc, Ae, ce, Nat.lt_of_lt_of_le hb q.1, ⟨by rw [e]; exact hc.c0, by rw [e]; exact hc.c1, by rw [e]; exact hc.c2, by rw [e]; exact hc.c3⟩, SceneAt.to q h1, ConfAt.to q h2, PairsAt.to q h3⟩
def cellZ (c : Cfg) (v : Nat) (x : Int) : Int := (c.getD v []).getD x.toNat 0
def leafZ (g : Gr) (c : Cfg) (v : Nat) (i : Int) (t : Tm) : Int :=
  if t.1 = 1 then t.2 else if t.1 = 2 then 1 else if t.1 = 3 then 0 else if t.1 = 4 then -1 else if t.1 = 5 then cellZ c v t.2 else if t.1 = 12 then cellZ c (linkAt g v i).1.toNat t.2 else factZ g t.1 v i
theorem cell_at {w : World} {B : Nat} {A : Option Addr} {n cc : Nat} {c : Cfg} (h : ConfAt w B (.slice A n cc) c) {v x : Nat} (hv : v < c.length) (hx : x < c[v].length) :
    ∃ ad ae ce, A = some ad ∧ ad.block < B ∧ w.cell? (ad.add v) = some (.slice (some ae) c[v].length ce) ∧ ae.block < B ∧ w.cell? (ae.add x) = some (.int .i64 (cellZ c v x)) := by
  obtain ⟨ad, Ae, ce, hA, hb, d0, he⟩ := conf_at h hv
  obtain ⟨ae, hA2, hb2, f0⟩ := int_at he hx
  subst hA2
  refine ⟨ad, ae, ce, hA, hb, d0, hb2, ?_⟩
  rw [f0]
  unfold cellZ
  rw [List.getD_eq_getElem?_getD (l := c), List.getElem?_eq_getElem hv, Option.getD_some, Int.toNat_natCast, List.getD_eq_getElem?_getD, List.getElem?_eq_getElem hx]; rfl
section
variable (p : Pg) (g : Gr) (c : Cfg) (hc : CfOk p g c) (l : List Tm) (k b v : Nat) (hv : v < g.ports.length) (w : World) (h : WalkAt w w.heap.size k b p g c v l)
include hc hv h
set_option maxRecDepth 100000 in
set_option maxHeartbeats 16000000 in
theorem leaf_own (t : Tm) (z : Int) (h1 : 1 ≤ t.1) (h5 : t.1 ≤ 5) (ha : argIn p.vars.length t) : Calls Tryz.prog 170 #[.pointer (some ⟨k, 0, none⟩), .agg #[.int .i64 t.1, .int .i64 t.2], .int .i64 z] w fun e w' => e = .returned (.int .i64 (leafZ g c v z t)) ∧ Below w.heap.size w w' := by
  obtain ⟨Ac, cc, Ae, ce, hk, hwc, -, hcf, -⟩ := h
  obtain ⟨c0, c1, c2, c3⟩ := hwc
  obtain ⟨op, arg⟩ := t
  dsimp only at *
  have HM := Lib.hid ((Mem.start w).new 186 #[.int .i64 op, .int .i64 arg])
  rcases (by omega : op = 1 ∨ op = 2 ∨ op = 3 ∨ op = 4 ∨ op = 5) with rfl | rfl | rfl | rfl | rfl
  case inr.inr.inr.inr =>
    obtain ⟨a0, a1⟩ := ha (.inl rfl)
    dsimp only at a0 a1
    obtain ⟨x, rfl⟩ : ∃ x : Nat, arg = x := ⟨arg.toNat, by omega⟩
    have hvc : v < c.length := by rw [hc.len]; exact hv
    obtain ⟨_, hlen, -⟩ := hc.at_ v hvc
    have hxc : x < (c[v]'hvc).length := by omega
    obtain ⟨ad, ae, cq, hA, hb1, d0, hb2, f0⟩ := cell_at hcf hvc hxc
    subst hA
    obtain ⟨n, hn⟩ : ∃ n, (c[v]'hvc).length = n := ⟨_, rfl⟩
    have hxn : x < n := by omega
    rw [hn] at d0
    obtain ⟨y, hy⟩ : ∃ y, cellZ c v x = y := ⟨_, rfl⟩
    rw [hy] at f0
    have HY := Lib.hid hy
    have v0 : (0 : Int) ≤ (v : Int) := by omega
    have v1 : (v : Int) < (c.length : Int) := by omega
    have x0 : (0 : Int) ≤ (x : Int) := by omega
    have x1 : (x : Int) < (n : Int) := by omega
    have y1 : (ad.add v).block < w.heap.size := by rw [block_of_add]; exact hb1
    have y2 : (ae.add x).block < w.heap.size := by rw [block_of_add]; exact hb2
    clear hcf hn hy hlen hxc
    go_enter Tryz.func170, Tryz.ntmps170
    go_upto_region 11 with fail
    go_quiet (fail)
    go_wp2
    go_ret
    exact ⟨ret_int (by rw [← HY.out]; rfl), (HM.out.drewN _).bel⟩
  all_goals
    clear hcf
    go_enter Tryz.func170, Tryz.ntmps170
    go_wp2
    go_ret
    exact ⟨rfl, HM.out.bel⟩
end
end Go.Proofs.YtdfklagiafmoiaaGreatDoor

/- Values: a term without operands that looks at the graph or at a neighbour. -/
namespace Go.Proofs.YtdfklagiafmoiaaGreatDoor
open Go.RowKit

section
variable (p : Pg) (g : Gr) (c : Cfg) (hc : CfOk p g c) (l : List Tm) (k b v : Nat) (hv : v < g.ports.length) (w : World) (h : WalkAt w w.heap.size k b p g c v l)
include hc hv h
set_option maxRecDepth 100000 in
set_option maxHeartbeats 16000000 in
theorem leaf_fact (t : Tm) (z : Int) (h0 : 6 ≤ t.1) (h17 : t.1 ≤ 17) (h12 : t.1 ≠ 12) (hn : 12 ≤ t.1 → ∃ i : Nat, z = i ∧ i < g.ports[v].length) : Calls Tryz.prog 170 #[.pointer (some ⟨k, 0, none⟩), .agg #[.int .i64 t.1, .int .i64 t.2], .int .i64 z] w fun e w' => e = .returned (.int .i64 (leafZ g c v z t)) ∧ Below w.heap.size w w' := by
  obtain ⟨Ac, cc, Ae, ce, hk, hwc, hsc, -, -⟩ := h
  obtain ⟨c0, c1, c2, c3⟩ := hwc
  obtain ⟨op, arg⟩ := t
  dsimp only at *
  have HM := Lib.hid ((Mem.start w).new 186 #[.int .i64 op, .int .i64 arg])
  have HSC := Lib.hid hsc
  have HLZ := Lib.hid (show leafZ g c v z (op, arg) = factZ g op v z from by unfold leafZ; rw [if_neg (by omega), if_neg (by omega), if_neg (by omega), if_neg (by omega), if_neg (by omega), if_neg (by omega)])
  have HF := Lib.hid (show ∀ X : World, SceneAt X X.heap.size b p g → Calls Tryz.prog 190 #[.pointer (some ⟨b, 0, none⟩), .int .i64 op, .int .i64 (v : Int), .int .i64 z] X fun e w' => e = .returned (.int .i64 (factZ g op v z)) ∧ Below X.heap.size X w' from fun X hX => by
    by_cases hop : op ≤ 11
    · refine (fact_own p g hc.fit.gr b v hv X hX op z h0 hop).mono ?_
      rintro e w' ⟨rfl, rfl⟩
      exact ⟨rfl, Below.refl _ _⟩
    · obtain ⟨i, rfl, hi⟩ := hn (by omega)
      exact fact_near p g hc.fit.gr b v hv X hX op i hi (by omega) h17)
  have e1 : (op == 1) = false := beq_eq_false_iff_ne.2 (by omega)
  have e2 : (op == 2) = false := beq_eq_false_iff_ne.2 (by omega)
  have e3 : (op == 3) = false := beq_eq_false_iff_ne.2 (by omega)
  have e4 : (op == 4) = false := beq_eq_false_iff_ne.2 (by omega)
  have e5 : (op == 5) = false := beq_eq_false_iff_ne.2 (by omega)
  have e6 : (op == 12) = false := beq_eq_false_iff_ne.2 h12
  clear hsc hn h0 h17 h12
  go_enter Tryz.func170, Tryz.ntmps170
  go_upto_region 14 with fail
  generalize hW : World.alloc _ _ = W at *
  have hM := HM.out
  obtain ⟨t0, t1, tf⟩ := blk2 (hM.get 0 rfl).2
  have hb := hM.bel
  have hz := (hM.get 0 rfl).2.lt
  have g0 := (hb.cell (p := ⟨k, 0, none⟩) hk).trans c0
  have g1 := (hb.cell (p := ⟨k, 1, none⟩) hk).trans c1
  have g2 := (hb.cell (p := ⟨k, 2, none⟩) hk).trans c2
  have hk2 : k < W.heap.size := by omega
  have hS := Lib.hid (SceneAt.to (Holds_.go (hb.drew)) HSC.out)
  clear hM hW c0 c1 c2 c3 hb
  have rule := below_rule W
  have rule2 := below_addr W
  go_region_held3 (fun X => Below W.heap.size W X) (first | exact Below.refl _ _ | exact Below.drew (Below.refl _ _) | assumption | exact below_step (by assumption) (by assumption))
    (first
      | (go_at_call 190; refine (HF.out _ hS.out).mono ?_; rintro e w2 ⟨rfl, hb2⟩))
  have HB := Lib.hid (HM.out.drew.below hb2).bel
  clear rule rule2
  go_wp2
  go_ret
  exact ⟨ret_int HLZ.out.symm, HB.out⟩
set_option maxRecDepth 100000 in
set_option maxHeartbeats 16000000 in
theorem leaf_next (arg : Int) (i : Nat) (hi : i < g.ports[v].length) (ha : argIn p.vars.length (12, arg)) : Calls Tryz.prog 170 #[.pointer (some ⟨k, 0, none⟩), .agg #[.int .i64 12, .int .i64 arg], .int .i64 (i : Int)] w fun e w' => e = .returned (.int .i64 (leafZ g c v i (12, arg))) ∧ Below w.heap.size w w' := by
  obtain ⟨Ac, cc, Ae, ce, hk, hwc, hsc, hcf, -⟩ := h
  obtain ⟨c0, c1, c2, c3⟩ := hwc
  obtain ⟨Av, cv, Ar, cr, Ai, ci, Ap, cp, Ab, cb, hb, hcs, -, -, -, hq, -⟩ := hsc
  obtain ⟨-, -, -, -, s4, -, -⟩ := hcs
  obtain ⟨a0, a1⟩ := ha (.inr rfl)
  dsimp only at a0 a1
  obtain ⟨x, rfl⟩ : ∃ x : Nat, arg = x := ⟨arg.toNat, by omega⟩
  obtain ⟨ap, Ag, cg, hA, hbp, e0, he⟩ := row_at hq hv
  subst hA
  obtain ⟨ae, hA, hbe, f0, -⟩ := pair_at he hi
  subst hA
  obtain ⟨_, _, _, _, hlk, _⟩ := hc.fit.gr.ids v hv
  obtain ⟨hu, -, -, -⟩ := hlk i hi hi
  have hLK := Lib.hid (show linkAt g v i = (g.ports[v]'hv)[i]'hi from by
    unfold linkAt
    rw [List.getD_eq_getElem?_getD (l := g.ports), List.getElem?_eq_getElem hv, Option.getD_some, Int.toNat_natCast, List.getD_eq_getElem?_getD, List.getElem?_eq_getElem hi]; rfl)
  obtain ⟨dn, hdn⟩ : ∃ dn, (g.ports[v]'hv).length = dn := ⟨_, rfl⟩
  have hi' := hi
  rw [hdn] at e0 hi'
  obtain ⟨t, ht⟩ : ∃ t : Tm, (g.ports[v]'hv)[i]'hi = t := ⟨_, rfl⟩
  rw [ht] at f0 hu hLK
  obtain ⟨tu, wt⟩ := t
  dsimp only at f0 hu
  obtain ⟨u, rfl⟩ : ∃ u : Nat, tu = u := ⟨tu.toNat, by omega⟩
  have huc : u < c.length := by rw [hc.len]; omega
  obtain ⟨_, hlen, -⟩ := hc.at_ u huc
  have hxc : x < (c[u]'huc).length := by omega
  obtain ⟨ad, af, cq, hA, hb1, d0, hb2, m0⟩ := cell_at hcf huc hxc
  subst hA
  obtain ⟨n, hn⟩ : ∃ n, (c[u]'huc).length = n := ⟨_, rfl⟩
  have hxn : x < n := by omega
  rw [hn] at d0
  obtain ⟨y, hy⟩ : ∃ y, cellZ c u x = y := ⟨_, rfl⟩
  rw [hy] at m0
  have HY := Lib.hid (show leafZ g c v i (12, (x : Int)) = y from by unfold leafZ; dsimp only; rw [if_neg (by decide), if_neg (by decide), if_neg (by decide), if_neg (by decide), if_neg (by decide), if_pos rfl, hLK.out]; exact hy)
  have HM := Lib.hid ((Mem.start w).new 186 #[.int .i64 12, .int .i64 (x : Int)])
  have v0 : (0 : Int) ≤ (v : Int) := by omega
  have v1 : (v : Int) < (g.ports.length : Int) := by omega
  have i0 : (0 : Int) ≤ (i : Int) := by omega
  have i1 : (i : Int) < (dn : Int) := by omega
  have u0 : (0 : Int) ≤ (u : Int) := by omega
  have u1 : (u : Int) < (c.length : Int) := by omega
  have x0 : (0 : Int) ≤ (x : Int) := by omega
  have x1 : (x : Int) < (n : Int) := by omega
  have y1 : (ad.add u).block < w.heap.size := by rw [block_of_add]; exact hb1
  have y2 : (af.add x).block < w.heap.size := by rw [block_of_add]; exact hb2
  have y3 : (ap.add v).block < w.heap.size := by rw [block_of_add]; exact hbp
  have y4 : (ae.add (i * 2)).block < w.heap.size := by rw [block_of_add]; exact hbe
  clear hcf hn hy hlen hxc hq he hlk hu ht hdn ha hLK
  go_enter Tryz.func170, Tryz.ntmps170
  go_upto_region 13 with fail
  go_quiet (fail)
  go_wp2
  go_ret
  exact ⟨ret_int HY.out.symm, (HM.out.drewN _).bel⟩
/-- a leaf's value -/
theorem leafv_p (t : Tm) (z : Int) (h1 : 1 ≤ t.1) (h17 : t.1 ≤ 17) (ha : argIn p.vars.length t) (hn : 12 ≤ t.1 → ∃ i : Nat, z = i ∧ i < g.ports[v].length) : Calls Tryz.prog 170 #[.pointer (some ⟨k, 0, none⟩), .agg #[.int .i64 t.1, .int .i64 t.2], .int .i64 z] w fun e w' => e = .returned (.int .i64 (leafZ g c v z t)) ∧ Below w.heap.size w w' := by
  by_cases h5 : t.1 ≤ 5
  · exact leaf_own p g c hc l k b v hv w h t z h1 h5 ha
  · by_cases h12 : t.1 = 12
    · obtain ⟨op, arg⟩ := t
      dsimp only at *
      subst h12
      obtain ⟨i, rfl, hi⟩ := hn (by omega)
      exact leaf_next p g c hc l k b v hv w h arg i hi ha
    · exact leaf_fact p g c hc l k b v hv w h t z (by omega) h17 h12 hn
end
end Go.Proofs.YtdfklagiafmoiaaGreatDoor

/- The value of an expression, plain. -/
namespace Go.Proofs.YtdfklagiafmoiaaGreatDoor

/-- neighbours are looked at under an aggregate alone -/
def Ex.bdOk : Bool → Ex → Prop
  | bd, .z t => 12 ≤ t.1 → bd = true
  | bd, .u t a => a.bdOk (bd || agg t.1)
  | bd, .b _ a c => a.bdOk bd ∧ c.bdOk bd
  | bd, .i _ a c d => a.bdOk bd ∧ c.bdOk bd ∧ d.bdOk bd
theorem triple_ne {a b c : Int} (h : triple a b c ≠ 0) : a ≠ 0 ∧ b ≠ 0 ∧ c ≠ 0 := by
  unfold triple at h
  split at h
  · exact absurd rfl h
  · rename_i h1; omega
theorem double_ne {op a b : Int} (h : double op a b ≠ 0) : a ≠ 0 ∧ b ≠ 0 := by
  unfold double at h
  (repeat' split at h) <;> first | exact absurd rfl h | omega
theorem single_ne {op a : Int} (h : single op a ≠ 0) : a ≠ 0 := by
  unfold single at h
  split at h
  · rename_i h1; rw [h1]; unfold wants; split <;> omega
  · exact absurd rfl h
theorem ty_bd (ks : List Int) : ∀ (e : Ex) (bd : Bool), e.ty ks bd ≠ 0 → e.bdOk bd
  | .z t, bd, h => fun h12 => by
    cases bd
    · exact absurd (show (Ex.z t).ty ks false = 0 from by show leafTy ks false t = 0; unfold leafTy; rw [if_pos ⟨rfl, .inr h12⟩]) h
    · rfl
  | .u t a, bd, h => ty_bd ks a _ (single_ne h)
  | .b t a c, bd, h => ⟨ty_bd ks a _ (double_ne h).1, ty_bd ks c _ (double_ne h).2⟩
  | .i t a c d, bd, h => ⟨ty_bd ks a _ (triple_ne h).1, ty_bd ks c _ (triple_ne h).2.1, ty_bd ks d _ (triple_ne h).2.2⟩
/-- the value of an expression at node v, with the neighbour at port i -/
def ev (g : Gr) (c : Cfg) (v : Nat) : Int → Ex → Int
  | i, .z t => leafZ g c v i t
  | i, .u t a => if t.1 ≤ 19 then unZ t.1 (ev g c v i a) else foldZ t.1 ((List.range (g.ports.getD v []).length).map fun (j : Nat) => ev g c v (j : Int) a)
  | i, .b t a d => binZ t.1 (ev g c v i a) (ev g c v i d)
  | i, .i _ a d f => if ev g c v i a ≠ 0 then ev g c v i d else ev g c v i f
/-- two configurations that agree at a node and at its neighbours -/
def Near (g : Gr) (c c' : Cfg) (v : Nat) : Prop := c.getD v [] = c'.getD v [] ∧ ∀ j : Nat, j < (g.ports.getD v []).length → c.getD (linkAt g v j).1.toNat [] = c'.getD (linkAt g v j).1.toNat []
theorem ev_near {g : Gr} {c c' : Cfg} {v : Nat} (h : Near g c c' v) : ∀ (e : Ex) (bd : Bool) (i : Int), e.bdOk bd → (bd = true → ∃ j : Nat, i = j ∧ j < (g.ports.getD v []).length) → ev g c v i e = ev g c' v i e
  | .z t, bd, i, hb, hi => by
    show leafZ g c v i t = leafZ g c' v i t
    unfold leafZ cellZ
    rw [h.1]
    by_cases h12 : t.1 = 12
    · obtain ⟨j, rfl, hj⟩ := hi (hb (by omega))
      rw [h.2 j hj]
    · rw [if_neg h12, if_neg h12]
  | .u t a, bd, i, hb, hi => by
    show (if t.1 ≤ 19 then _ else _) = (if t.1 ≤ 19 then _ else _)
    by_cases h19 : t.1 ≤ 19
    · rw [if_pos h19, if_pos h19]
      have hag : agg t.1 = false := by unfold agg; simp; omega
      have hb2 : a.bdOk bd := by have : a.bdOk (bd || agg t.1) := hb; rwa [hag, Bool.or_false] at this
      rw [ev_near h a bd i hb2 hi]
    · rw [if_neg h19, if_neg h19]
      congr 1
      apply List.map_congr_left
      intro j hj
      exact ev_near h a _ j hb (fun _ => ⟨j, rfl, List.mem_range.1 hj⟩)
  | .b t a d, bd, i, hb, hi => by
    show binZ _ _ _ = binZ _ _ _
    rw [ev_near h a bd i hb.1 hi, ev_near h d bd i hb.2 hi]
  | .i t a d f, bd, i, hb, hi => by
    show (if ev g c v i a ≠ 0 then _ else _) = (if ev g c' v i a ≠ 0 then _ else _)
    rw [ev_near h a bd i hb.1 hi, ev_near h d bd i hb.2.1 hi, ev_near h f bd i hb.2.2 hi]
end Go.Proofs.YtdfklagiafmoiaaGreatDoor

/- The walk that evaluates: a leaf; one operand. -/
namespace Go.Proofs.YtdfklagiafmoiaaGreatDoor
open Go.RowKit

def ValOk (p : Pg) (g : Gr) (c : Cfg) (l : List Tm) (k b v : Nat) (t : Ex) : Prop := ∀ (pl : Nat) (z : Int) (_hz : z = pl) (r : List Tm) (port : Int) (bd : Bool) (w : World) (_hd : l.drop pl = t.flat ++ r) (_ha : ∀ x ∈ t.flat, argIn p.vars.length x) (_hb : t.bdOk bd) (_hp : bd = true → ∃ j : Nat, port = j ∧ j < (g.ports.getD v []).length)
    (_h : WalkAt w w.heap.size k b p g c v l), Calls Tryz.prog 160 #[.pointer (some ⟨k, 0, none⟩), .int .i64 z, .int .i64 port] w (RdPost w (ev g c v port t) (pl + t.flat.length))
section
variable (p : Pg) (g : Gr) (c : Cfg) (hc : CfOk p g c) (l : List Tm) (hl : l.length ≤ 1000) (k b v : Nat) (hv : v < g.ports.length)
include hc hl hv
set_option maxRecDepth 100000 in
set_option maxHeartbeats 4000000 in
theorem val_leaf (t : Tm) (ht : ar t.1 = 0) : ValOk p g c l k b v (.z t) := by
  intro pl z hz r port bd w hd hav hbo hpo h
  subst hz
  obtain ⟨hkl, hx, -⟩ := drop_head (x := t) (r := r) hd
  have hop : 1 ≤ t.1 ∧ t.1 ≤ 17 := by unfold ar at ht; (repeat' split at ht) <;> omega
  have hgd : g.ports.getD v [] = g.ports[v]'hv := by rw [List.getD_eq_getElem?_getD, List.getElem?_eq_getElem hv]; rfl
  have HA := Lib.hid (hav t (by simp [Ex.flat]))
  have HP := Lib.hid (show 12 ≤ t.1 → ∃ i : Nat, port = i ∧ i < (g.ports[v]'hv).length from fun h12 => by
    have := hpo (hbo h12); rw [hgd] at this; exact this)
  have HW := Lib.hid h
  obtain ⟨Ac, cc, Ae, ce, hk, hwc, -, -, hpr⟩ := h
  obtain ⟨c0, c1, c2, c3⟩ := hwc
  obtain ⟨ad, hA, hb, d0, d1⟩ := pair_at hpr hkl
  subst hA
  rw [hx] at d0 d1
  have k0 : (0 : Int) ≤ (pl : Int) := by omega
  have k1 : (pl : Int) < (l.length : Int) := by omega
  have HM := Lib.hid ((Mem.start w).new 186 #[.int .i64 t.1, .int .i64 t.2])
  have hb' : (ad.add (pl * 2)).block < w.heap.size := by rw [block_of_add]; exact hb
  have h17 : t.1 ≤ 17 := hop.2
  have HOP := Lib.hid hop
  have w1 := IntWalk.i64_in ((pl : Int) + 1) (by omega)
  clear hd hav hx hbo hpo hpr hop
  go_enter Tryz.func160, Tryz.ntmps160
  go_wp2_with fail
  refine (leafv_p p g c hc l k b v hv _ (WalkAt.to (Holds_.go HM.out.bel) HW.out) t port HOP.out.1 HOP.out.2 HA.out HP.out).mono ?_
  rintro e w2 ⟨rfl, hb2⟩
  have HB := Lib.hid (HM.out.below hb2).bel
  clear hb2 HM c0 c1 c2 c3 d0 d1
  go_wp2
  go_ret2
  exact RdPost.mk rfl (by simp [Ex.flat]) HB.out
end
end Go.Proofs.YtdfklagiafmoiaaGreatDoor
