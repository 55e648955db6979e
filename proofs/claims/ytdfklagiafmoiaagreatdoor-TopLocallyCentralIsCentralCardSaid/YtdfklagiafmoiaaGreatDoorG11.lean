/- Lemmas of this seat, laid together out of 4 texts: no statement of the seat is proved here. -/
import Derived.Test.YtdfklagiafmoiaaGreatDoorG10
/- The reference's ends of a variable's values. -/
namespace Go.Proofs.YtdfklagiafmoiaaGreatDoor
open Go.RowKit

theorem gmax_snoc (l : List Int) (k : Nat) (h : k < l.length) : gmax (l.take (k + 1)) = max (gmax (l.take k)) l[k] := by
  rw [List.take_succ_eq_append_getElem h]; unfold gmax; rw [List.foldl_append]; rfl
theorem gmax_bd {l : List Int} (h : ∀ x ∈ l, 0 ≤ x ∧ x ≤ 255) : 0 ≤ gmax l ∧ gmax l ≤ 255 := by
  have : ∀ (l : List Int) (a : Int), (∀ x ∈ l, 0 ≤ x ∧ x ≤ 255) → 0 ≤ a → a ≤ 255 → 0 ≤ l.foldl max a ∧ l.foldl max a ≤ 255 := by
    intro l
    induction l with
    | nil => intro a _ h0 h1; exact ⟨h0, h1⟩
    | cons x l ih =>
      intro a hx h0 h1
      have := hx x (by simp)
      exact ih (max a x) (fun y hy => hx y (by simp [hy])) (by omega) (by omega)
  exact this l 0 h (by omega) (by omega)
def GtRel (w : World) (cs : Array Value) (l : List Int) (m i : Value) (wr : World) : Prop := ∃ k : Nat, i = .int .i64 k ∧ k ≤ l.length ∧ m = .int .i64 (gmax (l.take k)) ∧ Mem w [cB w.heap.size w.heap.size 29 cs] wr
set_option maxHeartbeats 2000000 in
theorem great_r (g : Gr) (hl : g.ids.length ≤ 1000) (vp : Value) (Ai : Option Addr) (ci : Nat) (w : World) (hi : IntsAt w w.heap.size (.slice Ai g.ids.length ci) g.ids) :
    Calls Tryz.prog 79 #[.agg #[.slice Ai g.ids.length ci, vp]] w fun e w' => e = .returned (.int .i64 (gmax g.ids)) ∧ Below w.heap.size w w' := by
  have HI := Lib.hid hi
  have HM0 := Lib.hid ((Mem.start w).new 29 #[.slice Ai g.ids.length ci, vp])
  clear hi
  go_enter Tryz.func79, Tryz.ntmps79
  go_wp2
  go_loopw [3, 4] (GtRel w #[.slice Ai g.ids.length ci, vp] g.ids) (fun _ i _ => g.ids.length - (intOf i).toNat)
  case atStart => exact ⟨0, rfl, Nat.zero_le _, rfl, HM0.out⟩
  case round =>
    obtain ⟨k, rfl, hk, rfl, hM⟩ := hrel
    have HM := Lib.hid hM
    obtain ⟨p0, p1, pf⟩ := blk2 (hM.get 0 rfl).2
    clear hM HM0
    by_cases hlt : k < g.ids.length
    · obtain ⟨ad, hA, hb, c0⟩ := int_at (IntsAt.to (Holds_.go HM.out.bel) HI.out) hlt
      subst hA
      have HS := Lib.hid (gmax_snoc g.ids k hlt)
      obtain ⟨z, hz⟩ : ∃ z : Int, g.ids[k]'hlt = z := ⟨_, rfl⟩
      rw [hz] at c0 HS
      have HLT := Lib.hid hlt
      clear hz
      generalize gmax (g.ids.take k) = m at *
      have k0 : (0 : Int) ≤ (k : Int) := by omega
      have k1 : (k : Int) < (g.ids.length : Int) := by omega
      go_wp2
      all_goals
        go_roundw
        case rel => exact ⟨k + 1, by go_num, HLT.out, val_int (by rw [HS.out]; omega), HM.out⟩
        case measure => simp [intOf]; omega
    · obtain rfl : k = g.ids.length := by omega
      have HF := Lib.hid (show gmax (g.ids.take g.ids.length) = gmax g.ids by rw [List.take_length])
      generalize gmax (g.ids.take g.ids.length) = m at *
      go_wp2
      go_ret
      exact ⟨ret_int HF.out, HM.out.bel⟩

def lohi (n : Nat) (gr : Int) (deg : Nat) (x : Vr) : Int × Int := if x.kind = 2 then (0, 1) else if x.kind = 3 then (-1, (deg : Int) - 1) else (x.lo, x.hi + x.pn * n + x.pid * gr)
theorem numB_kind {x : Vr} (h : numB x = true) : x.kind = 1 ∨ x.kind = 2 ∨ x.kind = 3 := by
  unfold numB at h
  split at h
  · simp at h; omega
  · omega
theorem numB_int {x : Vr} (h : numB x = true) (hk : x.kind = 1) : 0 ≤ x.lo ∧ x.lo ≤ 4096 ∧ 0 ≤ x.pn ∧ x.pn ≤ 255 ∧ 0 ≤ x.pid ∧ x.pid ≤ 255 ∧ (x.pn = 0 ∨ x.pid = 0) ∧ -4096 ≤ x.hi ∧ x.hi ≤ 4096 := by
  unfold numB at h
  rw [if_neg (by omega)] at h
  have := of_decide_eq_true h
  omega
theorem mul_bd {a b : Int} (h0 : 0 ≤ a) (h1 : a ≤ 255) (h2 : 0 ≤ b) (h3 : b ≤ 255) : 0 ≤ a * b ∧ a * b ≤ 65025 := by
  refine ⟨Int.mul_nonneg h0 h2, ?_⟩
  calc a * b ≤ 255 * b := Int.mul_le_mul_of_nonneg_right h1 h2
    _ ≤ 65025 := by omega
set_option maxRecDepth 100000 in
set_option maxHeartbeats 4000000 in
theorem ends_r (p : Pg) (g : Gr) (_hv : p.vars.length ≤ 10) (hgi : ∀ x ∈ g.ids, 0 ≤ x ∧ x ≤ 255) (hgl : g.ids.length ≤ 30) (hgn : g.ports.length ≤ 30) (v j : Nat) (hvn : v < g.ports.length) (hdeg : g.ports[v].length ≤ 30) (hj : j < p.vars.length) (hnum : numB p.vars[j] = true) (vp vg : Value) (w : World) (hP : ProgAt w w.heap.size vp p) (hG : GraphAt w w.heap.size vg g) :
    Calls Tryz.prog 48 #[vp, vg, .int .i64 (v : Int), .int .i64 (j : Int)] w fun e w' => e = .returned (.tuple #[.int .i64 (lohi g.ports.length (gmax g.ids) g.ports[v].length p.vars[j]).1, .int .i64 (lohi g.ports.length (gmax g.ids) g.ports[v].length p.vars[j]).2]) ∧ Below w.heap.size w w' := by
  obtain ⟨vv, vr, rfl, hpv, -⟩ := hP
  obtain ⟨Av, cv, rfl⟩ := vars_sl hpv
  obtain ⟨vi, vq, rfl, hi, hq⟩ := hG
  obtain ⟨Ai, ci, rfl⟩ := ints_sl hi
  obtain ⟨Ap, cp, rfl⟩ := ports_sl hq
  have HI := Lib.hid hi
  have hM := ((Mem.start w).new 25 #[.string p.name, .slice Av p.vars.length cv, vr]).new 29 #[.slice Ai g.ids.length ci, .slice Ap g.ports.length cp]
  simp only [World.size_alloc] at hM
  obtain ⟨ad, hA, hb, c0, c1, c2, c3, c4, c5⟩ := var_at hpv hj
  subst hA
  obtain ⟨ap, Ae, ce, hA, hbp, d0, -⟩ := row_at hq hvn
  subst hA
  obtain ⟨gr, hgr⟩ : ∃ gr, gmax g.ids = gr := ⟨_, rfl⟩
  have hgb := gmax_bd hgi
  rw [hgr] at hgb ⊢
  have HGR := Lib.hid hgr
  obtain ⟨x, hx⟩ : ∃ x : Vr, p.vars[j]'hj = x := ⟨_, rfl⟩
  rw [hx] at c0 c1 c2 c3 c4 c5 hnum ⊢
  obtain ⟨dg, hdg⟩ : ∃ dg : Nat, (g.ports[v]'hvn).length = dg := ⟨_, rfl⟩
  rw [hdg] at d0 hdeg ⊢
  clear hpv hi hq hgr hx hdg
  have v0 : (0 : Int) ≤ (v : Int) := by omega
  have v1 : (v : Int) < (g.ports.length : Int) := by omega
  have j0 : (0 : Int) ≤ (j : Int) := by omega
  have j1 : (j : Int) < (p.vars.length : Int) := by omega
  have hb' : (ad.add (j * 6)).block < w.heap.size := by rw [block_of_add]; exact hb
  have hbp' : (ap.add v).block < w.heap.size := by rw [block_of_add]; exact hbp
  rcases numB_kind hnum with hk | hk | hk
  · obtain ⟨n0, n1, n2, n3, n4, n5, -, n7, n8⟩ := numB_int hnum hk
    have HL := Lib.hid (show lohi g.ports.length gr dg x = (x.lo, x.hi + x.pn * g.ports.length + x.pid * gr) by unfold lohi; rw [if_neg (by omega), if_neg (by omega)])
    have m1 := mul_bd n2 n3 (b := (g.ports.length : Int)) (by omega) (by omega)
    have m2 := mul_bd n4 n5 hgb.1 hgb.2
    rw [hk] at c1
    clear hnum hk hgi
    obtain ⟨nm, kd, lo, hi, pn, pid⟩ := x
    dsimp only at *
    have w1 := IntWalk.i64_in (pn * (g.ports.length : Int)) (by omega)
    have w2 := IntWalk.i64_in (hi + pn * (g.ports.length : Int)) (by omega)
    have w3 := IntWalk.i64_in (pid * gr) (by omega)
    have w4 := IntWalk.i64_in (hi + pn * (g.ports.length : Int) + pid * gr) (by omega)
    go_enter Tryz.func48, Tryz.ntmps48
    go_upto_region 6 with fail
    generalize hW : World.alloc _ _ = W at *
    have HM := Lib.hid hM
    have hbw := hM.bel
    have hwz := hM.size
    obtain ⟨p0, p1, p2, pf⟩ := blk3 (hM.get 1 rfl).2
    obtain ⟨q0, q1, qf⟩ := blk2 (hM.get 0 rfl).2
    have hk1 : w.heap.size + 1 < W.heap.size := (hM.get 0 rfl).2.lt
    have hk0 : w.heap.size < W.heap.size := by omega
    have t0 := (hbw.cell (p := ad.add (j * 6)) hb').trans c0
    have t2 := (hbw.cell (p := ⟨(ad.add (j * 6)).block, (ad.add (j * 6)).off + 2, none⟩) hb').trans c2
    have t3 := (hbw.cell (p := ⟨(ad.add (j * 6)).block, (ad.add (j * 6)).off + 3, none⟩) hb').trans c3
    have t4 := (hbw.cell (p := ⟨(ad.add (j * 6)).block, (ad.add (j * 6)).off + 4, none⟩) hb').trans c4
    have t5 := (hbw.cell (p := ⟨(ad.add (j * 6)).block, (ad.add (j * 6)).off + 5, none⟩) hb').trans c5
    have hbe : (ad.add (j * 6)).block < W.heap.size := by omega
    have hi1 := Lib.hid (IntsAt.to (Holds_.go (hbw.drew)) HI.out)
    clear hM hW c0 c1 c2 c3 c4 c5 d0 hbw
    have rule := below_rule W
    have rule2 := below_addr W
    go_region_held3 (fun X => Below W.heap.size W X) (first | exact Below.refl _ _ | exact Below.drew (Below.refl _ _) | assumption | exact below_step (by assumption) (by assumption))
      (first
        | (go_at_call 79; refine (great_r g (by omega) _ Ai ci W.drew hi1.out).mono ?_; rintro e w2 ⟨rfl, hb2⟩; rw [HGR.out]))
    have HB := Lib.hid (HM.out.drew.below hb2)
    clear rule rule2
    go_wp2
    go_ret2
    exact ⟨by rw [HL.out]; rfl, HB.out.bel⟩
  · have HL := Lib.hid (show lohi g.ports.length gr dg x = (0, 1) by unfold lohi; rw [if_pos hk])
    rw [hk] at c1
    go_enter Tryz.func48, Tryz.ntmps48
    go_wp2
    go_ret2
    exact ⟨by rw [HL.out]; rfl, hM.bel⟩
  · have HL := Lib.hid (show lohi g.ports.length gr dg x = (-1, (dg : Int) - 1) by unfold lohi; rw [if_neg (by omega), if_pos hk])
    rw [hk] at c1
    have w1 := IntWalk.i64_in ((dg : Int) - 1) (by omega)
    go_enter Tryz.func48, Tryz.ntmps48
    go_upto_region 5 with fail
    go_quiet (fail)
    go_wp2
    go_ret2
    exact ⟨by rw [HL.out]; rfl, (hM.drewN _).bel⟩
end Go.Proofs.YtdfklagiafmoiaaGreatDoor

/- The reference's Fits and Check: a valid program on a valid graph with a configuration. -/
namespace Go.Proofs.YtdfklagiafmoiaaGreatDoor
open Go.RowKit

theorem gr_ids {g : Gr} (h : GrOk g) : ∀ x ∈ g.ids, 0 ≤ x ∧ x ≤ 255 := by
  intro x hx
  obtain ⟨j, hj, rfl⟩ := List.getElem_of_mem hx
  obtain ⟨_, _, h1, _⟩ := h.ids j (by have := h.len; omega)
  exact h1
def FitAt (p : Pg) (g : Gr) (j : Nat) : Prop := ∃ h : j < p.vars.length, p.vars[j].kind = 1 → 0 ≤ (lohi g.ports.length (gmax g.ids) 0 p.vars[j]).2 - (lohi g.ports.length (gmax g.ids) 0 p.vars[j]).1 ∧ (lohi g.ports.length (gmax g.ids) 0 p.vars[j]).2 - (lohi g.ports.length (gmax g.ids) 0 p.vars[j]).1 ≤ 4095
structure FitOk (p : Pg) (g : Gr) : Prop where
  pg : PgOk p
  gr : GrOk g
  f : ∀ j, j < p.vars.length → FitAt p g j
theorem lohi_int {n : Nat} {gr : Int} {d : Nat} {x : Vr} (h : x.kind = 1) : lohi n gr d x = lohi n gr 0 x := by unfold lohi; rw [if_neg (by omega), if_neg (by omega), if_neg (by omega), if_neg (by omega)]
theorem lohi_bd {n : Nat} {gr : Int} {d : Nat} {x : Vr} (h : numB x = true) (hn : n ≤ 30) (hd : d ≤ 30) (h0 : 0 ≤ gr) (h1 : gr ≤ 255) : -1 ≤ (lohi n gr d x).1 ∧ (lohi n gr d x).1 ≤ 4096 ∧ -4096 ≤ (lohi n gr d x).2 ∧ (lohi n gr d x).2 ≤ 140000 := by
  rcases numB_kind h with hk | hk | hk
  · obtain ⟨n0, n1, n2, n3, n4, n5, -, n7, n8⟩ := numB_int h hk
    have m1 := mul_bd n2 n3 (b := (n : Int)) (by omega) (by omega)
    have m2 := mul_bd n4 n5 h0 h1
    unfold lohi
    rw [if_neg (by omega), if_neg (by omega)]
    dsimp only
    omega
  · unfold lohi; rw [if_pos hk]; dsimp only; omega
  · unfold lohi; rw [if_neg (by omega), if_pos hk]; dsimp only; omega
def FiRel (w : World) (cp cg : Array Value) (p : Pg) (g : Gr) (i : Value) (wr : World) : Prop := ∃ k : Nat, i = .int .i64 k ∧ k ≤ p.vars.length ∧ (∀ j, j < k → FitAt p g j) ∧ Mem w [cB w.heap.size (w.heap.size + 1) 29 cg, cB w.heap.size w.heap.size 25 cp] wr

set_option maxRecDepth 100000 in
set_option maxHeartbeats 8000000 in
theorem fits_r (p : Pg) (g : Gr) (hlp : LightP p) (hlg : LightG g) (vp vg : Value) (w : World) (hP : ProgAt w w.heap.size vp p) (hG : GraphAt w w.heap.size vg g) : Calls Tryz.prog 47 #[vp, vg] w (ErrPost w (FitOk p g)) := by
  have HP := Lib.hid hP
  have HG := Lib.hid hG
  obtain ⟨vv, vr, rfl, hpv, -⟩ := hP
  obtain ⟨Av, cv, rfl⟩ := vars_sl hpv
  obtain ⟨vi, vq, rfl, -, -⟩ := hG
  have HV := Lib.hid hpv
  have hM := ((Mem.start w).new 25 #[.string p.name, .slice Av p.vars.length cv, vr]).new 29 #[vi, vq]
  simp only [World.size_alloc] at hM
  have HM0 := Lib.hid hM
  have HLP := Lib.hid hlp
  have HLG := Lib.hid hlg
  have hv10 := hlp.v
  clear hpv hM hlp hlg
  go_enter Tryz.func47, Tryz.ntmps47
  go_wp2_with fail
  refine (pvalid_r p HLP.out _ _ (ProgAt.to (Holds_.go HM0.out.bel) HP.out)).mono ?_
  rintro e w1 ⟨b, rfl, hb', hb1⟩
  have HPB := Lib.hid hb'
  have HM1 := Lib.hid (HM0.out.below hb1)
  clear hb' hb1 HM0
  obtain ⟨q0, q1, qf⟩ := blk2 (HM1.out.get 0 rfl).2
  cases b
  · go_wp2
    go_ret
    exact ErrPost.no (by decide) HM1.out.bel
  have HPO := Lib.hid (HPB.out rfl)
  clear HPB
  go_wp2_with fail
  refine (gvalid_r g HLG.out _ _ (GraphAt.to (Holds_.go HM1.out.bel) HG.out)).mono ?_
  rintro e w2 ⟨b, rfl, hb', hb2⟩
  have HGB := Lib.hid hb'
  have HM2 := Lib.hid (HM1.out.below hb2)
  clear hb' hb2 HM1 q0 q1 qf
  cases b
  · go_wp2
    go_ret
    exact ErrPost.no (by decide) HM2.out.bel
  have HGO := Lib.hid (HGB.out rfl)
  clear HGB
  have hnlo := HGO.out.lo
  have hnhi := HGO.out.hi
  have hilen : g.ids.length ≤ 30 := by have := HGO.out.len; omega
  go_wp2
  go_loopw [5] (FiRel w #[.string p.name, .slice Av p.vars.length cv, vr] #[vi, vq] p g) (fun i _ => p.vars.length - (intOf i).toNat)
  case atStart => exact ⟨0, rfl, Nat.zero_le _, (fun j hj => by omega), HM2.out⟩
  case round =>
    obtain ⟨k, rfl, hk, hok, hM⟩ := hrel
    have HM := Lib.hid hM
    have HOK := Lib.hid hok
    obtain ⟨p0, p1, p2, pf⟩ := blk3 (hM.get 1 rfl).2
    obtain ⟨q0, q1, qf⟩ := blk2 (hM.get 0 rfl).2
    clear hM hok HM2
    by_cases hlt : k < p.vars.length
    · have HNX := Lib.hid (HPO.out.nums k hlt hlt)
      have HE := Lib.hid (ends_r p g (by omega) (gr_ids HGO.out) hilen (by omega) 0 k (by omega) (HLG.out.p 0 (by omega)) hlt HNX.out _ _ _ (ProgAt.to (Holds_.go HM.out.bel) HP.out) (GraphAt.to (Holds_.go HM.out.bel) HG.out))
      have hbd := lohi_bd (n := g.ports.length) (gr := gmax g.ids) (d := g.ports[0].length) HNX.out (by omega) (HLG.out.p 0 (by omega)) (gmax_bd (gr_ids HGO.out)).1 (gmax_bd (gr_ids HGO.out)).2
      have HLI := Lib.hid (fun h => lohi_int (n := g.ports.length) (gr := gmax g.ids) (d := g.ports[0].length) (x := p.vars[k]'hlt) h)
      have HFA := Lib.hid (show FitAt p g k = ∃ h : k < p.vars.length, p.vars[k].kind = 1 → 0 ≤ (lohi g.ports.length (gmax g.ids) 0 p.vars[k]).2 - (lohi g.ports.length (gmax g.ids) 0 p.vars[k]).1 ∧ (lohi g.ports.length (gmax g.ids) 0 p.vars[k]).2 - (lohi g.ports.length (gmax g.ids) 0 p.vars[k]).1 ≤ 4095 from rfl)
      have HLT := Lib.hid hlt
      obtain ⟨lo, hlo⟩ : ∃ lo, (lohi g.ports.length (gmax g.ids) (g.ports[0]'(by omega)).length (p.vars[k]'hlt)).1 = lo := ⟨_, rfl⟩
      obtain ⟨hi, hhi⟩ : ∃ hi, (lohi g.ports.length (gmax g.ids) (g.ports[0]'(by omega)).length (p.vars[k]'hlt)).2 = hi := ⟨_, rfl⟩
      rw [hlo, hhi] at hbd
      have HLO := Lib.hid hlo
      have HHI := Lib.hid hhi
      have HE2 := Lib.hid (show Calls _ _ _ _ _ from by have h := HE.out; rw [hlo, hhi] at h; exact h)
      clear HE hlo hhi
      have k0 : (0 : Int) ≤ (k : Int) := by omega
      have k1 : (k : Int) < (p.vars.length : Int) := by omega
      go_wp2_with fail
      refine HE2.out.mono ?_
      rintro e w3 ⟨rfl, hb3⟩
      have HM3 := Lib.hid (HM.out.below hb3)
      clear hb3 HE2 HM p0 p1 p2 pf q0 q1 qf
      obtain ⟨p0, p1, p2, pf⟩ := blk3 (HM3.out.get 1 rfl).2
      obtain ⟨ad, hA, hb, c0, c1, c2, c3, c4, c5⟩ := var_at (VarsAt.to (Holds_.go HM3.out.bel) HV.out) hlt
      subst hA
      obtain ⟨kd, hkd⟩ : ∃ kd, (p.vars[k]'hlt).kind = kd := ⟨_, rfl⟩
      rw [hkd] at c1
      have HKD := Lib.hid hkd
      clear hkd c0 c2 c3 c4 c5
      by_cases h1 : kd = 1
      · subst h1
        cases hin : inR (hi - lo) 0 4095
        · have HIN := Lib.hid hin
          clear hin
          go_wp2_with (go_at_call 49; refine (in1_r _ _ _ _).mono ?_; rintro e w' ⟨rfl, rfl⟩; rw [HIN.out])
          go_ret
          exact ErrPost.no (by decide) HM3.out.bel
        · have HIN := Lib.hid hin
          clear hin
          go_wp2_with (go_at_call 49; refine (in1_r _ _ _ _).mono ?_; rintro e w' ⟨rfl, rfl⟩; rw [HIN.out])
          go_roundw
          case rel =>
            refine ⟨k + 1, by go_num, by have := HLT.out; omega, fun j hj => ?_, HM3.out⟩
            rcases (by omega : j < k ∨ j = k) with h3 | rfl
            · exact HOK.out j h3
            · refine ⟨HLT.out, fun hk1 => ?_⟩
              have e1 := HLI.out hk1
              rw [← e1, HLO.out, HHI.out]
              exact inR_true HIN.out
          case measure => simp [intOf]; omega
      · have e1 : (kd == 1) = false := beq_eq_false_iff_ne.2 h1
        have H1 := Lib.hid h1
        clear h1
        go_wp2
        go_roundw
        case rel =>
          refine ⟨k + 1, by go_num, by have := HLT.out; omega, fun j hj => ?_, HM3.out⟩
          rcases (by omega : j < k ∨ j = k) with h3 | rfl
          · exact HOK.out j h3
          · exact ⟨HLT.out, fun hk1 => absurd (HKD.out.symm.trans hk1) H1.out⟩
        case measure => simp [intOf]; omega
    · obtain rfl : k = p.vars.length := by omega
      go_wp2
      go_ret
      exact ⟨0, rfl, (fun _ => ⟨HPO.out, HGO.out, HOK.out⟩), HM.out.bel⟩
end Go.Proofs.YtdfklagiafmoiaaGreatDoor

/- The reference's Check and Valid of a configuration. -/
namespace Go.Proofs.YtdfklagiafmoiaaGreatDoor
open Go.RowKit

abbrev Cfg := List (List Int)
/-- the ends of a variable's values at a node -/
def lh (p : Pg) (g : Gr) (v j : Nat) : Int × Int := lohi g.ports.length (gmax g.ids) (g.ports.getD v []).length (p.vars.getD j ⟨⟨#[]⟩, 0, 0, 0, 0, 0⟩)
def CvTo (p : Pg) (g : Gr) (v : Nat) (l : List Int) (k : Nat) : Prop := ∀ j (h : j < l.length), j < k → (lh p g v j).1 ≤ l[j] ∧ l[j] ≤ (lh p g v j).2
def CvAt (p : Pg) (g : Gr) (c : Cfg) (v : Nat) : Prop := ∃ h : v < c.length, c[v].length = p.vars.length ∧ CvTo p g v c[v] c[v].length
structure CfOk (p : Pg) (g : Gr) (c : Cfg) : Prop where
  fit : FitOk p g
  len : c.length = g.ports.length
  at_ : ∀ v, v < c.length → CvAt p g c v
structure LightC (c : Cfg) : Prop where
  n : c.length ≤ 30
  v : ∀ v (h : v < c.length), c[v].length ≤ 10
theorem bd_eq {a b x lo hi y : Int} (h1 : a = lo) (h2 : b = hi) (h3 : x = y) (h : lo ≤ y ∧ y ≤ hi) : a ≤ x ∧ x ≤ b := by subst h1 h2 h3; exact h
def CkM (w : World) (cp cg : Array Value) (wr : World) : Prop := Mem w [cB w.heap.size (w.heap.size + 1) 29 cg, cB w.heap.size w.heap.size 25 cp] wr
def CkRelO (w : World) (cp cg : Array Value) (p : Pg) (g : Gr) (c : Cfg) (i : Value) (wr : World) : Prop := ∃ k : Nat, i = .int .i64 k ∧ k ≤ c.length ∧ (∀ v, v < k → CvAt p g c v) ∧ CkM w cp cg wr
def CkRelI (w : World) (cp cg : Array Value) (p : Pg) (g : Gr) (v : Nat) (l : List Int) (i : Value) (wr : World) : Prop := ∃ k : Nat, i = .int .i64 k ∧ k ≤ l.length ∧ CvTo p g v l k ∧ CkM w cp cg wr

set_option maxRecDepth 100000 in
set_option maxHeartbeats 8000000 in
theorem ccheck_r (p : Pg) (g : Gr) (c : Cfg) (hlp : LightP p) (hlg : LightG g) (hlc : LightC c) (vp vg : Value) (Ac : Option Addr) (cc : Nat) (w : World) (hP : ProgAt w w.heap.size vp p) (hG : GraphAt w w.heap.size vg g) (hC : ConfAt w w.heap.size (.slice Ac c.length cc) c) :
    Calls Tryz.prog 30 #[vp, vg, .slice Ac c.length cc] w (ErrPost w (CfOk p g c)) := by
  have HP := Lib.hid hP
  have HG := Lib.hid hG
  have HC := Lib.hid hC
  obtain ⟨vv, vr, rfl, hpv, -⟩ := hP
  obtain ⟨Av, cv, rfl⟩ := vars_sl hpv
  obtain ⟨vi, vq, rfl, -, hq⟩ := hG
  obtain ⟨Aq, cq, rfl⟩ := ports_sl hq
  have hM := ((Mem.start w).new 25 #[.string p.name, .slice Av p.vars.length cv, vr]).new 29 #[vi, .slice Aq g.ports.length cq]
  simp only [World.size_alloc] at hM
  have HM0 := Lib.hid hM
  have HLP := Lib.hid hlp
  have HLG := Lib.hid hlg
  have HLC := Lib.hid hlc
  have hv10 := hlp.v
  have hc30 := hlc.n
  clear hpv hM hlp hlg hlc hC hq
  go_enter Tryz.func30, Tryz.ntmps30
  go_wp2_with fail
  refine (fits_r p g HLP.out HLG.out _ _ _ (ProgAt.to (Holds_.go HM0.out.bel) HP.out) (GraphAt.to (Holds_.go HM0.out.bel) HG.out)).mono ?_
  rintro e w1 ⟨z, rfl, hz, hb1⟩
  have HZ := Lib.hid hz
  have HM1 := Lib.hid (HM0.out.below hb1)
  clear hz hb1 HM0
  by_cases h0 : z = 0
  case neg =>
    have e0 : (z != 0) = true := by simpa using h0
    have H0 := Lib.hid h0
    clear h0
    go_wp2
    go_ret
    exact ErrPost.no H0.out HM1.out.bel
  have HF := Lib.hid (HZ.out h0)
  subst h0
  have hnlo := HF.out.gr.lo
  have hnhi := HF.out.gr.hi
  have hilen : g.ids.length ≤ 30 := by have := HF.out.gr.len; omega
  clear HZ
  obtain ⟨p0, p1, p2, pf⟩ := blk3 (HM1.out.get 1 rfl).2
  obtain ⟨q0, q1, qf⟩ := blk2 (HM1.out.get 0 rfl).2
  by_cases hlen : c.length = g.ports.length
  case neg =>
    have e1 : ((c.length : Int) != (g.ports.length : Int)) = true := by simp; omega
    go_wp2
    go_ret
    exact ErrPost.no (by decide) HM1.out.bel
  have e1 : ((c.length : Int) != (g.ports.length : Int)) = false := by simp; omega
  have HLEN := Lib.hid hlen
  clear hlen
  go_wp2
  clear p0 p1 p2 pf q0 q1 qf
  go_loopw [8] (CkRelO w #[.string p.name, .slice Av p.vars.length cv, vr] #[vi, .slice Aq g.ports.length cq] p g c) (fun i _ => c.length - (intOf i).toNat)
  case atStart => exact ⟨0, rfl, Nat.zero_le _, (fun j hj => by omega), HM1.out⟩
  case round =>
    obtain ⟨k, rfl, hk, hok, hM⟩ := hrel
    have HM := Lib.hid hM
    have HOK := Lib.hid hok
    obtain ⟨p0, p1, p2, pf⟩ := blk3 (Mem.get hM 1 rfl).2
    obtain ⟨q0, q1, qf⟩ := blk2 (Mem.get hM 0 rfl).2
    clear hM hok HM1
    by_cases hlt : k < c.length
    · have hkn : k < g.ports.length := by have := HLEN.out; omega
      obtain ⟨ad, Ae, ce, hA, hb, c0, he⟩ := conf_at (ConfAt.to (Holds_.go (Mem.bel HM.out)) HC.out) hlt
      subst hA
      have HLT := Lib.hid hlt
      have HCL := Lib.hid (HLC.out.v k hlt)
      have hcl := HCL.out
      have k0 : (0 : Int) ≤ (k : Int) := by omega
      have k1 : (k : Int) < (c.length : Int) := by omega
      by_cases hcv : (c[k]'hlt).length = p.vars.length
      case neg =>
        have e2 : (((c[k]'hlt).length : Int) != (p.vars.length : Int)) = true := by simp; omega
        go_upto_region 9 with fail
        go_quiet (fail)
        go_wp2
        go_ret
        exact ErrPost.no (by decide) (Mem.drewN HM.out _).bel
      have e2 : (((c[k]'hlt).length : Int) != (p.vars.length : Int)) = false := by simp; omega
      have HCV := Lib.hid hcv
      clear hcv he
      go_upto_region 9 with fail
      go_quiet (fail)
      go_wp2
      have HMD := Lib.hid (show CkM w _ _ _ from Mem.drewN HM.out nq)
      clear p0 p1 p2 pf q0 q1 qf c0 HM
      go_loopw [9] (CkRelI w #[.string p.name, .slice Av p.vars.length cv, vr] #[vi, .slice Aq g.ports.length cq] p g k (c[k]'hlt)) (fun i _ => (c[k]'hlt).length - (intOf i).toNat)
      case atStart => exact ⟨0, rfl, Nat.zero_le _, (fun j hj h => by omega), HMD.out⟩
      case round =>
        obtain ⟨j, rfl, hj, hcv, hM2⟩ := hrel
        have HM2 := Lib.hid hM2
        have HCT := Lib.hid hcv
        obtain ⟨p0, p1, p2, pf⟩ := blk3 (Mem.get hM2 1 rfl).2
        obtain ⟨q0, q1, qf⟩ := blk2 (Mem.get hM2 0 rfl).2
        obtain ⟨ad', Ae, ce, hA, hb, c0, he⟩ := conf_at (ConfAt.to (Holds_.go (Mem.bel HM2.out)) HC.out) hlt
        obtain rfl : ad = ad' := by injection hA
        clear hM2 hcv HMD hA
        by_cases hjl : j < (c[k]'hlt).length
        · have hjv : j < p.vars.length := by have := HCV.out; omega
          have HJL := Lib.hid hjl
          have HNX := Lib.hid (HF.out.pg.nums j hjv hjv)
          have HLH := Lib.hid (show lh p g k j = lohi g.ports.length (gmax g.ids) (g.ports[k]'hkn).length (p.vars[j]'hjv) by
            unfold lh
            rw [List.getD_eq_getElem?_getD, List.getElem?_eq_getElem hkn, List.getD_eq_getElem?_getD, List.getElem?_eq_getElem hjv]; rfl)
          have HE := ends_r p g (by omega) (gr_ids HF.out.gr) hilen (by omega) k j hkn (HLG.out.p k hkn) hjv HNX.out _ _ _ (ProgAt.to (Holds_.go (Mem.bel HM2.out)) HP.out) (GraphAt.to (Holds_.go (Mem.bel HM2.out)) HG.out)
          rw [← HLH.out] at HE
          obtain ⟨lo, hlo⟩ : ∃ lo, (lh p g k j).1 = lo := ⟨_, rfl⟩
          obtain ⟨hi, hhi⟩ : ∃ hi, (lh p g k j).2 = hi := ⟨_, rfl⟩
          rw [hlo, hhi] at HE
          have HLO := Lib.hid hlo
          have HHI := Lib.hid hhi
          have HE2 := Lib.hid HE
          clear HE hlo hhi HLH he
          have j0 : (0 : Int) ≤ (j : Int) := by omega
          have j1 : (j : Int) < ((c[k]'hlt).length : Int) := by omega
          go_wp2_with fail
          refine HE2.out.mono ?_
          rintro e w3 ⟨rfl, hb3⟩
          have HM3 := Lib.hid (Mem.below HM2.out hb3)
          clear hb3 HE2 HM2 p0 p1 p2 pf q0 q1 qf c0
          obtain ⟨ad', Ae, ce, hA, hb, c0, he⟩ := conf_at (ConfAt.to (Holds_.go HM3.out.bel) HC.out) hlt
          obtain rfl : ad = ad' := by injection hA
          obtain ⟨ae, hA2, hbe, d0⟩ := int_at he hjl
          subst hA2
          obtain ⟨y, hy⟩ : ∃ y : Int, (c[k]'hlt)[j]'hjl = y := ⟨_, rfl⟩
          rw [hy] at d0
          have HY := Lib.hid hy
          clear hA he hy
          cases hin : inR y lo hi
          · have HIN := Lib.hid hin
            clear hin
            go_wp2_with (go_at_call 49; refine (in1_r _ _ _ _).mono ?_; rintro e w' ⟨rfl, rfl⟩; rw [HIN.out])
            go_ret
            exact ErrPost.no (by decide) HM3.out.bel
          · have HIN := Lib.hid hin
            clear hin
            go_wp2_with (go_at_call 49; refine (in1_r _ _ _ _).mono ?_; rintro e w' ⟨rfl, rfl⟩; rw [HIN.out])
            go_roundw
            case rel =>
              refine ⟨j + 1, by go_num, HJL.out, fun m hm h => ?_, HM3.out⟩
              rcases (by omega : m < j ∨ m = j) with h3 | rfl
              · exact HCT.out m hm h3
              · exact bd_eq HLO.out HHI.out HY.out (inR_true HIN.out)
            case measure => simp [intOf]; omega
        · obtain rfl : j = (c[k]'hlt).length := by omega
          clear he
          go_wp2
          go_roundw
          case rel =>
            refine ⟨k + 1, by go_num, HLT.out, fun m hm => ?_, HM2.out⟩
            rcases (by omega : m < k ∨ m = k) with h3 | rfl
            · exact HOK.out m h3
            · exact ⟨HLT.out, HCV.out, HCT.out⟩
          case measure => simp [intOf]; omega
    · obtain rfl : k = c.length := by omega
      go_wp2
      go_ret
      exact ⟨0, rfl, (fun _ => ⟨HF.out, HLEN.out, HOK.out⟩), Mem.bel HM.out⟩

theorem cvalid_r (p : Pg) (g : Gr) (c : Cfg) (hlp : LightP p) (hlg : LightG g) (hlc : LightC c) (vp vg : Value) (Ac : Option Addr) (cc : Nat) (w : World) (hP : ProgAt w w.heap.size vp p) (hG : GraphAt w w.heap.size vg g) (hC : ConfAt w w.heap.size (.slice Ac c.length cc) c) :
    Calls Tryz.prog 17 #[vp, vg, .slice Ac c.length cc] w (BoolPost w (CfOk p g c)) := by
  have HP := Lib.hid hP
  have HG := Lib.hid hG
  have HC := Lib.hid hC
  obtain ⟨vv, vr, rfl, -, -⟩ := hP
  obtain ⟨vi, vq, rfl, -, -⟩ := hG
  have hM := ((Mem.start w).new 25 #[.string p.name, vv, vr]).new 29 #[vi, vq]
  simp only [World.size_alloc] at hM
  have HM0 := Lib.hid hM
  clear hM hC
  go_enter Tryz.func17, Tryz.ntmps17
  go_wp2_with fail
  refine (ccheck_r p g c hlp hlg hlc _ _ Ac cc _ (ProgAt.to (Holds_.go HM0.out.bel) HP.out) (GraphAt.to (Holds_.go HM0.out.bel) HG.out) (ConfAt.to (Holds_.go HM0.out.bel) HC.out)).mono ?_
  rintro e w1 ⟨z, rfl, hz, hb1⟩
  have HZ := Lib.hid hz
  have HB := Lib.hid (HM0.out.below hb1).bel
  clear hz hb1
  by_cases h0 : z = 0
  · subst h0
    have HZ2 := Lib.hid (HZ.out rfl)
    go_wp2
    go_ret
    exact ⟨true, rfl, (fun _ => HZ2.out), HB.out⟩
  · have e0 : (z == 0) = false := beq_eq_false_iff_ne.2 h0
    go_wp2
    go_ret
    exact BoolPost.no HB.out
end Go.Proofs.YtdfklagiafmoiaaGreatDoor

/- The bounds of the arguments: light programs, graphs, configurations. -/
namespace Go.Proofs.YtdfklagiafmoiaaGreatDoor
open Go.RowKit

theorem lexpr_r (l : List Tm) (A : Option Addr) (c : Nat) (w : World) : Calls Tryz.prog 46 #[.slice A l.length c] w fun e w' => e = .returned (.bool (decide (l.length ≤ 250))) ∧ w = w' := by
  go_enter Tryz.func46, Tryz.ntmps46
  go_wp2
  go_ret
  exact ⟨ret_bool (by first | rfl | (refine bool_ext ?_; simp only [decide_eq_true_eq]; omega)), rfl⟩
def LgRel (w : World) (cs : Array Value) (g : Gr) (i : Value) (wr : World) : Prop := ∃ k : Nat, i = .int .i64 k ∧ k ≤ g.ports.length ∧ (∀ j (h : j < g.ports.length), j < k → g.ports[j].length ≤ 30) ∧ Mem w [cB w.heap.size w.heap.size 29 cs] wr
theorem all_step {α : Type} {l : List α} {P : α → Prop} {k : Nat} (h : ∀ j (hj : j < l.length), j < k → P l[j]) (hk : k < l.length) (h1 : P l[k]) : ∀ j (hj : j < l.length), j < k + 1 → P l[j] := by
  intro j hj hjk
  rcases (by omega : j < k ∨ j = k) with h4 | rfl
  · exact h j hj h4
  · exact h1
set_option maxHeartbeats 2000000 in
theorem lgraph_r (g : Gr) (hi : g.ids.length ≤ 9223372036854775807) (hp : g.ports.length ≤ 9223372036854775807) (v : Value) (w : World) (hG : GraphAt w w.heap.size v g) : Calls Tryz.prog 29 #[v] w (BoolPost w (LightG g)) := by
  obtain ⟨vi, vq, rfl, hi', hq⟩ := hG
  obtain ⟨Ai, ci, rfl⟩ := ints_sl hi'
  obtain ⟨Ap, cp, rfl⟩ := ports_sl hq
  have HQ := Lib.hid hq
  have HM0 := Lib.hid ((Mem.start w).new 29 #[.slice Ai g.ids.length ci, .slice Ap g.ports.length cp])
  clear hi' hq
  by_cases h1 : 30 < g.ids.length
  · have e1 : (30 : Int) < (g.ids.length : Int) := by omega
    go_enter Tryz.func29, Tryz.ntmps29
    go_wp2
    go_ret
    exact BoolPost.no HM0.out.bel
  by_cases h2 : 30 < g.ports.length
  · have e1 : ¬ (30 : Int) < (g.ids.length : Int) := by omega
    have e2 : (30 : Int) < (g.ports.length : Int) := by omega
    go_enter Tryz.func29, Tryz.ntmps29
    go_wp2
    go_ret
    exact BoolPost.no HM0.out.bel
  have e1 : ¬ (30 : Int) < (g.ids.length : Int) := by omega
  have e2 : ¬ (30 : Int) < (g.ports.length : Int) := by omega
  go_enter Tryz.func29, Tryz.ntmps29
  go_wp2
  go_loopw [3] (LgRel w #[.slice Ai g.ids.length ci, .slice Ap g.ports.length cp] g) (fun i _ => g.ports.length - (intOf i).toNat)
  case atStart => exact ⟨0, rfl, Nat.zero_le _, (fun j h hj => by omega), HM0.out⟩
  case round =>
    obtain ⟨k, rfl, hk, hok, hM⟩ := hrel
    have HM := Lib.hid hM
    have HOK := Lib.hid hok
    obtain ⟨q0, q1, qf⟩ := blk2 (hM.get 0 rfl).2
    clear hM hok HM0
    by_cases hlt : k < g.ports.length
    · obtain ⟨ad, Ae, ce, hA, hb, c0, he⟩ := row_at (PortsAt.to (Holds_.go HM.out.bel) HQ.out) hlt
      subst hA
      have HX := Lib.hid (fun h => all_step (P := fun l => l.length ≤ 30) HOK.out hlt h)
      clear he
      generalize g.ports[k]'hlt = x at *
      have k0 : (0 : Int) ≤ (k : Int) := by omega
      have k1 : (k : Int) < (g.ports.length : Int) := by omega
      have HLT := Lib.hid hlt
      by_cases h3 : 30 < x.length
      · have e3 : (30 : Int) < (x.length : Int) := by omega
        go_wp2
        go_ret
        exact BoolPost.no HM.out.bel
      · have e3 : ¬ (30 : Int) < (x.length : Int) := by omega
        go_wp2
        go_roundw
        case rel => exact ⟨k + 1, by go_num, HLT.out, HX.out (by omega), HM.out⟩
        case measure => simp [intOf]; omega
    · obtain rfl : k = g.ports.length := by omega
      go_wp2
      go_ret
      exact ⟨true, rfl, (fun _ => ⟨by omega, by omega, fun v hv => HOK.out v hv hv⟩), HM.out.bel⟩
def LcRel (w : World) (c : Cfg) (i : Value) (wr : World) : Prop := ∃ k : Nat, i = .int .i64 k ∧ k ≤ c.length ∧ (∀ j (h : j < c.length), j < k → c[j].length ≤ 10) ∧ Below w.heap.size w wr
set_option maxHeartbeats 2000000 in
theorem lconf_r (c : Cfg) (hc : c.length ≤ 9223372036854775807) (A : Option Addr) (cc : Nat) (w : World) (hC : ConfAt w w.heap.size (.slice A c.length cc) c) : Calls Tryz.prog 16 #[.slice A c.length cc] w (BoolPost w (LightC c)) := by
  have HC := Lib.hid hC
  clear hC
  by_cases h1 : 30 < c.length
  · have e1 : (30 : Int) < (c.length : Int) := by omega
    go_enter Tryz.func16, Tryz.ntmps16
    go_wp2
    go_ret
    exact BoolPost.no (Below.refl _ _)
  have e1 : ¬ (30 : Int) < (c.length : Int) := by omega
  go_enter Tryz.func16, Tryz.ntmps16
  go_wp2
  go_loopw [3] (LcRel w c) (fun i _ => c.length - (intOf i).toNat)
  case atStart => exact ⟨0, rfl, Nat.zero_le _, (fun j h hj => by omega), Below.refl _ _⟩
  case round =>
    obtain ⟨k, rfl, hk, hok, hb⟩ := hrel
    have HB := Lib.hid hb
    have HOK := Lib.hid hok
    clear hb hok
    by_cases hlt : k < c.length
    · obtain ⟨ad, Ae, ce, hA, hb, c0, he⟩ := conf_at (ConfAt.to (Holds_.go HB.out) HC.out) hlt
      subst hA
      have HX := Lib.hid (fun h => all_step (P := fun l => l.length ≤ 10) HOK.out hlt h)
      clear he
      generalize c[k]'hlt = x at *
      have k0 : (0 : Int) ≤ (k : Int) := by omega
      have k1 : (k : Int) < (c.length : Int) := by omega
      have HLT := Lib.hid hlt
      by_cases h3 : 10 < x.length
      · have e3 : (10 : Int) < (x.length : Int) := by omega
        go_wp2
        go_ret
        exact BoolPost.no HB.out
      · have e3 : ¬ (10 : Int) < (x.length : Int) := by omega
        go_wp2
        go_roundw
        case rel => exact ⟨k + 1, by go_num, HLT.out, HX.out (by omega), HB.out⟩
        case measure => simp [intOf]; omega
    · obtain rfl : k = c.length := by omega
      go_wp2
      go_ret
      exact ⟨true, rfl, (fun _ => ⟨by omega, fun v hv => HOK.out v hv hv⟩), HB.out⟩

def VmRel {α : Type} (w : World) (cs : Array Value) (P : α → Prop) (l : List α) (i : Value) (wr : World) : Prop := ∃ k : Nat, i = .int .i64 k ∧ k ≤ l.length ∧ (∀ j (h : j < l.length), j < k → P l[j]) ∧ Mem w [cB w.heap.size w.heap.size 25 cs] wr
def VsRel (w : World) (cs : Array Value) (g : Nat) (cr : Array Value) (l : List St) (i : Value) (wr : World) : Prop := ∃ k : Nat, i = .int .i64 k ∧ k ≤ l.length ∧ (∀ j (h : j < l.length), j < k → l[j].2.length ≤ 250) ∧ Mem w [cB w.heap.size g 76 cr, cB w.heap.size w.heap.size 25 cs] wr
set_option maxRecDepth 100000 in
set_option maxHeartbeats 8000000 in
theorem lprog_r (p : Pg) (v : Value) (w : World) (hP : ProgAt w w.heap.size v p) : Calls Tryz.prog 28 #[v] w (BoolPost w (LightP p)) := by
  obtain ⟨vv, vr, rfl, hpv, hpr⟩ := hP
  obtain ⟨Av, cv, rfl⟩ := vars_sl hpv
  obtain ⟨Ar, cr, rfl⟩ := rules_sl hpr
  have HV := Lib.hid hpv
  have HR := Lib.hid hpr
  have HM0 := Lib.hid ((Mem.start w).new 25 #[.string p.name, .slice Av p.vars.length cv, .slice Ar p.rules.length cr])
  clear hpv hpr
  by_cases h0 : 40 < p.name.size
  · have e0 : (40 : Int) < (p.name.size : Int) := by omega
    go_enter Tryz.func28, Tryz.ntmps28
    go_wp2
    go_ret
    exact BoolPost.no HM0.out.bel
  have e0 : ¬ (40 : Int) < (p.name.size : Int) := by omega
  by_cases h1 : 10 < p.vars.length
  · have e1 : (10 : Int) < (p.vars.length : Int) := by omega
    go_enter Tryz.func28, Tryz.ntmps28
    go_wp2
    go_ret
    exact BoolPost.no HM0.out.bel
  have e1 : ¬ (10 : Int) < (p.vars.length : Int) := by omega
  by_cases h2 : 16 < p.rules.length
  · have e2 : (16 : Int) < (p.rules.length : Int) := by omega
    go_enter Tryz.func28, Tryz.ntmps28
    go_wp2
    go_ret
    exact BoolPost.no HM0.out.bel
  have e2 : ¬ (16 : Int) < (p.rules.length : Int) := by omega
  go_enter Tryz.func28, Tryz.ntmps28
  go_wp2
  go_loopw [3] (VmRel w #[.string p.name, .slice Av p.vars.length cv, .slice Ar p.rules.length cr] (fun _ => True) p.vars) (fun i _ => p.vars.length - (intOf i).toNat)
  case atStart => exact ⟨0, rfl, Nat.zero_le _, (fun j h hj => by omega), HM0.out⟩
  case round =>
    obtain ⟨k, rfl, hk, -, hM⟩ := hrel
    have HM := Lib.hid hM
    obtain ⟨p0, p1, p2, pf⟩ := blk3 (hM.get 0 rfl).2
    clear hM HM0
    by_cases hlt : k < p.vars.length
    · obtain ⟨ad, hA, hb, c0, c1, c2, c3, c4, c5⟩ := var_at (VarsAt.to (Holds_.go HM.out.bel) HV.out) hlt
      subst hA
      generalize p.vars[k]'hlt = x at *
      have HLT := Lib.hid hlt
      have k0 : (0 : Int) ≤ (k : Int) := by omega
      have k1 : (k : Int) < (p.vars.length : Int) := by omega
      by_cases h3 : 40 < x.name.size
      · have e3 : (40 : Int) < (x.name.size : Int) := by omega
        go_wp2
        go_ret
        exact BoolPost.no HM.out.bel
      · have e3 : ¬ (40 : Int) < (x.name.size : Int) := by omega
        go_wp2
        go_roundw
        case rel => exact ⟨k + 1, by go_num, HLT.out, (fun _ _ _ => trivial), HM.out⟩
        case measure => simp [intOf]; omega
    · obtain rfl : k = p.vars.length := by omega
      have HM1 := Lib.hid HM.out
      go_wp2
      clear p0 p1 p2 pf HM
      go_loopw [4] (VmRel w #[.string p.name, .slice Av p.vars.length cv, .slice Ar p.rules.length cr] LightR p.rules) (fun i _ => p.rules.length - (intOf i).toNat)
      case atStart => exact ⟨0, rfl, Nat.zero_le _, (fun j h hj => by omega), HM1.out⟩
      case round =>
        obtain ⟨k, rfl, hk, hok, hM⟩ := hrel
        have HM := Lib.hid hM
        have HOK := Lib.hid hok
        obtain ⟨p0, p1, p2, pf⟩ := blk3 (hM.get 0 rfl).2
        clear hM hok HM1
        by_cases hlt : k < p.rules.length
        · obtain ⟨ad, Ag, cg, As, cs, hA, hb, d0, d1, d2, hg, hs⟩ := rule_at HR.out hlt
          subst hA
          have hb' : (ad.add (k * 3)).block < w.heap.size := by rw [block_of_add]; exact hb
          have c0 := (HM.out.bel.cell (p := ad.add (k * 3)) hb').trans d0
          have c1 := (HM.out.bel.cell (p := ⟨(ad.add (k * 3)).block, (ad.add (k * 3)).off + 1, none⟩) hb').trans d1
          have c2 := (HM.out.bel.cell (p := ⟨(ad.add (k * 3)).block, (ad.add (k * 3)).off + 2, none⟩) hb').trans d2
          clear d0 d1 d2
          have HX := Lib.hid (fun h => all_step (P := LightR) HOK.out hlt h)
          have HS := Lib.hid hs
          clear hg hs
          generalize p.rules[k]'hlt = x at *
          have HLT := Lib.hid hlt
          have k0 : (0 : Int) ≤ (k : Int) := by omega
          have k1 : (k : Int) < (p.rules.length : Int) := by omega
          by_cases h3 : 40 < x.name.size
          · have e3 : (40 : Int) < (x.name.size : Int) := by omega
            go_wp2
            go_ret
            exact BoolPost.no (HM.out.alloc _).bel
          have e3 : ¬ (40 : Int) < (x.name.size : Int) := by omega
          by_cases h4 : 10 < x.sets.length
          · have e4 : (10 : Int) < (x.sets.length : Int) := by omega
            go_wp2
            go_ret
            exact BoolPost.no (HM.out.alloc _).bel
          have e4 : ¬ (10 : Int) < (x.sets.length : Int) := by omega
          by_cases h5 : x.guard.length ≤ 250
          case neg =>
            have H5 := Lib.hid (show decide (x.guard.length ≤ 250) = false by simpa using h5)
            clear h5
            go_wp2_with (go_at_call 46; refine (lexpr_r _ _ _ _).mono ?_; rintro e w' ⟨rfl, rfl⟩; rw [H5.out])
            go_ret
            exact BoolPost.no (HM.out.alloc _).bel
          have H5 := Lib.hid (show decide (x.guard.length ≤ 250) = true by simpa using h5)
          have HMR := Lib.hid (HM.out.new 76 #[.string x.name, .slice Ag x.guard.length cg, .slice As x.sets.length cs])
          go_wp2_with (go_at_call 46; refine (lexpr_r _ _ _ _).mono ?_; rintro e w' ⟨rfl, rfl⟩; rw [H5.out])
          clear p0 p1 p2 pf c0 c1 c2 HM
          go_loopw [6] (VsRel w #[.string p.name, .slice Av p.vars.length cv, .slice (some ad) p.rules.length cr] wr.heap.size #[.string x.name, .slice Ag x.guard.length cg, .slice As x.sets.length cs] x.sets) (fun i _ => x.sets.length - (intOf i).toNat)
          case atStart => exact ⟨0, rfl, Nat.zero_le _, (fun j h hj => by omega), HMR.out⟩
          case round =>
            obtain ⟨j, rfl, hj, hoj, hM2⟩ := hrel
            have HM2 := Lib.hid hM2
            have HOJ := Lib.hid hoj
            obtain ⟨q0, q1, q2, qf⟩ := blk3 (hM2.get 0 rfl).2
            clear hM2 hoj HMR
            by_cases hjl : j < x.sets.length
            · obtain ⟨a2, Ae, ce, hA2, hb2, d0, d1, he⟩ := set_at (SetsAt.to (Holds_.go (Mem.bel HM2.out)) HS.out) hjl
              subst hA2
              have HXJ := Lib.hid (fun h => all_step (P := fun s : St => s.2.length ≤ 250) HOJ.out hjl h)
              clear he
              generalize x.sets[j]'hjl = y at *
              have HJL := Lib.hid hjl
              have j0 : (0 : Int) ≤ (j : Int) := by omega
              have j1 : (j : Int) < (x.sets.length : Int) := by omega
              by_cases h6 : y.2.length ≤ 250
              · have H6 := Lib.hid (show decide (y.2.length ≤ 250) = true by simpa using h6)
                go_wp2_with (go_at_call 46; refine (lexpr_r _ _ _ _).mono ?_; rintro e w' ⟨rfl, rfl⟩; rw [H6.out])
                go_roundw
                case rel => exact ⟨j + 1, by go_num, HJL.out, HXJ.out h6, HM2.out⟩
                case measure => simp [intOf]; omega
              · have H6 := Lib.hid (show decide (y.2.length ≤ 250) = false by simpa using h6)
                clear h6
                go_wp2_with (go_at_call 46; refine (lexpr_r _ _ _ _).mono ?_; rintro e w' ⟨rfl, rfl⟩; rw [H6.out])
                go_ret
                exact BoolPost.no (Mem.bel HM2.out)
            · obtain rfl : j = x.sets.length := by omega
              go_wp2
              go_roundw
              case rel => exact ⟨k + 1, by go_num, HLT.out, HX.out ⟨h5, by omega, fun j hj => HOJ.out j hj hj⟩, HM2.out.erase 0⟩
              case measure => simp [intOf]; omega
        · obtain rfl : k = p.rules.length := by omega
          go_wp2
          go_ret
          exact ⟨true, rfl, (fun _ => ⟨by omega, by omega, fun v hv => HOK.out v hv hv⟩), HM.out.bel⟩

def SomeInt (w : World) (e : Ending) (w' : World) : Prop := ∃ z : Int, e = .returned (.int .i64 z) ∧ Below w.heap.size w w'
def DgRel (w : World) (cs : Array Value) (g : Gr) (d i : Value) (wr : World) : Prop := ∃ (k : Nat) (z : Int), i = .int .i64 k ∧ k ≤ g.ports.length ∧ d = .int .i64 z ∧ Mem w [cB w.heap.size w.heap.size 29 cs] wr
set_option maxHeartbeats 2000000 in
theorem degs_r (g : Gr) (hl : LightG g) (v : Value) (w : World) (hG : GraphAt w w.heap.size v g) : Calls Tryz.prog 15 #[v] w (SomeInt w) := by
  obtain ⟨vi, vq, rfl, hi', hq⟩ := hG
  obtain ⟨Ap, cp, rfl⟩ := ports_sl hq
  have HQ := Lib.hid hq
  have HM0 := Lib.hid ((Mem.start w).new 29 #[vi, .slice Ap g.ports.length cp])
  have hn := hl.n
  have HL := Lib.hid hl
  clear hi' hq hl
  go_enter Tryz.func15, Tryz.ntmps15
  go_wp2
  go_loopw [3, 4] (DgRel w #[vi, .slice Ap g.ports.length cp] g) (fun _ i _ => g.ports.length - (intOf i).toNat)
  case atStart => exact ⟨0, 1, rfl, Nat.zero_le _, rfl, HM0.out⟩
  case round =>
    obtain ⟨k, z, rfl, hk, rfl, hM⟩ := hrel
    have HM := Lib.hid hM
    obtain ⟨q0, q1, qf⟩ := blk2 (hM.get 0 rfl).2
    clear hM HM0
    by_cases hlt : k < g.ports.length
    · obtain ⟨ad, Ae, ce, hA, hb, c0, he⟩ := row_at (PortsAt.to (Holds_.go HM.out.bel) HQ.out) hlt
      subst hA
      clear he
      generalize g.ports[k]'hlt = x at *
      have HLT := Lib.hid hlt
      have k0 : (0 : Int) ≤ (k : Int) := by omega
      have k1 : (k : Int) < (g.ports.length : Int) := by omega
      go_wp2
      all_goals
        go_roundw
        case rel => exact ⟨k + 1, _, by go_num, HLT.out, rfl, HM.out⟩
        case measure => simp [intOf]; omega
    · obtain rfl : k = g.ports.length := by omega
      go_wp2
      go_ret
      exact ⟨_, rfl, HM.out.bel⟩
def TmRel (w : World) (cs : Array Value) (p : Pg) (n i : Value) (wr : World) : Prop := ∃ (k : Nat) (z : Int), i = .int .i64 k ∧ k ≤ p.rules.length ∧ n = .int .i64 z ∧ Mem w [cB w.heap.size w.heap.size 25 cs] wr
def TsRel (w : World) (cs : Array Value) (m : Nat) (n i : Value) (wr : World) : Prop := ∃ (k : Nat) (z : Int), i = .int .i64 k ∧ k ≤ m ∧ n = .int .i64 z ∧ Mem w [cB w.heap.size w.heap.size 25 cs] wr
set_option maxRecDepth 100000 in
set_option maxHeartbeats 2000000 in
theorem terms_r (p : Pg) (hl : LightP p) (v : Value) (w : World) (hP : ProgAt w w.heap.size v p) : Calls Tryz.prog 14 #[v] w (SomeInt w) := by
  obtain ⟨vv, vr, rfl, hpv, hpr⟩ := hP
  obtain ⟨Ar, cr, rfl⟩ := rules_sl hpr
  have HR := Lib.hid hpr
  have HM0 := Lib.hid ((Mem.start w).new 25 #[.string p.name, vv, .slice Ar p.rules.length cr])
  have hn := hl.r
  have HL := Lib.hid hl
  clear hpv hpr hl
  go_enter Tryz.func14, Tryz.ntmps14
  go_wp2
  go_loopw [3, 4] (TmRel w #[.string p.name, vv, .slice Ar p.rules.length cr] p) (fun _ i _ => p.rules.length - (intOf i).toNat)
  case atStart => exact ⟨0, 0, rfl, Nat.zero_le _, rfl, HM0.out⟩
  case round =>
    obtain ⟨k, z, rfl, hk, rfl, hM⟩ := hrel
    have HM := Lib.hid hM
    obtain ⟨p0, p1, p2, pf⟩ := blk3 (hM.get 0 rfl).2
    clear hM HM0
    by_cases hlt : k < p.rules.length
    · obtain ⟨ad, Ag, cg, As, cs, hA, hb, c0, c1, c2, hg, hs⟩ := rule_at (RulesAt.to (Holds_.go HM.out.bel) HR.out) hlt
      subst hA
      have hsl := (HL.out.rs k hlt).n
      have HLT := Lib.hid hlt
      have k0 : (0 : Int) ≤ (k : Int) := by omega
      have k1 : (k : Int) < (p.rules.length : Int) := by omega
      clear hg hs
      go_wp2
      clear p0 p1 p2 pf c0 c1 c2
      go_loopw [3, 5] (TsRel w #[.string p.name, vv, .slice (some ad) p.rules.length cr] (p.rules[k]'hlt).sets.length) (fun _ i _ => (p.rules[k]'hlt).sets.length - (intOf i).toNat)
      case atStart => exact ⟨0, _, rfl, Nat.zero_le _, rfl, HM.out⟩
      case round =>
        obtain ⟨j, z2, rfl, hj, rfl, hM2⟩ := hrel
        have HM2 := Lib.hid hM2
        obtain ⟨p0, p1, p2, pf⟩ := blk3 (hM2.get 0 rfl).2
        obtain ⟨ad', Ag, cg, As, cs, hA, hb, c0, c1, c2, hg, hs⟩ := rule_at (RulesAt.to (Holds_.go HM2.out.bel) HR.out) hlt
        obtain rfl : ad = ad' := by injection hA
        clear hM2 HM hA hg
        by_cases hjl : j < (p.rules[k]'hlt).sets.length
        · obtain ⟨a2, Ae, ce, hA2, hb2, d0, d1, he⟩ := set_at hs hjl
          subst hA2
          have HJL := Lib.hid hjl
          have j0 : (0 : Int) ≤ (j : Int) := by omega
          have j1 : (j : Int) < ((p.rules[k]'hlt).sets.length : Int) := by omega
          clear he hs
          go_wp2
          go_roundw
          case rel => exact ⟨j + 1, _, by go_num, HJL.out, rfl, HM2.out⟩
          case measure => simp [intOf]; omega
        · obtain rfl : j = (p.rules[k]'hlt).sets.length := by omega
          clear hs
          go_wp2
          go_roundw
          case rel => exact ⟨k + 1, _, by go_num, HLT.out, rfl, HM2.out⟩
          case measure => simp [intOf]; omega
    · obtain rfl : k = p.rules.length := by omega
      go_wp2
      go_ret
      exact ⟨_, rfl, HM.out.bel⟩
end Go.Proofs.YtdfklagiafmoiaaGreatDoor
