/- Lemmas of this seat, laid together out of 11 texts: no statement of the seat is proved here. -/
import Derived.Test.YtdfklagiafmoiaaGreatDoorG27
import Derived.Test.YtdfklagiafmoiaaGreatDoorG25
/- The walk that evaluates: operands. -/
namespace Go.Proofs.YtdfklagiafmoiaaGreatDoor
open Go.RowKit

section
variable (p : Pg) (g : Gr) (c : Cfg) (l : List Tm) (hl : l.length ≤ 1000) (k b v : Nat)
include hl
set_option maxRecDepth 100000 in
set_option maxHeartbeats 8000000 in
theorem val_un (x : Tm) (a : Ex) (h0 : 18 ≤ x.1) (h1 : x.1 ≤ 19) (IH : ValOk p g c l k b v a) : ValOk p g c l k b v (.u x a) := by
  intro pl z hz r port bd w hd hav hbo hpo h
  subst hz
  have hfl : (Ex.u x a).flat = x :: a.flat := rfl
  rw [hfl] at hd hav
  obtain ⟨hkl, hx, hd1⟩ := drop_head (x := x) (r := a.flat ++ r) hd
  have hag : agg x.1 = false := by unfold agg; simp; omega
  have hbo2 : a.bdOk bd := by have : a.bdOk (bd || agg x.1) := hbo; rwa [hag, Bool.or_false] at this
  have hlen : pl + 1 + a.flat.length ≤ l.length := by
    have e := congrArg List.length hd1
    rw [List.length_drop, List.length_append] at e
    omega
  have HW := Lib.hid h
  have HC := Lib.hid (fun (X : World) (hX : Below w.heap.size w X) => IH (pl + 1) ((pl : Int) + 1) (by omega) r port bd X hd1 (fun y hy => hav y (by simp [hy])) hbo2 hpo (WalkAt.to (Holds_.go hX) h))
  obtain ⟨Ac, cc, Ae, ce, hk, hwc, -, -, hpr⟩ := h
  obtain ⟨c0, c1, c2, c3⟩ := hwc
  obtain ⟨ad, hA, hb, d0, d1⟩ := pair_at hpr hkl
  subst hA
  rw [hx] at d0 d1
  have k0 : (0 : Int) ≤ (pl : Int) := by omega
  have k1 : (pl : Int) < (l.length : Int) := by omega
  have HM := Lib.hid ((Mem.start w).new 186 #[.int .i64 x.1, .int .i64 x.2])
  have hb' : (ad.add (pl * 2)).block < w.heap.size := by rw [block_of_add]; exact hb
  have w1 := IntWalk.i64_in ((pl : Int) + 1) (by omega)
  have e17 : ¬ x.1 ≤ 17 := by omega
  have HEV := Lib.hid (show ev g c v port (.u x a) = unZ x.1 (ev g c v port a) from by show (if x.1 ≤ 19 then _ else _) = _; rw [if_pos h1])
  have HFL := Lib.hid hfl
  clear hd hav hx hbo hpo hpr hd1 hbo2 hfl
  go_enter Tryz.func160, Tryz.ntmps160
  go_wp2_with fail
  refine (HC.out _ HM.out.bel).mono ?_
  rintro e w2 ⟨rfl, hb2⟩
  have HM2 := Lib.hid (HM.out.below hb2)
  obtain ⟨t0, t1, tf⟩ := blk2 (HM2.out.get 0 rfl).2
  clear hb2 HM c0 c1 c2 c3 d0 d1
  go_wp2_with (go_at_call 171; refine (un_p _ _ _).mono ?_; rintro e w' ⟨rfl, rfl⟩)
  go_ret2
  exact RdPost.mk HEV.out.symm (by rw [HFL.out]; simp; omega) HM2.out.bel
set_option maxRecDepth 100000 in
set_option maxHeartbeats 8000000 in
theorem val_bin (x : Tm) (a d : Ex) (h0 : 30 ≤ x.1) (h1 : x.1 ≤ 42) (IA : ValOk p g c l k b v a) (ID : ValOk p g c l k b v d) : ValOk p g c l k b v (.b x a d) := by
  intro pl z hz r port bd w hd hav hbo hpo h
  subst hz
  have hfl : (Ex.b x a d).flat = x :: (a.flat ++ d.flat) := rfl
  rw [hfl] at hd hav
  obtain ⟨hkl, hx, hd1⟩ := drop_head (x := x) (r := (a.flat ++ d.flat) ++ r) hd
  have hd2 : l.drop (pl + 1 + a.flat.length) = d.flat ++ r := by rw [← List.drop_drop, hd1, List.append_assoc, List.drop_left]
  have hlen : pl + 1 + a.flat.length + d.flat.length ≤ l.length := by
    have e := congrArg List.length hd1
    rw [List.length_drop, List.length_append, List.length_append] at e
    omega
  obtain ⟨hb1, hb2⟩ := hbo
  have HC := Lib.hid (fun (X : World) (hX : Below w.heap.size w X) => IA (pl + 1) ((pl : Int) + 1) (by omega) (d.flat ++ r) port bd X (by rw [hd1, List.append_assoc]) (fun y hy => hav y (by simp [hy])) hb1 hpo (WalkAt.to (Holds_.go hX) h))
  have HD := Lib.hid (fun (X : World) (hX : Below w.heap.size w X) => ID (pl + 1 + a.flat.length) ((pl + 1 + a.flat.length : Nat) : Int) rfl r port bd X hd2 (fun y hy => hav y (by simp [hy])) hb2 hpo (WalkAt.to (Holds_.go hX) h))
  obtain ⟨Ac, cc, Ae, ce, hk, hwc, -, -, hpr⟩ := h
  obtain ⟨c0, c1, c2, c3⟩ := hwc
  obtain ⟨ad, hA, hb, d0, d1⟩ := pair_at hpr hkl
  subst hA
  rw [hx] at d0 d1
  have k0 : (0 : Int) ≤ (pl : Int) := by omega
  have k1 : (pl : Int) < (l.length : Int) := by omega
  have HM := Lib.hid ((Mem.start w).new 186 #[.int .i64 x.1, .int .i64 x.2])
  have hb' : (ad.add (pl * 2)).block < w.heap.size := by rw [block_of_add]; exact hb
  have w1 := IntWalk.i64_in ((pl : Int) + 1) (by omega)
  have e17 : ¬ x.1 ≤ 17 := by omega
  have e19 : ¬ x.1 ≤ 19 := by omega
  have e29 : ¬ x.1 ≤ 29 := by omega
  have HFL := Lib.hid hfl
  clear hd hav hx hb1 hb2 hpo hpr hd1 hd2 hfl
  go_enter Tryz.func160, Tryz.ntmps160
  go_wp2_with fail
  refine (HC.out _ HM.out.bel).mono ?_
  rintro e w2 ⟨rfl, hb2⟩
  have HM2 := Lib.hid (HM.out.below hb2)
  clear hb2 HM c0 c1 c2 c3 d0 d1
  go_wp2_with fail
  refine (HD.out _ HM2.out.bel).mono ?_
  rintro e w3 ⟨rfl, hb3⟩
  have HM3 := Lib.hid (HM2.out.below hb3)
  obtain ⟨t0, t1, tf⟩ := blk2 (HM3.out.get 0 rfl).2
  clear hb3 HM2
  go_wp2_with (go_at_call 173; refine (bin_p _ _ _ _).mono ?_; rintro e w' ⟨rfl, rfl⟩)
  go_ret2
  exact RdPost.mk rfl (by rw [HFL.out]; simp; omega) HM3.out.bel
end
end Go.Proofs.YtdfklagiafmoiaaGreatDoor

/- The walk that evaluates: the choice. -/
namespace Go.Proofs.YtdfklagiafmoiaaGreatDoor
open Go.RowKit

section
variable (p : Pg) (g : Gr) (c : Cfg) (l : List Tm) (hl : l.length ≤ 1000) (k b v : Nat)
include hl
set_option maxRecDepth 100000 in
set_option maxHeartbeats 8000000 in
theorem val_if (x : Tm) (a d f : Ex) (h0 : x.1 = 43) (IA : ValOk p g c l k b v a) (ID : ValOk p g c l k b v d) (IF : ValOk p g c l k b v f) : ValOk p g c l k b v (.i x a d f) := by
  intro pl z hz r port bd w hd hav hbo hpo h
  subst hz
  have hfl : (Ex.i x a d f).flat = x :: (a.flat ++ (d.flat ++ f.flat)) := rfl
  rw [hfl] at hd hav
  obtain ⟨hkl, hx, hd1⟩ := drop_head (x := x) (r := (a.flat ++ (d.flat ++ f.flat)) ++ r) hd
  have hd2 : l.drop (pl + 1 + a.flat.length) = d.flat ++ (f.flat ++ r) := by rw [← List.drop_drop, hd1, List.append_assoc, List.drop_left, List.append_assoc]
  have hd3 : l.drop (pl + 1 + a.flat.length + d.flat.length) = f.flat ++ r := by rw [← List.drop_drop, hd2, List.drop_left]
  obtain ⟨hb1, hb2, hb3⟩ := hbo
  have HC := Lib.hid (fun (X : World) (hX : Below w.heap.size w X) => IA (pl + 1) ((pl : Int) + 1) (by omega) (d.flat ++ (f.flat ++ r)) port bd X (by rw [hd1, List.append_assoc, List.append_assoc]) (fun y hy => hav y (by simp [hy])) hb1 hpo (WalkAt.to (Holds_.go hX) h))
  have HD := Lib.hid (fun (X : World) (hX : Below w.heap.size w X) => ID (pl + 1 + a.flat.length) ((pl + 1 + a.flat.length : Nat) : Int) rfl (f.flat ++ r) port bd X hd2 (fun y hy => hav y (by simp [hy])) hb2 hpo (WalkAt.to (Holds_.go hX) h))
  have HF := Lib.hid (fun (X : World) (hX : Below w.heap.size w X) => IF (pl + 1 + a.flat.length + d.flat.length) ((pl + 1 + a.flat.length + d.flat.length : Nat) : Int) rfl r port bd X hd3 (fun y hy => hav y (by simp [hy])) hb3 hpo (WalkAt.to (Holds_.go hX) h))
  obtain ⟨Ac, cc, Ae, ce, hk, hwc, -, -, hpr⟩ := h
  obtain ⟨c0, c1, c2, c3⟩ := hwc
  obtain ⟨ad, hA, hb, d0, d1⟩ := pair_at hpr hkl
  subst hA
  rw [hx] at d0 d1
  have k0 : (0 : Int) ≤ (pl : Int) := by omega
  have k1 : (pl : Int) < (l.length : Int) := by omega
  obtain ⟨op, arg⟩ := x
  dsimp only at h0 d0 d1
  subst h0
  have HM := Lib.hid ((Mem.start w).new 186 #[.int .i64 43, .int .i64 arg])
  have hb' : (ad.add (pl * 2)).block < w.heap.size := by rw [block_of_add]; exact hb
  have w1 := IntWalk.i64_in ((pl : Int) + 1) (by omega)
  have HFL := Lib.hid hfl
  have HEV := Lib.hid (show ev g c v port (.i (43, arg) a d f) = if ev g c v port a ≠ 0 then ev g c v port d else ev g c v port f from rfl)
  clear hd hav hx hb1 hb2 hb3 hpo hpr hd1 hd2 hd3 hfl
  go_enter Tryz.func160, Tryz.ntmps160
  go_wp2_with fail
  refine (HC.out _ HM.out.bel).mono ?_
  rintro e w2 ⟨rfl, hb2⟩
  have HM2 := Lib.hid (HM.out.below hb2)
  clear hb2 HM c0 c1 c2 c3 d0 d1
  go_wp2_with fail
  refine (HD.out _ HM2.out.bel).mono ?_
  rintro e w3 ⟨rfl, hb3⟩
  have HM3 := Lib.hid (HM2.out.below hb3)
  clear hb3 HM2
  go_wp2_with fail
  refine (HF.out _ HM3.out.bel).mono ?_
  rintro e w4 ⟨rfl, hb4⟩
  have HM4 := Lib.hid (HM3.out.below hb4)
  clear hb4 HM3
  by_cases hz : ev g c v port a = 0
  · have e1 : (ev g c v port a != 0) = false := by simpa using hz
    have HZ := Lib.hid hz
    clear hz
    go_wp2_with fail
    go_ret2
    exact RdPost.mk (by rw [HEV.out, if_neg (fun h => h HZ.out)]) (by rw [HFL.out]; simp; omega) HM4.out.bel
  · have e1 : (ev g c v port a != 0) = true := by simpa using hz
    have HZ := Lib.hid hz
    clear hz
    go_wp2_with fail
    go_ret2
    exact RdPost.mk (by rw [HEV.out, if_pos HZ.out]) (by rw [HFL.out]; simp; omega) HM4.out.bel
end
end Go.Proofs.YtdfklagiafmoiaaGreatDoor

/- The walk that evaluates: an aggregate. -/
namespace Go.Proofs.YtdfklagiafmoiaaGreatDoor
open Go.RowKit

def avL (l : List Int) : List Value := iv l ++ List.replicate (24 - l.length) (.int .i64 0)
theorem avL_set {l : List Int} (h : l.length < 24) (z : Int) : (avL l).set l.length (.int .i64 z) = avL (l ++ [z]) := by
  unfold avL
  have hl : (iv l).length = l.length := by unfold iv; simp
  obtain ⟨q, hq⟩ : ∃ q, 24 - l.length = q + 1 := ⟨24 - l.length - 1, by omega⟩
  rw [List.set_append_right _ _ (by omega), hl, Nat.sub_self, hq, List.replicate_succ, List.set_cons_zero, iv_app, List.append_assoc, List.length_append, List.length_singleton, show 24 - (l.length + 1) = q by omega]
  rfl
theorem avL_len {l : List Int} (h : l.length ≤ 24) : (avL l).length = 24 := by unfold avL iv; simp; omega
/-- the values at the first ports -/
def kidsV (g : Gr) (c : Cfg) (v : Nat) (a : Ex) (n : Nat) : List Int := (List.range n).map fun (j : Nat) => ev g c v (j : Int) a
theorem kidsV_snoc (g : Gr) (c : Cfg) (v : Nat) (a : Ex) (n : Nat) : kidsV g c v a (n + 1) = kidsV g c v a n ++ [ev g c v (n : Int) a] := by unfold kidsV; rw [List.range_succ, List.map_append]; rfl
theorem kidsV_len (g : Gr) (c : Cfg) (v : Nat) (a : Ex) (n : Nat) : (kidsV g c v a n).length = n := by unfold kidsV; simp
theorem av_ints {w : World} {q t : Nat} {l : List Int} (h : Blk w q t (avL l).toArray) (_hl : l.length ≤ 24) : IntsAt w w.heap.size (.slice (some ⟨q, 0, none⟩) l.length 24) l := by
  refine ⟨_, _, iv l, rfl, ⟨by unfold iv; simp, fun hn => ⟨⟨q, 0, none⟩, rfl, h.lt, fun j u hj => ?_⟩⟩, fun k x hx => ⟨[.int .i64 x], rfl, rfl, fun j u hj => ?_⟩⟩
  · have hj2 : j < (iv l).length := (List.getElem?_eq_some_iff.1 hj).1
    have e : (Addr.add ⟨q, 0, none⟩ j) = ⟨q, j, none⟩ := by
      by_cases h0 : j = 0
      · subst h0; simp [Addr.add]
      · simp [Addr.add, h0]
    rw [e, h.cell j, List.getElem?_toArray]
    unfold avL
    rw [List.getElem?_append_left hj2]; exact hj
  · rcases j with _ | j
    · simp only [List.getElem?_cons_zero, Option.some.injEq] at hj
      subst hj
      unfold iv
      rw [Nat.mul_one, Nat.add_zero, List.getElem?_map, hx]; rfl
    · simp at hj
end Go.Proofs.YtdfklagiafmoiaaGreatDoor

/- The walk that evaluates: an aggregate's values. -/
namespace Go.Proofs.YtdfklagiafmoiaaGreatDoor
open Go.RowKit

def AgRel (w : World) (g : Gr) (c : Cfg) (v : Nat) (a : Ex) (n : Nat) (e : Int) (nx i : Value) (wr : World) : Prop := ∃ j : Nat, i = .int .i64 j ∧ j ≤ n ∧ (∃ z : Int, nx = .int .i64 z ∧ (0 < j → z = e)) ∧ Mem w [cB w.heap.size w.heap.size 224 (avL (kidsV g c v a j)).toArray] wr
section
variable (p : Pg) (g : Gr) (c : Cfg) (hg : GrOk g) (l : List Tm) (hl : l.length ≤ 1000) (k b v : Nat) (hv : v < g.ports.length)
include hl hv hg
set_option maxRecDepth 100000 in
set_option maxHeartbeats 8000000 in
theorem agg_walk (x : Tm) (a : Ex) (h0 : 20 ≤ x.1) (h1 : x.1 ≤ 29) (hx : ar x.1 = 1) (ha : a.ok) (IH : ValOk p g c l k b v a) (pl : Nat) (r : List Tm) (w : World) (hd : l.drop pl = (Ex.u x a).flat ++ r) (hav : ∀ y ∈ a.flat, argIn p.vars.length y) (hbo : a.bdOk true) (h : WalkAt w w.heap.size k b p g c v l) :
    Calls Tryz.prog 172 #[.pointer (some ⟨k, 0, none⟩), .int .i64 x.1, .int .i64 (pl : Int)] w (RdPost w (foldZ x.1 (kidsV g c v a (g.ports[v]'hv).length)) (pl + (Ex.u x a).flat.length)) := by
  have HW := Lib.hid h
  have hfl : (Ex.u x a).flat = x :: a.flat := rfl
  obtain ⟨hkl, -, hd1⟩ := drop_head (x := x) (r := a.flat ++ r) (by rw [hd, hfl]; rfl)
  have hlen : pl + 1 + a.flat.length ≤ l.length := by
    have e := congrArg List.length hd1
    rw [List.length_drop, List.length_append] at e
    omega
  have HEND := Lib.hid (endAt_tree hd (show (Ex.u x a).ok from ⟨hx, ha⟩))
  have hgd : g.ports.getD v [] = g.ports[v]'hv := by rw [List.getD_eq_getElem?_getD, List.getElem?_eq_getElem hv]; rfl
  have HC := Lib.hid (fun (j : Nat) (hj : j < (g.ports[v]'hv).length) (X : World) (hX : Below w.heap.size w X) => IH (pl + 1) ((pl : Int) + 1) (by omega) r (j : Int) true X hd1 hav hbo (fun _ => ⟨j, rfl, by rw [hgd]; exact hj⟩) (WalkAt.to (Holds_.go hX) h))
  obtain ⟨_, _, -, hdl, -, -⟩ := hg.ids v hv
  have hhi := hg.hi
  obtain ⟨dn, hdn⟩ : ∃ dn, (g.ports[v]'hv).length = dn := ⟨_, rfl⟩
  rw [hdn] at hdl
  have HDN := Lib.hid hdn
  have hdl2 : dn ≤ 23 := by omega
  obtain ⟨Ac, cc, Ae, ce, hk, hwc, hsc, hcf, hpr⟩ := h
  obtain ⟨c0, c1, c2, c3⟩ := hwc
  have HPR := Lib.hid hpr
  obtain ⟨Av, cv, Ar, cr, Ai, ci, Ap, cp, Ab, cb, hb, hcs, -, -, -, hq, -⟩ := hsc
  obtain ⟨-, -, -, -, s4, -, -⟩ := hcs
  obtain ⟨ap, Ag, cg, hA, hbp, e0, -⟩ := row_at hq hv
  subst hA
  rw [hdn] at e0 ⊢
  have hbe : (ap.add v).block < w.heap.size := by rw [block_of_add]; exact hbp
  have v0 : (0 : Int) ≤ (v : Int) := by omega
  have v1 : (v : Int) < (g.ports.length : Int) := by omega
  have w1 := IntWalk.i64_in ((pl : Int) + 1) (by omega)
  have HM0 := Lib.hid ((Mem.start w).new 224 (avL (kidsV g c v a 0)).toArray)
  have HFL := Lib.hid (show (Ex.u x a).flat.length = 1 + a.flat.length from by rw [hfl]; simp; omega)
  clear hcf hq hpr hd hd1 hav hbo hg hdn hgd hfl hdl
  go_enter Tryz.func172, Tryz.ntmps172
  go_upto_region 2 with fail
  go_quiet (fail)
  go_wp2_with fail
  go_loopw [7, 27] (AgRel w g c v a dn ((pl + 1 + a.flat.length : Nat) : Int)) (fun _ i _ => dn - (intOf i).toNat)
  case atStart => exact ⟨0, rfl, Nat.zero_le _, ⟨0, rfl, fun h => by omega⟩, HM0.out.drewN _⟩
  case round =>
    obtain ⟨j, rfl, hj, ⟨nz, rfl, hnz⟩, hM⟩ := hrel
    have HM := Lib.hid hM
    have HNZ := Lib.hid hnz
    clear hM HM0 hnz
    by_cases hlt : j < dn
    · have HC2 := Lib.hid (HC.out j (by rw [HDN.out]; exact hlt) wr HM.out.bel)
      have HSN := Lib.hid (kidsV_snoc g c v a j)
      have HLT := Lib.hid hlt
      have HKL := Lib.hid (kidsV_len g c v a j)
      obtain ⟨y, hy⟩ : ∃ y, ev g c v (j : Int) a = y := ⟨_, rfl⟩
      rw [hy] at HC2 HSN
      have j0 : (0 : Int) ≤ (j : Int) := by omega
      have j1 : (j : Int) < 24 := by omega
      have j2 : (j : Int) < (dn : Int) := by omega
      clear hy
      go_wp2_with fail
      refine HC2.out.mono ?_
      rintro e w2 ⟨rfl, hb2⟩
      have HM2 := Lib.hid (HM.out.below hb2)
      have hbk := (HM2.out.get 0 rfl).2
      have f0 := hbk.get (k := j) (by rw [avL_len (by rw [HKL.out]; omega)]; omega)
      have ff := hbk.frozen j
      have HMS := Lib.hid (HM2.out.set_ 0 rfl j (.int .i64 y) (cs' := (avL (kidsV g c v a (j + 1))).toArray) (by
        have := avL_set (l := kidsV g c v a j) (by rw [HKL.out]; omega) y
        rw [HKL.out] at this
        rw [List.setIfInBounds_toArray, this, HSN.out]))
      obtain ⟨u0, hu0⟩ : ∃ u0, (avL (kidsV g c v a j))[j]'(by rw [avL_len (by rw [HKL.out]; omega)]; omega) = u0 := ⟨_, rfl⟩
      rw [hu0] at f0
      clear hb2 HC2 HM hbk hu0
      go_wp2_with fail
      go_roundw
      case rel => exact ⟨j + 1, by go_num, HLT.out, ⟨_, rfl, fun _ => rfl⟩, HMS.out⟩
      case measure => simp [intOf]; omega
    · obtain rfl : j = dn := by omega
      have HKL := Lib.hid (kidsV_len g c v a j)
      have hai := av_ints (HM.out.get 0 rfl).2 (by rw [HKL.out]; omega)
      have HFO := Lib.hid (fold_p (kidsV g c v a j) (by rw [HKL.out]; omega) (some ⟨w.heap.size, 0, none⟩) 24 wr hai x.1 h0 h1)
      have HFO2 := Lib.hid (show Calls Tryz.prog 192 #[.int .i64 x.1, .slice (some ⟨w.heap.size, 0, none⟩) j 24] wr _ from by have h := HFO.out; rw [HKL.out] at h; exact h)
      have hbel := HM.out.bel
      have g0 := (hbel.cell (p := ⟨k, 0, none⟩) hk).trans c0
      have g3 := (hbel.cell (p := ⟨k, 3, none⟩) hk).trans c3
      have hz : w.heap.size < wr.heap.size := (HM.out.get 0 rfl).2.lt
      have hk2 : k < wr.heap.size := by omega
      have HBL := Lib.hid hbel
      have s0 : (0 : Int) ≤ (j : Int) := by omega
      have s1 : (j : Int) ≤ 24 := by omega
      clear hai HFO hbel c0 c1 c2 c3 s4 e0
      by_cases hj0 : j = 0
      · have e1 : ((j : Int) == 0) = true := by subst hj0; rfl
        clear hj0
        go_wp2_with fail
        refine (end_p l (by omega) pl Ae ce _ wr (PairsAt.to (Holds_.go HBL.out) HPR.out)).mono ?_
        rintro e w2 ⟨rfl, rfl⟩
        rw [HEND.out]
        go_wp2_with fail
        refine HFO2.out.mono ?_
        rintro e w2 ⟨rfl, rfl⟩
        go_wp2_with fail
        go_ret2
        exact RdPost.mk rfl rfl HBL.out
      · have e1 : ((j : Int) == 0) = false := beq_eq_false_iff_ne.2 (by omega)
        have hnz2 := HNZ.out (by omega)
        subst hnz2
        clear hj0
        go_wp2_with fail
        refine HFO2.out.mono ?_
        rintro e w2 ⟨rfl, rfl⟩
        go_wp2_with fail
        go_ret2
        exact RdPost.mk rfl (by rw [HFL.out]; omega) HBL.out
end
end Go.Proofs.YtdfklagiafmoiaaGreatDoor

/- The walk that evaluates: every expression. -/
namespace Go.Proofs.YtdfklagiafmoiaaGreatDoor
open Go.RowKit

section
variable (p : Pg) (g : Gr) (c : Cfg) (hc : CfOk p g c) (l : List Tm) (hl : l.length ≤ 1000) (k b v : Nat) (hv : v < g.ports.length)
include hl hv hc
set_option maxRecDepth 100000 in
set_option maxHeartbeats 8000000 in
theorem val_agg (x : Tm) (a : Ex) (h0 : 20 ≤ x.1) (h1 : x.1 ≤ 29) (hx : ar x.1 = 1) (ha : a.ok) (IH : ValOk p g c l k b v a) : ValOk p g c l k b v (.u x a) := by
  intro pl z hz r port bd w hd hav hbo hpo h
  subst hz
  have hfl : (Ex.u x a).flat = x :: a.flat := rfl
  have hag : agg x.1 = true := by unfold agg; simp; omega
  have hbo2 : a.bdOk true := by have : a.bdOk (bd || agg x.1) := hbo; rwa [hag, Bool.or_true] at this
  have HC := Lib.hid (fun (X : World) (hX : Below w.heap.size w X) => agg_walk p g c hc.fit.gr l hl k b v hv x a h0 h1 hx ha IH pl r X hd (fun y hy => hav y (by rw [hfl]; simp [hy])) hbo2 (WalkAt.to (Holds_.go hX) h))
  obtain ⟨hkl, hxx, -⟩ := drop_head (x := x) (r := a.flat ++ r) (by rw [hd, hfl]; rfl)
  obtain ⟨Ac, cc, Ae, ce, hk, hwc, -, -, hpr⟩ := h
  obtain ⟨c0, c1, c2, c3⟩ := hwc
  obtain ⟨ad, hA, hb, d0, d1⟩ := pair_at hpr hkl
  subst hA
  rw [hxx] at d0 d1
  have hgd : g.ports.getD v [] = g.ports[v]'hv := by rw [List.getD_eq_getElem?_getD, List.getElem?_eq_getElem hv]; rfl
  have k0 : (0 : Int) ≤ (pl : Int) := by omega
  have k1 : (pl : Int) < (l.length : Int) := by omega
  have HM := Lib.hid ((Mem.start w).new 186 #[.int .i64 x.1, .int .i64 x.2])
  have hb' : (ad.add (pl * 2)).block < w.heap.size := by rw [block_of_add]; exact hb
  have e17 : ¬ x.1 ≤ 17 := by omega
  have e19 : ¬ x.1 ≤ 19 := by omega
  have HEV := Lib.hid (show ev g c v port (.u x a) = foldZ x.1 (kidsV g c v a (g.ports[v]'hv).length) from by show (if x.1 ≤ 19 then _ else _) = _; rw [if_neg e19, hgd]; rfl)
  clear hd hav hxx hbo hpo hpr hbo2 hfl hgd hag
  go_enter Tryz.func160, Tryz.ntmps160
  go_wp2_with fail
  refine (HC.out _ HM.out.bel).mono ?_
  rintro e w2 ⟨rfl, hb2⟩
  have HB := Lib.hid (HM.out.below hb2).bel
  clear hb2 HM c0 c1 c2 c3 d0 d1
  go_wp2_with fail
  go_ret2
  exact RdPost.mk HEV.out.symm rfl HB.out
theorem value_p : ∀ (t : Ex), t.ok → ValOk p g c l k b v t
  | .z t, ht => val_leaf p g c hc l hl k b v hv t ht
  | .u x a, ⟨hx, ha⟩ => by
    have IH := value_p a ha
    have hop : 18 ≤ x.1 ∧ x.1 ≤ 29 := by unfold ar at hx; (repeat' split at hx) <;> omega
    by_cases h19 : x.1 ≤ 19
    · exact val_un p g c l hl k b v x a hop.1 h19 IH
    · exact val_agg p g c hc l hl k b v hv x a (by omega) hop.2 hx ha IH
  | .b x a d, ⟨hx, ha, hd⟩ => by
    have hop : 30 ≤ x.1 ∧ x.1 ≤ 42 := by unfold ar at hx; (repeat' split at hx) <;> omega
    exact val_bin p g c l hl k b v x a d hop.1 hop.2 (value_p a ha) (value_p d hd)
  | .i x a d f, ⟨hx, ha, hd, hf⟩ => by
    have hop : x.1 = 43 := by unfold ar at hx; (repeat' split at hx) <;> omega
    exact val_if p g c l hl k b v x a d f hop (value_p a ha) (value_p d hd) (value_p f hf)
end
end Go.Proofs.YtdfklagiafmoiaaGreatDoor

/- Value of an expression. -/
namespace Go.Proofs.YtdfklagiafmoiaaGreatDoor
open Go.RowKit

section
variable (p : Pg) (g : Gr) (c : Cfg) (hc : CfOk p g c) (b v : Nat) (hv : v < g.ports.length)
include hv hc
set_option maxRecDepth 100000 in
set_option maxHeartbeats 8000000 in
theorem sval_p (t : Ex) (ht : t.ok) (hl : t.flat.length ≤ 1000) (ha : ∀ x ∈ t.flat, argIn p.vars.length x) (hb : t.bdOk false) (Ac : Option Addr) (cc : Nat) (Ae : Option Addr) (ce : Nat) (w : World) (hs : SceneAt w w.heap.size b p g) (hcf : ConfAt w w.heap.size (.slice Ac c.length cc) c) (he : PairsAt w w.heap.size (.slice Ae t.flat.length ce) t.flat) :
    Calls Tryz.prog 137 #[.pointer (some ⟨b, 0, none⟩), .slice Ac c.length cc, .int .i64 (v : Int), .slice Ae t.flat.length ce] w fun e w' => e = .returned (.int .i64 (ev g c v (-1) t)) ∧ Below w.heap.size w w' := by
  have HM := Lib.hid ((Mem.start w).new 212 #[.pointer (some ⟨b, 0, none⟩), .slice Ac c.length cc, .int .i64 (v : Int), .slice Ae t.flat.length ce])
  have HV := Lib.hid (fun (X : World) (h : WalkAt X X.heap.size w.heap.size b p g c v t.flat) => value_p p g c hc t.flat hl w.heap.size b v hv t ht 0 0 rfl [] (-1) false X (by simp) ha hb (fun h => by cases h) h)
  have hblk := (HM.out.get 0 rfl).2
  have HWK := Lib.hid (show WalkAt (w.alloc (.cells #[.pointer (some ⟨b, 0, none⟩), .slice Ac c.length cc, .int .i64 (v : Int), .slice Ae t.flat.length ce] 212)) (w.alloc (.cells #[.pointer (some ⟨b, 0, none⟩), .slice Ac c.length cc, .int .i64 (v : Int), .slice Ae t.flat.length ce] 212)).heap.size w.heap.size b p g c v t.flat from
    ⟨Ac, cc, Ae, ce, hblk.lt, ⟨hblk.cell 0, hblk.cell 1, hblk.cell 2, hblk.cell 3⟩, SceneAt.to (Holds_.go HM.out.bel) hs, ConfAt.to (Holds_.go HM.out.bel) hcf, PairsAt.to (Holds_.go HM.out.bel) he⟩)
  clear hs hcf he hblk ha hb
  go_enter Tryz.func137, Tryz.ntmps137
  go_wp2_with fail
  refine (HV.out _ HWK.out).mono ?_
  rintro e w2 ⟨rfl, hb2⟩
  have HB := Lib.hid (HM.out.below hb2).bel
  clear hb2 HM
  go_wp2_with fail
  go_ret
  exact ⟨rfl, HB.out⟩
end
end Go.Proofs.YtdfklagiafmoiaaGreatDoor

/- Guards. -/
namespace Go.Proofs.YtdfklagiafmoiaaGreatDoor
open Go.RowKit

/-- the tree of an expression of a right type -/
noncomputable def treeOf (l : List Tm) : Ex := open Classical in if h : ∃ t : Ex, t.ok ∧ t.flat = l ∧ t.bdOk false then h.choose else .z (0, 0)
theorem treeOf_spec {l : List Tm} (h : ∃ t : Ex, t.ok ∧ t.flat = l ∧ t.bdOk false) : (treeOf l).ok ∧ (treeOf l).flat = l ∧ (treeOf l).bdOk false := by
  unfold treeOf
  rw [dif_pos h]
  exact h.choose_spec
/-- an expression of a program with so many variables, of a type -/
theorem ex_val {n : Nat} {ks : List Int} {l : List Tm} {τ : Int} (h : ExOk n l) (h2 : ExT ks l τ) (hτ : τ ≠ 0) : ((treeOf l).ok ∧ (treeOf l).flat = l ∧ (treeOf l).bdOk false) ∧ ∀ x ∈ l, argIn n x := by
  obtain ⟨t, ht, rfl, hty⟩ := h2
  obtain ⟨_, _, e, _, _, _, ha⟩ := h
  exact ⟨treeOf_spec ⟨t, ht, rfl, ty_bd ks t false (by rw [hty]; exact hτ)⟩, args_of ha⟩
noncomputable def evL (g : Gr) (c : Cfg) (v : Nat) (l : List Tm) : Int := ev g c v (-1) (treeOf l)
theorem evL_near {g : Gr} {c c' : Cfg} {v : Nat} (h : Near g c c' v) {n : Nat} {ks : List Int} {l : List Tm} {τ : Int} (h1 : ExOk n l) (h2 : ExT ks l τ) (hτ : τ ≠ 0) : evL g c v l = evL g c' v l :=
  ev_near h _ false _ (ex_val h1 h2 hτ).1.2.2 (fun h => by cases h)
section
variable (p : Pg) (g : Gr) (c : Cfg) (hc : CfOk p g c) (b v : Nat) (hv : v < g.ports.length)
include hv hc
theorem svalL_p {n : Nat} {ks : List Int} {l : List Tm} {τ : Int} (hn : n = p.vars.length) (h1 : ExOk n l) (h2 : ExT ks l τ) (hτ : τ ≠ 0) (Ac : Option Addr) (cc : Nat) (Ae : Option Addr) (ce : Nat) (w : World) (hs : SceneAt w w.heap.size b p g) (hcf : ConfAt w w.heap.size (.slice Ac c.length cc) c) (he : PairsAt w w.heap.size (.slice Ae l.length ce) l) :
    Calls Tryz.prog 137 #[.pointer (some ⟨b, 0, none⟩), .slice Ac c.length cc, .int .i64 (v : Int), .slice Ae l.length ce] w fun e w' => e = .returned (.int .i64 (evL g c v l)) ∧ Below w.heap.size w w' := by
  subst hn
  obtain ⟨⟨q1, q2, q3⟩, q4⟩ := ex_val h1 h2 hτ
  have hl : l.length ≤ 200 := by obtain ⟨_, _, _, h, _⟩ := h1; exact h
  have := sval_p p g c hc b v hv (treeOf l) q1 (by rw [q2]; omega) (by rw [q2]; exact q4) q3 Ac cc Ae ce w hs hcf (by rw [q2]; exact he)
  rw [q2] at this
  exact this
set_option maxRecDepth 100000 in
set_option maxHeartbeats 8000000 in
theorem guard_p (i : Nat) (hi : i < p.rules.length) (Ac : Option Addr) (cc : Nat) (w : World) (hs : SceneAt w w.heap.size b p g) (hcf : ConfAt w w.heap.size (.slice Ac c.length cc) c) :
    Calls Tryz.prog 136 #[.pointer (some ⟨b, 0, none⟩), .slice Ac c.length cc, .int .i64 (v : Int), .int .i64 (i : Int)] w fun e w' => e = .returned (.bool (evL g c v p.rules[i].guard != 0)) ∧ Below w.heap.size w w' := by
  have HV := Lib.hid (fun (Ae : Option Addr) (ce : Nat) he => svalL_p p g c hc b v hv rfl (hc.fit.pg.forms i hi hi).guard (hc.fit.pg.types i hi hi).guard (by decide) Ac cc Ae ce w hs hcf he)
  obtain ⟨Av, cv, Ar, cr, Ai, ci, Ap, cp, Ab, cb, hb, hcs, -, hr, -, -, -⟩ := hs
  obtain ⟨s0, s1, s2, s3, s4, s5, s6⟩ := hcs
  obtain ⟨ad, Ag, cg, As, cs, hA, hbd, d0, d1, d2, hgp, -⟩ := rule_at hr hi
  subst hA
  have HV2 := Lib.hid (HV.out Ag cg hgp)
  obtain ⟨x, hx⟩ : ∃ x : Rl, p.rules[i]'hi = x := ⟨_, rfl⟩
  rw [hx] at d0 d1 d2 HV2 ⊢
  have i0 : (0 : Int) ≤ (i : Int) := by omega
  have i1 : (i : Int) < (p.rules.length : Int) := by omega
  have hbe : (ad.add (i * 3)).block < w.heap.size := by rw [block_of_add]; exact hbd
  clear hr hgp hcf hx HV
  go_enter Tryz.func136, Tryz.ntmps136
  go_wp2_with fail
  refine HV2.out.mono ?_
  rintro e w2 ⟨rfl, hb2⟩
  have HB := Lib.hid hb2
  clear hb2
  go_wp2_with fail
  go_ret
  exact ⟨rfl, HB.out⟩
end
end Go.Proofs.YtdfklagiafmoiaaGreatDoor

/- Small ones: the kind of a daemon. -/
namespace Go.Proofs.YtdfklagiafmoiaaGreatDoor
open Go.RowKit

theorem dvalid_p (z : Int) (w : World) : Calls Tryz.prog 38 #[.int .i64 z] w fun e w' => e = .returned (.bool (decide (1 ≤ z ∧ z ≤ 4))) ∧ w = w' := by
  go_enter Tryz.func38, Tryz.ntmps38
  go_wp2
  all_goals (go_ret; refine ⟨ret_bool (bool_ext ?_), rfl⟩; (try simp only [decide_eq_true_eq] at *); (try simp); (try omega))
theorem mod4_r (z : Int) (_hz : -9223372036854775808 ≤ z ∧ z ≤ 9223372036854775807) (w : World) : Calls Tryz.prog 11 #[.int .i64 z, .int .i64 4] w fun e w' => (∃ r : Int, e = .returned (.int .i64 r) ∧ 0 ≤ r ∧ r ≤ 3) ∧ w = w' := by
  have h1 : -4 < z.tmod 4 ∧ z.tmod 4 < 4 := ⟨by have h2 := Int.tmod_lt_of_pos (-z) (show (0 : Int) < 4 by decide); rw [Int.neg_tmod] at h2; omega, Int.tmod_lt_of_pos z (by decide)⟩
  have HH := Lib.hid h1
  have w1 := IntWalk.i64_in (z.tmod 4) (by omega)
  have w2 := IntWalk.i64_in (z.tmod 4 + 4) (by omega)
  go_enter Tryz.func11, Tryz.ntmps11
  go_wp2
  all_goals (go_ret; refine ⟨⟨_, rfl, ?_⟩, rfl⟩; have := HH.out; omega)
end Go.Proofs.YtdfklagiafmoiaaGreatDoor

/- Equal rows, by the reference. -/
namespace Go.Proofs.YtdfklagiafmoiaaGreatDoor
open Go.RowKit

def SiRel (w : World) (n : Nat) (i : Value) (wr : World) : Prop := ∃ k : Nat, i = .int .i64 k ∧ k ≤ n ∧ Below w.heap.size w wr
set_option maxRecDepth 100000 in
set_option maxHeartbeats 4000000 in
theorem sints_r (l : List Int) (hl : l.length ≤ 1000) (A B : Option Addr) (c d : Nat) (w : World) (h1 : IntsAt w w.heap.size (.slice A l.length c) l) (h2 : IntsAt w w.heap.size (.slice B l.length d) l) :
    Calls Tryz.prog 25 #[.slice A l.length c, .slice B l.length d] w (YesPost w) := by
  have H1 := Lib.hid h1
  have H2 := Lib.hid h2
  clear h1 h2
  go_enter Tryz.func25, Tryz.ntmps25
  go_wp2
  go_loopw [5] (SiRel w l.length) (fun i _ => l.length - (intOf i).toNat)
  case atStart => exact ⟨0, rfl, Nat.zero_le _, Below.refl _ _⟩
  case round =>
    obtain ⟨k, rfl, hk, hbel⟩ := hrel
    have HB := Lib.hid hbel
    clear hbel
    by_cases hlt : k < l.length
    · obtain ⟨a, hA, hb, c0⟩ := int_at (IntsAt.to (Holds_.go HB.out) H1.out) hlt
      subst hA
      obtain ⟨b, hA, hb2, d0⟩ := int_at (IntsAt.to (Holds_.go HB.out) H2.out) hlt
      subst hA
      obtain ⟨z, hz⟩ : ∃ z : Int, l[k]'hlt = z := ⟨_, rfl⟩
      rw [hz] at c0 d0
      clear hz
      have k0 : (0 : Int) ≤ (k : Int) := by omega
      have k1 : (k : Int) < (l.length : Int) := by omega
      have HLT := Lib.hid hlt
      go_upto_region 6 with fail
      go_quiet (fail)
      have HB2 := Lib.hid (below_drewN HB.out nq)
      go_wp2
      go_roundw
      case rel => exact ⟨k + 1, by go_num, HLT.out, HB2.out⟩
      case measure => simp [intOf]; omega
    · obtain rfl : k = l.length := by omega
      go_wp2
      go_ret
      exact ⟨rfl, HB.out⟩
end Go.Proofs.YtdfklagiafmoiaaGreatDoor

/- The mover; the rule of a node. -/
namespace Go.Proofs.YtdfklagiafmoiaaGreatDoor
open Go.RowKit

/-- the cells of a mover in block m -/
structure MoverC (w : World) (m sb : Nat) (p : Pg) (g : Gr) (Av : Option Addr) (cv : Nat) (Ar : Option Addr) (cr : Nat) (At : Option Addr) (ct : Nat) : Prop where
  c0 : w.cell? ⟨m, 0, none⟩ = some (.string p.name)
  c1 : w.cell? ⟨m, 1, none⟩ = some (.slice Av p.vars.length cv)
  c2 : w.cell? ⟨m, 2, none⟩ = some (.slice Ar p.rules.length cr)
  c3 : w.cell? ⟨m, 3, none⟩ = some (.pointer (some ⟨sb, 0, none⟩))
  c4 : w.cell? ⟨m, 4, none⟩ = some (.slice At g.ports.length ct)
def MoverAt (w : World) (B m : Nat) (p : Pg) (g : Gr) : Prop := ∃ (sb : Nat) (Av : Option Addr) (cv : Nat) (Ar : Option Addr) (cr : Nat) (At : Option Addr) (ct : Nat), m < B ∧ MoverC w m sb p g Av cv Ar cr At ct ∧
  VarsAt w B (.slice Av p.vars.length cv) p.vars ∧ RulesAt w B (.slice Ar p.rules.length cr) p.rules ∧ SceneAt w B sb p g ∧ PortsAt w B (.slice At g.ports.length ct) (tab p g)
theorem MoverAt.to {w w' : World} {B B' m : Nat} {p : Pg} {g : Gr} (k : Holds_ B B' w w') (h : MoverAt w B m p g) : MoverAt w' B' m p g := by
  obtain ⟨sb, Av, cv, Ar, cr, At, ct, hb, hc, h1, h2, h3, h4⟩ := h
  have e : ∀ i, w'.cell? ⟨m, i, none⟩ = w.cell? ⟨m, i, none⟩ := fun i => k.2 ⟨m, i, none⟩ hb
  exact ⟨sb, Av, cv, Ar, cr, At, ct, Nat.lt_of_lt_of_le hb k.1, ⟨by rw [e]; exact hc.c0, by rw [e]; exact hc.c1, by rw [e]; exact hc.c2, by rw [e]; exact hc.c3, by rw [e]; exact hc.c4⟩, VarsAt.to k h1, RulesAt.to k h2, SceneAt.to k h3, PortsAt.to k h4⟩
/-- the first rule whose guard is true; the number of rules if there is none -/
noncomputable def ruleN (p : Pg) (g : Gr) (c : Cfg) (v : Nat) : Nat := p.rules.findIdx fun r => evL g c v r.guard != 0
noncomputable def ruleZ (p : Pg) (g : Gr) (c : Cfg) (v : Nat) : Int := if ruleN p g c v < p.rules.length then (ruleN p g c v : Int) else -1
theorem ruleZ_at {p : Pg} {g : Gr} {c : Cfg} {v k : Nat} (hk : k < p.rules.length) (h : (evL g c v p.rules[k].guard != 0) = true) (hno : ∀ j (hj : j < p.rules.length), j < k → (evL g c v p.rules[j].guard != 0) = false) : ruleZ p g c v = k := by
  have e : ruleN p g c v = k := by
    unfold ruleN
    rw [List.findIdx_eq hk]
    exact ⟨h, fun j hj => hno j (by omega) hj⟩
  unfold ruleZ
  rw [e, if_pos hk]
theorem ruleZ_no {p : Pg} {g : Gr} {c : Cfg} {v : Nat} (hno : ∀ j (hj : j < p.rules.length), (evL g c v p.rules[j].guard != 0) = false) : ruleZ p g c v = -1 := by
  have e : ¬ ruleN p g c v < p.rules.length := by
    unfold ruleN
    rw [List.findIdx_lt_length]
    rintro ⟨x, hx, hp⟩
    obtain ⟨j, hj, rfl⟩ := List.getElem_of_mem hx
    rw [hno j hj] at hp
    cases hp
  unfold ruleZ
  rw [if_neg e]
def RuRel (w : World) (p : Pg) (g : Gr) (c : Cfg) (v : Nat) (i : Value) (wr : World) : Prop := ∃ k : Nat, i = .int .i64 k ∧ k ≤ p.rules.length ∧ (∀ j (hj : j < p.rules.length), j < k → (evL g c v p.rules[j].guard != 0) = false) ∧ Below w.heap.size w wr
section
variable (p : Pg) (g : Gr) (c : Cfg) (hc : CfOk p g c) (m v : Nat) (hv : v < g.ports.length)
include hv hc
set_option maxRecDepth 100000 in
set_option maxHeartbeats 8000000 in
theorem rule_p (Ac : Option Addr) (cc : Nat) (w : World) (hm : MoverAt w w.heap.size m p g) (hcf : ConfAt w w.heap.size (.slice Ac c.length cc) c) :
    Calls Tryz.prog 107 #[.pointer (some ⟨m, 0, none⟩), .slice Ac c.length cc, .int .i64 (v : Int)] w fun e w' => e = .returned (.int .i64 (ruleZ p g c v)) ∧ Below w.heap.size w w' := by
  have HCF := Lib.hid hcf
  obtain ⟨sb, Av, cv, Ar, cr, At, ct, hb, hcm, -, -, hs, -⟩ := hm
  obtain ⟨m0, m1, m2, m3, m4⟩ := hcm
  have HS := Lib.hid hs
  have HG := Lib.hid (fun (k : Nat) (hk : k < p.rules.length) (X : World) (hX : Below w.heap.size w X) => guard_p p g c hc sb v hv k hk Ac cc X (SceneAt.to (Holds_.go hX) hs) (ConfAt.to (Holds_.go hX) hcf))
  have hr12 := hc.fit.pg.rhi
  obtain ⟨n, hn⟩ : ∃ n, p.rules.length = n := ⟨_, rfl⟩
  rw [hn] at m2 hr12
  have HN := Lib.hid hn
  clear hcf hs hn
  go_enter Tryz.func107, Tryz.ntmps107
  go_wp2
  go_loopw [14] (RuRel w p g c v) (fun i _ => n - (intOf i).toNat)
  case atStart => exact ⟨0, rfl, Nat.zero_le _, fun j _ hj => absurd hj (Nat.not_lt_zero _), Below.refl _ _⟩
  case round =>
    obtain ⟨k, rfl, hk, hno, hbel⟩ := hrel
    have HNO := Lib.hid hno
    have HB := Lib.hid hbel
    have g3 := (hbel.cell (p := ⟨m, 3, none⟩) hb).trans m3
    rw [HN.out] at hk
    clear hbel hno m0 m1 m2 m3 m4
    by_cases hlt : k < n
    · have hk2 : k < p.rules.length := by rw [HN.out]; exact hlt
      have hc2 := HG.out k hk2 wr HB.out
      obtain ⟨b, hbb⟩ : ∃ b, (evL g c v (p.rules[k]'hk2).guard != 0) = b := ⟨_, rfl⟩
      rw [hbb] at hc2
      have HC2 := Lib.hid hc2
      have HBB := Lib.hid hbb
      have k0 : (0 : Int) ≤ (k : Int) := by omega
      have k1 : (k : Int) < (n : Int) := by omega
      have HLT := Lib.hid hlt
      clear hc2 hbb
      cases b
      · go_wp2_with fail
        refine HC2.out.mono ?_
        rintro e w2 ⟨rfl, hb2⟩
        have HB2 := Lib.hid (below_step hb2 HB.out)
        clear hb2 HC2
        go_wp2_with fail
        go_roundw
        case rel => exact ⟨k + 1, by go_num, by rw [HN.out]; exact HLT.out, fun j hj hjk => by
          rcases (by omega : j < k ∨ j = k) with h | rfl
          · exact HNO.out j hj h
          · exact HBB.out, HB2.out⟩
        case measure => simp [intOf]; omega
      · go_wp2_with fail
        refine HC2.out.mono ?_
        rintro e w2 ⟨rfl, hb2⟩
        have HB2 := Lib.hid (below_step hb2 HB.out)
        clear hb2 HC2
        go_wp2_with fail
        go_ret
        exact ⟨ret_int (ruleZ_at (by rw [HN.out]; exact HLT.out) HBB.out HNO.out).symm, HB2.out⟩
    · obtain rfl : k = n := by omega
      go_wp2
      go_ret
      exact ⟨ret_int (ruleZ_no (fun j hj => HNO.out j hj (by rw [← HN.out]; exact hj))).symm, HB.out⟩
end
end Go.Proofs.YtdfklagiafmoiaaGreatDoor

/- Equal configurations, by the reference. -/
namespace Go.Proofs.YtdfklagiafmoiaaGreatDoor
open Go.RowKit

set_option maxRecDepth 100000 in
set_option maxHeartbeats 4000000 in
theorem same10_r (c : Cfg) (hn : c.length ≤ 1000) (hr : ∀ k (h : k < c.length), c[k].length ≤ 1000) (A B : Option Addr) (ca cb : Nat) (w : World) (h1 : ConfAt w w.heap.size (.slice A c.length ca) c) (h2 : ConfAt w w.heap.size (.slice B c.length cb) c) :
    Calls Tryz.prog 10 #[.slice A c.length ca, .slice B c.length cb] w (YesPost w) := by
  have H1 := Lib.hid h1
  have H2 := Lib.hid h2
  have HR := Lib.hid hr
  obtain ⟨n, hnn⟩ : ∃ n, c.length = n := ⟨_, rfl⟩
  rw [hnn] at H1 H2 hn
  rw [hnn]
  have HN := Lib.hid hnn
  clear h1 h2 hnn hr
  go_enter Tryz.func10, Tryz.ntmps10
  go_wp2
  go_loopw [5] (SiRel w n) (fun i _ => n - (intOf i).toNat)
  case atStart => exact ⟨0, rfl, Nat.zero_le _, Below.refl _ _⟩
  case round =>
    obtain ⟨k, rfl, hk, hbel⟩ := hrel
    have HB := Lib.hid hbel
    clear hbel
    by_cases hlt : k < n
    · have hkc : k < c.length := by rw [HN.out]; exact hlt
      obtain ⟨ax, Ae, ce, hA, hbs, c0, he⟩ := conf_at (ConfAt.to (Holds_.go HB.out) H1.out) hkc
      subst hA
      obtain ⟨ay, Af, cf, hA, hbt, d0, hf⟩ := conf_at (ConfAt.to (Holds_.go HB.out) H2.out) hkc
      subst hA
      have HS := Lib.hid (show ∀ X, Below wr.heap.size wr X → Calls Tryz.prog 25 #[.slice Ae (c[k]'hkc).length ce, .slice Af (c[k]'hkc).length cf] X (YesPost X) from fun X hX => sints_r (c[k]'hkc) (HR.out k hkc) Ae Af ce cf X (IntsAt.to (Holds_.go hX) he) (IntsAt.to (Holds_.go hX) hf))
      obtain ⟨m, hm⟩ : ∃ m, (c[k]'hkc).length = m := ⟨_, rfl⟩
      rw [hm] at HS c0 d0
      have hb1 : (ax.add k).block < wr.heap.size := by rw [block_of_add]; exact hbs
      have hb2 : (ay.add k).block < wr.heap.size := by rw [block_of_add]; exact hbt
      have k0 : (0 : Int) ≤ (k : Int) := by omega
      have k1 : (k : Int) < (n : Int) := by omega
      have HLT := Lib.hid hlt
      clear he hf hm
      go_upto_region 6 with fail
      have rule := below_rule wr
      have rule2 := below_addr wr
      go_region_held3 (fun X => Below wr.heap.size wr X) (first | with_reducible exact Below.refl _ _ | with_reducible exact Below.drew (Below.refl _ _) | with_reducible assumption | exact below_step (by assumption) (by assumption))
        (first | (go_at_call 25; refine (HS.out _ (by first | exact Below.refl _ _ | exact Below.drew (Below.refl _ _) | assumption)).mono ?_; rintro e w2 ⟨rfl, hb2⟩; have hx2 : Below wr.heap.size wr w2 := below_step hb2 (by first | exact Below.refl _ _ | exact Below.drew (Below.refl _ _) | assumption)))
      have HB2 := Lib.hid (below_step hx2 HB.out)
      clear rule rule2 hx2
      go_wp2
      go_roundw
      case rel => exact ⟨k + 1, by go_num, HLT.out, HB2.out⟩
      case measure => simp [intOf]; omega
    · obtain rfl : k = n := by omega
      go_wp2
      go_ret
      exact ⟨rfl, HB.out⟩
end Go.Proofs.YtdfklagiafmoiaaGreatDoor
