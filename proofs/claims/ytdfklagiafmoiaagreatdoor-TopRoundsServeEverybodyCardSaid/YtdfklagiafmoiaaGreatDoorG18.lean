/- Lemmas of this seat, laid together out of 4 texts: no statement of the seat is proved here. -/
import Derived.Laws.EntriesVeiled
import Derived.Test.YtdfklagiafmoiaaGreatDoorG17
/- The bounds of a variable at a node, by the program's table of closures. -/
namespace Go.Proofs.YtdfklagiafmoiaaGreatDoor
open Go.RowKit

def bdT : Array Value := #[.int .i64 1, .func (.func 132) #[] #[], .int .i64 2, .func (.func 134) #[] #[], .int .i64 3, .func (.func 135) #[] #[]]
def xV (x : Vr) : Array Value := #[.string x.name, .int .i64 x.kind, .int .i64 x.lo, .int .i64 x.hi, .int .i64 x.pn, .int .i64 x.pid]
def BdRel (w : World) (kd : Int) (cx cg : Array Value) (i : Value) (wr : World) : Prop := ∃ k : Nat, i = .int .i64 k ∧ (k : Int) < kd ∧ Mem w [cB w.heap.size (w.heap.size + 1 + 1) 196 bdT, cB w.heap.size (w.heap.size + 1) 29 cg, cB w.heap.size w.heap.size 103 cx] wr
set_option maxRecDepth 100000 in
set_option maxHeartbeats 8000000 in
theorem bounds_p (x : Vr) (hnum : numB x = true) (g : Gr) (hg : GrOk g) (hlg : LightG g) (v : Nat) (hv : v < g.ports.length) (Ai : Option Addr) (ci : Nat) (Ap : Option Addr) (cp : Nat) (w : World)
    (hi : IntsAt w w.heap.size (.slice Ai g.ids.length ci) g.ids) (hq : PortsAt w w.heap.size (.slice Ap g.ports.length cp) g.ports) :
    Calls Tryz.prog 102 #[varV x, graphV g Ai ci Ap cp, .int .i64 (v : Int)] w (RgPost w (lohi g.ports.length (gmax g.ids) g.ports[v].length x)) := by
  have hkd := numB_kind hnum
  have hgl := hg.len
  have hglo := hg.lo
  have hghi := hg.hi
  have HC1 := Lib.hid (fun (X : World) (h : Below w.heap.size w X) (hk : x.kind = 1) => bd1_p x hnum g (gr_ids hg) (by omega) (by omega) Ai ci Ap cp X hk (.int .i64 (v : Int)) (IntsAt.to (Holds_.go h) hi))
  have HC2 := Lib.hid (fun (X : World) => bd2_p x g Ai ci Ap cp X (.int .i64 (v : Int)))
  have HC3 := Lib.hid (fun (X : World) (h : Below w.heap.size w X) => bd3_p x g Ai ci Ap cp X v hv (hlg.p v hv) (PortsAt.to (Holds_.go h) hq))
  have HL1 := Lib.hid (show x.kind = 1 → lohi g.ports.length (gmax g.ids) (g.ports[v]'hv).length x = (x.lo, x.hi + x.pn * g.ids.length + x.pid * gmax g.ids) from fun h => by unfold lohi; rw [if_neg (by omega), if_neg (by omega), hgl])
  have HL2 := Lib.hid (show x.kind = 2 → lohi g.ports.length (gmax g.ids) (g.ports[v]'hv).length x = (0, 1) from fun h => by unfold lohi; rw [if_pos h])
  have HL3 := Lib.hid (show x.kind = 3 → lohi g.ports.length (gmax g.ids) (g.ports[v]'hv).length x = (-1, ((g.ports[v]'hv).length : Int) - 1) from fun h => by unfold lohi; rw [if_neg (by omega), if_pos h])
  have HM0 := Lib.hid ((((Mem.start w).new 103 (xV x)).new 29 #[.slice Ai g.ids.length ci, .slice Ap g.ports.length cp]).new 196 bdT)
  have HM1 := Lib.hid (show Mem w [cB w.heap.size (w.heap.size + 1 + 1) 196 bdT, cB w.heap.size (w.heap.size + 1) 29 #[.slice Ai g.ids.length ci, .slice Ap g.ports.length cp], cB w.heap.size w.heap.size 103 (xV x)] _ from by have h := HM0.out; simp only [World.size_alloc] at h; exact h)
  generalize lohi g.ports.length (gmax g.ids) (g.ports[v]'hv).length x = R at *
  clear hi hq hnum hg hlg HM0 hgl hglo hghi
  obtain ⟨nm, kd, lo, hi, pn, pid⟩ := x
  unfold varV graphV xV at *
  dsimp only at *
  go_enter Tryz.func102, Tryz.ntmps102
  go_wp2_with fail
  go_loopw [17] (BdRel w kd #[.string nm, .int .i64 kd, .int .i64 lo, .int .i64 hi, .int .i64 pn, .int .i64 pid] #[.slice Ai g.ids.length ci, .slice Ap g.ports.length cp]) (fun i _ => 3 - (intOf i).toNat)
  case atStart => exact ⟨0, rfl, by omega, HM1.out⟩
  case round =>
    obtain ⟨k, rfl, hk, hM⟩ := hrel
    have HM := Lib.hid hM
    obtain ⟨t0, t1, t2, t3, t4, t5, tf⟩ := blk6 (hM.get 0 rfl).2
    obtain ⟨q0, q1, qf⟩ := blk2 (hM.get 1 rfl).2
    obtain ⟨p0, p1, p2, p3, p4, p5, pf⟩ := blk6 (hM.get 2 rfl).2
    have hs := hM.size
    have hz2 : w.heap.size + 1 + 1 < wr.heap.size := (hM.get 0 rfl).2.lt
    have hz1 : w.heap.size + 1 < wr.heap.size := (hM.get 1 rfl).2.lt
    have hz0 : w.heap.size < wr.heap.size := (hM.get 2 rfl).2.lt
    clear hM HM1
    rcases (by omega : k = 0 ∧ kd = 1 ∨ k = 0 ∧ (kd = 2 ∨ kd = 3) ∨ k = 1 ∧ kd = 2 ∨ k = 1 ∧ kd = 3 ∨ k = 2 ∧ kd = 3) with ⟨rfl, rfl⟩ | ⟨rfl, hk2⟩ | ⟨rfl, rfl⟩ | ⟨rfl, rfl⟩ | ⟨rfl, rfl⟩
    · have HMA := Lib.hid (HM.out.new 196 #[.int .i64 1, .func (.func 132) #[] #[]])
      clear hkd hk
      go_wp2_with fail
      refine (HC1.out _ HMA.out.bel trivial).mono ?_
      rintro e w2 ⟨rfl, hb2⟩
      have HB := Lib.hid (HMA.out.below hb2).bel
      have HR := Lib.hid (HL1.out trivial)
      clear t0 t1 t2 t3 t4 t5 tf q0 q1 qf p0 p1 p2 p3 p4 p5 pf hb2 HMA HM
      go_wp2
      go_ret2
      exact ⟨by rw [HR.out]; rfl, HB.out⟩
    · have e1 : ((1 : Int) == kd) = false := beq_eq_false_iff_ne.2 (by omega)
      have HMA := Lib.hid (HM.out.alloc (.cells #[.int .i64 1, .func (.func 132) #[] #[]] 196))
      have HK2 := Lib.hid hk2
      clear hkd hk hk2
      go_wp2_with fail
      go_roundw
      case rel => exact ⟨1, by go_num, by have := HK2.out; omega, HMA.out⟩
      case measure => simp [intOf]
    · have HMA := Lib.hid (HM.out.new 196 #[.int .i64 2, .func (.func 134) #[] #[]])
      clear hkd hk
      go_wp2_with fail
      refine (HC2.out _).mono ?_
      rintro e w2 ⟨rfl, hb2⟩
      have HB := Lib.hid (HMA.out.below hb2).bel
      have HR := Lib.hid (HL2.out trivial)
      clear t0 t1 t2 t3 t4 t5 tf q0 q1 qf p0 p1 p2 p3 p4 p5 pf hb2 HMA HM
      go_wp2
      go_ret2
      exact ⟨by rw [HR.out]; rfl, HB.out⟩
    · have HMA := Lib.hid (HM.out.alloc (.cells #[.int .i64 2, .func (.func 134) #[] #[]] 196))
      clear hkd hk
      go_wp2_with fail
      go_roundw
      case rel => exact ⟨2, by go_num, by omega, HMA.out⟩
      case measure => simp [intOf]
    · have HMA := Lib.hid (HM.out.new 196 #[.int .i64 3, .func (.func 135) #[] #[]])
      clear hkd hk
      go_wp2_with fail
      refine (HC3.out _ HMA.out.bel).mono ?_
      rintro e w2 ⟨rfl, hb2⟩
      have HB := Lib.hid (HMA.out.below hb2).bel
      have HR := Lib.hid (HL3.out trivial)
      clear t0 t1 t2 t3 t4 t5 tf q0 q1 qf p0 p1 p2 p3 p4 p5 pf hb2 HMA HM
      go_wp2
      go_ret2
      exact ⟨by rw [HR.out]; rfl, HB.out⟩
end Go.Proofs.YtdfklagiafmoiaaGreatDoor

/- Bring and Fits by the program. -/
namespace Go.Proofs.YtdfklagiafmoiaaGreatDoor
open Go.RowKit

def bringZ (kd : Int) (r : Int × Int) (z : Int) : Int := if r.1 ≤ z ∧ z ≤ r.2 then z else if kd = 3 then -1 else if z < r.1 then r.1 else r.2
set_option maxRecDepth 100000 in
set_option maxHeartbeats 4000000 in
theorem bring_p (kd lo hi z : Int) (w : World) : Calls Tryz.prog 138 #[.int .i64 kd, .agg #[.int .i64 lo, .int .i64 hi], .int .i64 z] w fun e w' => e = .returned (.int .i64 (bringZ kd (lo, hi) z)) ∧ Below w.heap.size w w' := by
  go_enter Tryz.func138, Tryz.ntmps138
  go_wp2
  all_goals ((go_ret; refine ⟨ret_int ?_, ?_⟩; ((try simp only [beq_iff_eq, beq_eq_false_iff_ne, ne_eq] at *); (try unfold bringZ); (try dsimp only); (try simp only [eq_self, reduceCtorEq, true_and, false_and, and_true, and_false, if_true, if_false]); (repeat' split) <;> first | rfl | (exfalso; omega) | omega | (simp; done) | (simp_all; done))); (repeat (with_reducible first | exact Below.refl _ _ | refine Below.setCell ?_ (by first | exact Nat.le_refl _ | (simp only [World.size_alloc]; omega)) _ | refine below_drewN ?_ _ | refine Below.drew ?_ | refine Below.alloc ?_ (by first | exact Nat.le_refl _ | (simp only [World.size_alloc]; omega)) _ | assumption)))
def FtRel (w : World) (cp cg : Array Value) (n : Nat) (i : Value) (wr : World) : Prop := ∃ k : Nat, i = .int .i64 k ∧ k ≤ n ∧ Mem w [cB w.heap.size (w.heap.size + 1) 29 cg, cB w.heap.size w.heap.size 25 cp] wr
set_option maxRecDepth 100000 in
set_option maxHeartbeats 8000000 in
theorem fits_p (p : Pg) (g : Gr) (hf : FitOk p g) (hlg : LightG g) (vp vg : Value) (w : World) (hP : ProgAt w w.heap.size vp p) (hG : GraphAt w w.heap.size vg g) : Calls Tryz.prog 67 #[vp, vg] w (OkPost w) := by
  have HP := Lib.hid hP
  have HG := Lib.hid hG
  obtain ⟨vv, vr, rfl, hpv, -⟩ := hP
  obtain ⟨Av, cv, rfl⟩ := vars_sl hpv
  obtain ⟨vi, vq, rfl, hi, hq⟩ := hG
  obtain ⟨Ai, ci, rfl⟩ := ints_sl hi
  obtain ⟨Ap, cp, rfl⟩ := ports_sl hq
  have HV := Lib.hid hpv
  have HI := Lib.hid hi
  have HQ := Lib.hid hq
  have HF := Lib.hid hf
  have HLG := Lib.hid hlg
  have hvhi := hf.pg.vhi
  have hM := ((Mem.start w).new 25 #[.string p.name, .slice Av p.vars.length cv, vr]).new 29 #[.slice Ai g.ids.length ci, .slice Ap g.ports.length cp]
  simp only [World.size_alloc] at hM
  have HM0 := Lib.hid hM
  clear hpv hM hi hq hf hlg
  go_enter Tryz.func67, Tryz.ntmps67
  go_wp2_with fail
  refine (pvalid_p p HF.out.pg _ _ (ProgAt.to (Holds_.go HM0.out.bel) HP.out)).mono ?_
  rintro e w1 ⟨rfl, hb1⟩
  have HM1 := Lib.hid (HM0.out.below hb1)
  clear hb1 HM0
  obtain ⟨q0, q1, qf⟩ := blk2 (HM1.out.get 0 rfl).2
  go_wp2_with fail
  refine (gvalid_p g HF.out.gr _ _ (GraphAt.to (Holds_.go HM1.out.bel) HG.out)).mono ?_
  rintro e w2 ⟨rfl, hb2⟩
  have HM2 := Lib.hid (HM1.out.below hb2)
  clear hb2 HM1 q0 q1 qf
  obtain ⟨p0, p1, p2, pf⟩ := blk3 (HM2.out.get 1 rfl).2
  go_wp2
  clear p0 p1 p2 pf
  go_loopw [18] (FtRel w #[.string p.name, .slice Av p.vars.length cv, vr] #[.slice Ai g.ids.length ci, .slice Ap g.ports.length cp] p.vars.length) (fun i _ => p.vars.length - (intOf i).toNat)
  case atStart => exact ⟨0, rfl, Nat.zero_le _, HM2.out⟩
  case round =>
    obtain ⟨k, rfl, hk, hM⟩ := hrel
    have HM := Lib.hid hM
    obtain ⟨p0, p1, p2, pf⟩ := blk3 (hM.get 1 rfl).2
    obtain ⟨q0, q1, qf⟩ := blk2 (hM.get 0 rfl).2
    have hz1 : w.heap.size + 1 < wr.heap.size := (hM.get 0 rfl).2.lt
    clear hM HM2
    by_cases hlt : k < p.vars.length
    · obtain ⟨ad, hA, hb, c0, c1, c2, c3, c4, c5⟩ := var_at (VarsAt.to (Holds_.go HM.out.bel) HV.out) hlt
      subst hA
      have h0 : 0 < g.ports.length := by have := HF.out.gr.lo; omega
      have hnx := HF.out.pg.nums k hlt hlt
      obtain ⟨hlt', hfa⟩ := HF.out.f k hlt
      have HC := Lib.hid (fun (X : World) (h : Below w.heap.size w X) => bounds_p p.vars[k] hnx g HF.out.gr HLG.out 0 h0 Ai ci Ap cp X (IntsAt.to (Holds_.go h) HI.out) (PortsAt.to (Holds_.go h) HQ.out))
      have hbd := lohi_bd (n := g.ports.length) (gr := gmax g.ids) (d := (g.ports[0]'h0).length) hnx (by have := HF.out.gr.hi; omega) (HLG.out.p 0 h0) (gmax_bd (gr_ids HF.out.gr)).1 (gmax_bd (gr_ids HF.out.gr)).2
      have hli := fun h => lohi_int (n := g.ports.length) (gr := gmax g.ids) (d := (g.ports[0]'h0).length) (x := p.vars[k]'hlt) h
      obtain ⟨x, hx⟩ : ∃ x : Vr, p.vars[k]'hlt = x := ⟨_, rfl⟩
      rw [hx] at c0 c1 c2 c3 c4 c5 hfa HC hbd hli
      obtain ⟨R, hR⟩ : ∃ R, lohi g.ports.length (gmax g.ids) (g.ports[0]'h0).length x = R := ⟨_, rfl⟩
      rw [hR] at HC hbd hli
      have hbe : (ad.add (k * 6)).block < wr.heap.size := by rw [block_of_add]; exact hb
      have HLT := Lib.hid hlt
      have k0 : (0 : Int) ≤ (k : Int) := by omega
      have k1 : (k : Int) < (p.vars.length : Int) := by omega
      have HMA := Lib.hid (HM.out.new 103 #[.string x.name, .int .i64 x.kind, .int .i64 x.lo, .int .i64 x.hi, .int .i64 x.pn, .int .i64 x.pid])
      by_cases h1 : x.kind = 1
      · have hfb := hfa h1
        rw [← hli h1] at hfb
        obtain ⟨lo, hi⟩ := R
        dsimp only at *
        have HC2 := Lib.hid HC.out
        unfold varV graphV at HC2
        have e1 : (x.kind != 1) = false := by rw [h1]; rfl
        have e2 : ¬ hi < lo := by omega
        have w1 := IntWalk.i64_in (hi - lo) (by omega)
        have w2 := IntWalk.i64_in (hi - lo + 1) (by omega)
        have e3 : ¬ (4096 : Int) < hi - lo + 1 := by omega
        clear hx hR hli hfa hnx hbd hfb HC h1 hlt'
        go_wp2_with fail
        refine (HC2.out _ HMA.out.bel).mono ?_
        rintro e w3 ⟨rfl, hb3⟩
        have HM3 := Lib.hid ((HMA.out.below hb3).erase 0)
        clear hb3 HMA HM p0 p1 p2 pf q0 q1 qf c0 c1 c2 c3 c4 c5
        go_wp2
        go_roundw
        case rel => exact ⟨k + 1, by go_num, HLT.out, HM3.out⟩
        case measure => simp [intOf]; omega
      · have e1 : (x.kind != 1) = true := by simpa using h1
        have HM3 := Lib.hid (HMA.out.erase 0)
        clear hx hR hli hfa hnx hbd HC h1 hlt' HMA
        go_wp2
        go_roundw
        case rel => exact ⟨k + 1, by go_num, HLT.out, HM3.out⟩
        case measure => simp [intOf]; omega
    · obtain rfl : k = p.vars.length := by omega
      go_wp2
      go_ret
      exact ⟨rfl, HM.out.bel⟩
end Go.Proofs.YtdfklagiafmoiaaGreatDoor

/- Rows of pairs under way: lists. -/
namespace Go.Proofs.YtdfklagiafmoiaaGreatDoor
open Go.RowKit

theorem Tryz.infoA2 : (Tryz.prog.info? 167).map (fun i => (i.zero, i.size, i.bytes)) = some (some (.agg #[.int .i64 0, .int .i64 0]), 2, 16) := by kernel_rfl
theorem Tryz.infoRowA : (Tryz.prog.info? 165).map (fun i => (i.zero, i.size, i.bytes)) = some (some (.slice none 0 0), 1, 24) := by kernel_rfl
theorem made2 (z : Value) (n : Nat) : madeCells #[z, z] n = (List.replicate n z).toArray := by
  unfold madeCells
  apply Array.ext
  · simp
  · intro i h1 h2
    simp only [Array.getElem_map, Array.getElem_range, List.getElem_toArray, List.getElem_replicate]
    have : i % (#[z, z] : Array Value).size < 2 := Nat.mod_lt _ (Nat.zero_lt_succ _)
    rcases (by omega : i % (#[z, z] : Array Value).size = 0 ∨ i % (#[z, z] : Array Value).size = 1) with h | h <;> rw [h] <;> rfl
set_option maxRecDepth 100000 in
theorem run_make_pairs (t e : TypeId) (z : Value) (bytes : Nat) {P : Program} (ht : P.underlying t = some (.slice e)) (hinfo : (P.info? e).map (fun i => (i.zero, i.size, i.bytes)) = some (some (.agg #[z, z]), 2, bytes)) (hz : (Value.agg #[z, z]).cells = #[z, z])
    (kl kc : IntKind) (n : Nat) (hbytes : bytes * n ≤ 281474976710656) (h63 : n ≤ 9223372036854775807) (hn : n * 2 ≤ 16777216) (w : World) :
    (Instr.makeSlice t (.int kl (n : Int)) (.int kc (n : Int))).run P w = .ok (.slice (some ⟨w.heap.size, 0, none⟩) n n) (w.alloc (.cells (List.replicate (n * 2) z).toArray e)) := by
  obtain ⟨i, hi, hzz⟩ := Option.map_eq_some_iff.1 hinfo
  simp only [Prod.mk.injEq] at hzz
  obtain ⟨h1, h2, h3⟩ := hzz
  have := run_makeSlice (P := P) w t e i _ ht hi h1 kl kc (n : Int) (n : Int) (by omega) (by omega) (by rw [h2]; omega) (by rw [h3, ← Int.natCast_mul]; omega) (by omega)
  rw [this, hz, h2, Int.toNat_natCast, made2]
def pc (l : List Tm) : List Value := l.flatMap fun t => [.int .i64 t.1, .int .i64 t.2]
theorem pc_len (l : List Tm) : (pc l).length = l.length * 2 := by
  unfold pc
  induction l with
  | nil => rfl
  | cons a l ih => rw [List.flatMap_cons, List.length_append, ih]; simp; omega
theorem pc_snoc (l : List Tm) (k : Nat) (h : k < l.length) : pc (l.take (k + 1)) = pc (l.take k) ++ [.int .i64 l[k].1, .int .i64 l[k].2] := by
  rw [List.take_succ_eq_append_getElem h]; unfold pc; rw [List.flatMap_append]; rfl
/-- a row of which x pairs have been stored -/
def pcX (m : Nat) (row : List Tm) (x : Nat) : List Value := pc (row.take x) ++ List.replicate ((m - x) * 2) (.int .i64 0)
theorem pcX_len {m : Nat} {row : List Tm} {x : Nat} (h : x ≤ m) (hr : row.length = m) : (pcX m row x).length = m * 2 := by
  unfold pcX; rw [List.length_append, pc_len, List.length_take, List.length_replicate]; omega
theorem pcX_full {m : Nat} {row : List Tm} (hr : row.length = m) : pcX m row m = pc row := by
  unfold pcX; rw [Nat.sub_self, ← hr, List.take_length]; simp
theorem pcX_zero (m : Nat) (row : List Tm) : pcX m row 0 = List.replicate (m * 2) (.int .i64 0) := by unfold pcX pc; simp
theorem pcX_set {m : Nat} {row : List Tm} {x : Nat} (hx : x < m) (hr : row.length = m) {a b : Int} (ha : a = (row[x]'(by omega)).1) (hb : b = (row[x]'(by omega)).2) : ((pcX m row x).set (x * 2) (.int .i64 a)).set (x * 2 + 1) (.int .i64 b) = pcX m row (x + 1) := by
  subst ha hb
  unfold pcX
  have hl : (pc (row.take x)).length = x * 2 := by rw [pc_len, List.length_take]; omega
  rw [pc_snoc row x (by omega), List.append_assoc]
  obtain ⟨q, hq⟩ : ∃ q, m - x = q + 1 := ⟨m - x - 1, by omega⟩
  have hq2 : m - (x + 1) = q := by omega
  rw [hq, hq2, show (q + 1) * 2 = q * 2 + 1 + 1 by omega, List.replicate_succ, List.replicate_succ]
  rw [List.set_append_right (s := pc (row.take x)) _ _ (by omega), hl, Nat.sub_self, List.set_cons_zero, List.set_append_right (s := pc (row.take x)) _ _ (by omega), hl, show x * 2 + 1 - x * 2 = 1 by omega]
  rfl
/-- the rows: v of them done -/
def Rv (m n : Nat) (T : List (List Tm)) (v : Nat) : List (Nat × List Value) := (T.take v).map (fun r => (m, pc r)) ++ List.replicate (n - v) (0, [])
/-- .. and the next under way -/
def RvX (m n : Nat) (T : List (List Tm)) (v : Nat) (ys : List Value) : List (Nat × List Value) := (T.take v).map (fun r => (m, pc r)) ++ (m, ys) :: List.replicate (n - v - 1) (0, [])
section
variable {m n v : Nat} {T : List (List Tm)} (hT : T.length = n) (hv : v < n)
include hT hv
theorem Rv_len' : (Rv m n T v).length = n := by unfold Rv; simp; omega
theorem RvX_len {ys : List Value} : (RvX m n T v ys).length = n := by unfold RvX; simp; omega
theorem Rv_set (ys : List Value) : (Rv m n T v).set v (m, ys) = RvX m n T v ys := by
  unfold Rv RvX
  have hl : ((T.take v).map fun r => (m, pc r)).length = v := by simp; omega
  rw [List.set_append_right _ _ (by omega), hl, Nat.sub_self]
  obtain ⟨q, hq⟩ : ∃ q, n - v = q + 1 := ⟨n - v - 1, by omega⟩
  rw [hq, List.replicate_succ, List.set_cons_zero]
  rfl
theorem RvX_at {ys : List Value} (h : v < (RvX m n T v ys).length) : (RvX m n T v ys)[v] = (m, ys) := by
  have hl : ((T.take v).map fun r => (m, pc r)).length = v := by simp; omega
  have e : (RvX m n T v ys)[v]? = some (m, ys) := by
    unfold RvX
    rw [List.getElem?_append_right (by omega), hl, Nat.sub_self]
    rfl
  exact (List.getElem?_eq_some_iff.1 e).2
theorem RvX_set (ys zs : List Value) : (RvX m n T v ys).set v (m, zs) = RvX m n T v zs := by
  unfold RvX
  have hl : ((T.take v).map fun r => (m, pc r)).length = v := by simp; omega
  rw [List.set_append_right _ _ (by omega), hl, Nat.sub_self, List.set_cons_zero]
theorem RvX_full : RvX m n T v (pc (T[v]'(by omega))) = Rv m n T (v + 1) := by
  unfold RvX Rv
  rw [List.take_succ_eq_append_getElem (by omega), List.map_append, List.append_assoc, show n - (v + 1) = n - v - 1 by omega]
  rfl
end
end Go.Proofs.YtdfklagiafmoiaaGreatDoor

/- The table of all bounds. -/
namespace Go.Proofs.YtdfklagiafmoiaaGreatDoor
open Go.RowKit

theorem grown_rule (w : World) (b : Nat) : ∀ x, w.grownBy x (some b) → ∀ a : Addr, a.block < w.heap.size → a.block ≠ b → x.cell? a = w.cell? a :=
  fun x h a h1 h2 => World.cell?_of_block (h.block a.block h1 (fun e => h2 (by injection e)))
theorem grown_rule2 (w : World) (b : Nat) : ∀ x, w.grownBy x (some b) → ∀ c o, c < w.heap.size → c ≠ b → x.cell? ⟨c, o, none⟩ = w.cell? ⟨c, o, none⟩ :=
  fun x h c o h1 h2 => grown_rule w b x h ⟨c, o, none⟩ h1 h2
theorem grown_set {W X : World} {b i : Nat} {u : Value} (h : W.grownBy X (some b)) : W.grownBy (X.setCell ⟨b, i, none⟩ u) (some b) := h.andThen (gset' X b i u) (fun _ e => .inr e)
theorem grown_below {W X : World} {b : Nat} (h : Below W.heap.size W X) : W.grownBy X (some b) := (gbelow h).but _
theorem pc_at : ∀ {l : List Tm} {k : Nat} {x : Tm} (_ : l[k]? = some x) (j : Nat) (u : Value), ([.int .i64 x.1, .int .i64 x.2] : List Value)[j]? = some u → (pc l)[k * 2 + j]? = some u
  | [], k, x, hx, _, _, _ => by simp at hx
  | a :: l, 0, x, hx, j, u, h => by
    simp only [List.getElem?_cons_zero, Option.some.injEq] at hx
    subst hx
    have e : pc (a :: l) = .int .i64 a.1 :: .int .i64 a.2 :: pc l := rfl
    rw [e, Nat.zero_mul, Nat.zero_add]
    rcases j with _ | _ | j
    · simpa using h
    · simpa using h
    · simp at h
  | a :: l, k + 1, x, hx, j, u, h => by
    have e : pc (a :: l) = .int .i64 a.1 :: .int .i64 a.2 :: pc l := rfl
    rw [e, show (k + 1) * 2 + j = (k * 2 + j) + 1 + 1 by omega, List.getElem?_cons_succ, List.getElem?_cons_succ]
    exact pc_at (by simpa using hx) j u h
theorem pairs_own {w : World} {base e n c : Nat} {A : Option Addr} {l : List Tm} (h : w.ownsRow base e 2 (.slice A n c) n (pc l)) (hn : n = l.length) : PairsAt w w.heap.size (.slice A l.length c) l := by
  subst hn
  exact ⟨A, c, _, rfl, Reads.of_own h, fun k x hx => ⟨[.int .i64 x.1, .int .i64 x.2], rfl, rfl, pc_at hx⟩⟩
theorem grid_ports {w : World} {base g te e m : Nat} {vs : List Value} {R : List (Nat × List Value)} {T : List (List Tm)} (h : GridV w base g te e 2 vs R) (hR : R = T.map fun r => (m, pc r)) (hm : ∀ (k : Nat) (hk : k < T.length), T[k].length = m) :
    PortsAt w w.heap.size (.slice (some ⟨g, 0, none⟩) T.length T.length) T := by
  subst hR
  have hvl : vs.length = T.length := by rw [h.len, List.length_map]
  refine ⟨_, _, vs, rfl, reads_blk h.blk h.blk.lt (by omega), fun k x hx => ?_⟩
  obtain ⟨hk, rfl⟩ := List.getElem?_eq_some_iff.1 hx
  have hr := h.row k (by omega) (by simpa using hk)
  rw [List.getElem_map] at hr
  obtain ⟨A, c, hv⟩ := own_sl hr
  rw [hv] at hr
  have hp := pairs_own hr (hm k hk).symm
  rw [hm k hk] at hp
  refine ⟨[vs[k]'(by omega)], rfl, ⟨_, rfl, by rw [hv]; exact hp⟩, fun j u hj => ?_⟩
  rcases j with _ | j
  · simp only [List.getElem?_cons_zero, Option.some.injEq] at hj
    subst hj
    rw [Nat.mul_one, Nat.add_zero, List.getElem?_eq_getElem]
  · simp at hj
theorem Rv_full {m n : Nat} {T : List (List Tm)} (hT : T.length = n) : Rv m n T n = T.map fun r => (m, pc r) := by unfold Rv; rw [Nat.sub_self, ← hT, List.take_length]; simp
def tab (p : Pg) (g : Gr) : List (List Tm) := g.ports.map fun l => p.vars.map fun x => lohi g.ports.length (gmax g.ids) l.length x
def tbG (w : World) : Nat := w.heap.size + 1 + 1
def TbO (w : World) (cp cg : Array Value) (T : List (List Tm)) (m n : Nat) (i : Value) (wr : World) : Prop := ∃ (v : Nat) (vs : List Value), i = .int .i64 v ∧ v ≤ n ∧ vs.length = n ∧ (∀ k (h : k < vs.length), v ≤ k → vs[k] = .slice none 0 0) ∧
  Mem w [cV w.heap.size (tbG w) 165 167 2 vs (Rv m n T v), cB w.heap.size (w.heap.size + 1) 29 cg, cB w.heap.size w.heap.size 25 cp] wr
def TbI (w : World) (cp cg : Array Value) (T : List (List Tm)) (m n v : Nat) (row : List Tm) (vs : List Value) (i : Value) (wr : World) : Prop := ∃ x : Nat, i = .int .i64 x ∧ x ≤ m ∧
  Mem w [cV w.heap.size (tbG w) 165 167 2 vs (RvX m n T v (pcX m row x)), cB w.heap.size (w.heap.size + 1) 29 cg, cB w.heap.size w.heap.size 25 cp] wr
/-- a table of the call's own -/
def TabOwn (w : World) (base : Nat) (v : Value) (T : List (List Tm)) : Prop := ∃ (gb m : Nat) (vs : List Value), v = .slice (some ⟨gb, 0, none⟩) T.length T.length ∧ base ≤ gb ∧ GridV w base gb 165 167 2 vs (T.map fun r => (m, pc r)) ∧ ∀ (k : Nat) (hk : k < T.length), T[k].length = m
def TabPost (w : World) (T : List (List Tm)) (e : Ending) (w' : World) : Prop := ∃ A c, e = .returned (.slice A T.length c) ∧ PortsAt w' w'.heap.size (.slice A T.length c) T ∧ Below w.heap.size w w' ∧ TabOwn w' w.heap.size (.slice A T.length c) T
set_option maxRecDepth 100000 in
set_option maxHeartbeats 8000000 in
theorem table_p (p : Pg) (g : Gr) (hf : FitOk p g) (hlg : LightG g) (vp vg : Value) (w : World) (hP : ProgAt w w.heap.size vp p) (hG : GraphAt w w.heap.size vg g) : Calls Tryz.prog 69 #[vp, vg] w (TabPost w (tab p g)) := by
  obtain ⟨vv, vr, rfl, hpv, -⟩ := hP
  obtain ⟨Av, cv, rfl⟩ := vars_sl hpv
  obtain ⟨vi, vq, rfl, hi, hq⟩ := hG
  obtain ⟨Ai, ci, rfl⟩ := ints_sl hi
  obtain ⟨Ap, cp, rfl⟩ := ports_sl hq
  have hn24 := hf.gr.hi
  have hn1 := hf.gr.lo
  have hm6 := hf.pg.vhi
  have hm1 := hf.pg.vlo
  have hlen := hf.gr.len
  obtain ⟨T, hTd⟩ : ∃ T, tab p g = T := ⟨_, rfl⟩
  have hTl : T.length = g.ports.length := by rw [← hTd]; simp [tab]
  have hTr : ∀ v (h : v < T.length), T[v].length = p.vars.length := by subst hTd; intro v h; simp [tab]
  have hTx : ∀ v x (h : v < T.length) (hx : x < T[v].length) (hv : v < g.ports.length) (hx2 : x < p.vars.length), T[v][x] = lohi g.ports.length (gmax g.ids) g.ports[v].length p.vars[x] := by subst hTd; intro v x h hx hv hx2; simp [tab]
  obtain ⟨n, hn⟩ : ∃ n, g.ports.length = n := ⟨_, rfl⟩
  obtain ⟨m, hm⟩ : ∃ m, p.vars.length = m := ⟨_, rfl⟩
  have HC := Lib.hid (show ∀ (x v : Nat) (hx : x < p.vars.length) (hv : v < g.ports.length) (hT : v < T.length) (hr : x < T[v].length) (X : World) (_ : Below w.heap.size w X), Calls Tryz.prog 102 #[varV p.vars[x], .agg #[.slice Ai n ci, .slice Ap n cp], .int .i64 (v : Int)] X (RgPost X T[v][x]) from fun x v hx hv hT hr X h => by
    have := bounds_p p.vars[x] (hf.pg.nums x hx hx) g hf.gr hlg v hv Ai ci Ap cp X (IntsAt.to (Holds_.go h) hi) (PortsAt.to (Holds_.go h) hq)
    unfold graphV at this
    rw [hlen, ← hTx v x hT hr hv hx, hn] at this
    exact this)
  have HV := Lib.hid hpv
  have HN := Lib.hid hn
  have HMM := Lib.hid hm
  rw [hTd]
  rw [hn] at hn24 hn1 hTl
  rw [hm] at hm6 hm1 hTr
  rw [hm] at HV
  rw [hlen, hn, hm]
  have HTR := Lib.hid hTr
  have HTL := Lib.hid hTl
  have hM := (((Mem.start w).new 25 #[.string p.name, .slice Av m cv, vr]).new 29 #[.slice Ai n ci, .slice Ap n cp]).pushV (te := 165) (e := 167) (z := 2) n
  simp only [World.size_alloc] at hM
  have HM0 := Lib.hid hM
  have hmk1 := run_make_row' (P := Tryz.prog) 128 165 (.slice none 0 0) 24 Tryz.underlying128 Tryz.infoRowA rfl .i64 .i64 n (by omega) (by omega)
  have hmk2 := run_make_pairs (P := Tryz.prog) 165 167 (.int .i64 0) 16 Tryz.underlying165 Tryz.infoA2 rfl .i64 .i64 m (by omega) (by omega) (by omega)
  clear hpv hM hi hq hf hlg hlen hTd hTl hTr hTx hn hm
  go_enter Tryz.func69, Tryz.ntmps69
  go_wp2_with fail
  clear hmk1
  go_loopw [15] (TbO w #[.string p.name, .slice Av m cv, vr] #[.slice Ai n ci, .slice Ap n cp] T m n) (fun i _ => n - (intOf i).toNat)
  case atStart => exact ⟨0, List.replicate n (.slice none 0 0), rfl, Nat.zero_le _, by simp, fun k h _ => by simp, HM0.out⟩
  case round =>
    obtain ⟨v, vs, rfl, hv, hvs, hnil, hM⟩ := hrel
    have HM := Lib.hid hM
    have HVS := Lib.hid hvs
    have HNIL := Lib.hid hnil
    obtain ⟨p0, p1, p2, pf⟩ := blk3 (hM.get 2 rfl).2
    clear hM HM0 hnil hvs
    by_cases hlt : v < n
    · have hvl : v < vs.length := by rw [HVS.out]; exact hlt
      have hnv := HNIL.out v hvl (Nat.le_refl _)
      have d0 := (HM.out.get 0 rfl).2.blk.get (k := v) hvl
      rw [hnv] at d0
      have df := (HM.out.get 0 rfl).2.blk.frozen v
      have hgl : tbG w < wr.heap.size := (HM.out.get 0 rfl).2.blk.lt
      have hwz : w.heap.size < wr.heap.size := (HM.out.get 2 rfl).2.lt
      have hM1 := (HM.out.rowV 0 rfl (by decide) (t := v) (n' := m) (v' := .slice (some ⟨wr.heap.size, 0, none⟩) m m) (xs' := List.replicate (m * 2) (.int .i64 0)) (x1 := wr.alloc (.cells (List.replicate (m * 2) (.int .i64 0)).toArray 167)) (S := wr.heap.size) (by omega) (Nat.le_refl _) hvl (by rw [Rv_len' HTL.out hlt]; exact hlt) (by rw [hnv]; exact galloc _ _) ⟨by simp, .inr ⟨wr.heap.size, m, _, rfl, HM.out.size, Blk.new _ _ _, Nat.le_refl _, by unfold maxLen; omega, by simp, by simp⟩⟩ (.inr rfl))
      have k0 : (0 : Int) ≤ (v : Int) := by omega
      have k1 : (v : Int) < (n : Int) := by omega
      have HLT := Lib.hid hlt
      unfold tbG at d0 df hgl
      have hM2 := hM1
      unfold tbG at hM2
      rw [World.setCell_alloc_past _ _ _ _ hgl, List.toArray_replicate] at hM2
      obtain ⟨b, hb⟩ : ∃ b, wr.heap.size = b := ⟨_, rfl⟩
      rw [hb] at hM2
      obtain ⟨vs2, hvs2⟩ : ∃ vs2, vs.set v (.slice (some ⟨b, 0, none⟩) m m) = vs2 := ⟨_, rfl⟩
      rw [Rv_set HTL.out hlt, hvs2] at hM2
      have HM2 := Lib.hid hM2
      have HV2 := Lib.hid hvs2
      have HBB := Lib.hid hb
      clear hnv hM1 hM2 hvs2 hb
      go_wp2_with fail
      rw [HBB.out]
      go_loopw [28] (TbI w #[.string p.name, .slice Av m cv, vr] #[.slice Ai n ci, .slice Ap n cp] T m n v (T[v]'(by rw [HTL.out]; exact HLT.out)) vs2) (fun i _ => m - (intOf i).toNat)
      case atStart => exact ⟨0, rfl, Nat.zero_le _, by rw [pcX_zero]; exact HM2.out⟩
      case round =>
        obtain ⟨x, rfl, hx, hM⟩ := hrel
        have HM := Lib.hid hM
        obtain ⟨p0, p1, p2, pf⟩ := blk3 (hM.get 2 rfl).2
        clear hM HM2
        by_cases hltx : x < m
        · have hxv : x < p.vars.length := by rw [HMM.out]; exact hltx
          obtain ⟨ad, hA, hbd, c0, c1, c2, c3, c4, c5⟩ := var_at (VarsAt.to (Holds_.go HM.out.bel) HV.out) hxv
          subst hA
          have hvT : v < T.length := by rw [HTL.out]; exact HLT.out
          have hvP : v < g.ports.length := by rw [HN.out]; exact HLT.out
          have hxT : x < T[v].length := by rw [HTR.out v hvT]; exact hltx
          have hc := fun X h => HC.out x v hxv hvP hvT hxT X h
          obtain ⟨y, hy⟩ : ∃ y : Vr, p.vars[x]'hxv = y := ⟨_, rfl⟩
          rw [hy] at c0 c1 c2 c3 c4 c5 hc
          obtain ⟨rg, hrg⟩ : ∃ rg : Tm, (T[v]'hvT)[x]'hxT = rg := ⟨_, rfl⟩
          rw [hrg] at hc
          have HRG := Lib.hid hrg
          have HCX := Lib.hid hc
          have hgl2 : w.heap.size + 1 + 1 < wr.heap.size := (HM.out.get 0 rfl).2.blk.lt
          have hz1 : w.heap.size + 1 < wr.heap.size := by omega
          have hvv : v < vs2.length := by rw [← HV2.out, List.length_set, HVS.out]; exact HLT.out
          have hve : vs2[v] = .slice (some ⟨b, 0, none⟩) m m := by simp only [← HV2.out, List.getElem_set_self]
          have HMA := Lib.hid (HM.out.new 103 #[.string y.name, .int .i64 y.kind, .int .i64 y.lo, .int .i64 y.hi, .int .i64 y.pn, .int .i64 y.pid])
          have HLX := Lib.hid hltx
          have HVE := Lib.hid hve
          have HVV := Lib.hid hvv
          have hbe : (ad.add (x * 6)).block < wr.heap.size := by rw [block_of_add]; exact hbd
          have x0 : (0 : Int) ≤ (x : Int) := by omega
          have x1 : (x : Int) < (m : Int) := by omega
          clear hc hrg hy hvP hve
          go_upto_region 9 with fail
          generalize hW : World.alloc _ _ = W at *
          have hM3 := HMA.out
          obtain ⟨y0, y1, y2, y3, y4, y5, yf⟩ := blk6 (hM3.get 0 rfl).2
          have g0 := (hM3.get 1 rfl).2.blk.get (k := v) HVV.out
          rw [HVE.out] at g0
          unfold tbG at g0
          obtain ⟨q0, q1, qf⟩ := blk2 (hM3.get 2 rfl).2
          have hbr : b < wr.heap.size := (((HM.out.get 0 rfl).2.row v HVV.out (by rw [RvX_len HTL.out HLT.out]; exact HLT.out)).lt b (by rw [HVE.out]; rfl)).2
          have hbv := HBB.out
          have hbW : b < W.heap.size := by have := (hM3.get 0 rfl).2.lt; omega
          have n1 : w.heap.size + 1 + 1 ≠ b := by omega
          have n2 : w.heap.size + 1 ≠ b := by omega
          have n3 : wr.heap.size ≠ b := by omega
          have hk0 : wr.heap.size < W.heap.size := (hM3.get 0 rfl).2.lt
          have hk1 : w.heap.size + 1 + 1 < W.heap.size := (hM3.get 1 rfl).2.blk.lt
          have hk2 : w.heap.size + 1 < W.heap.size := by omega
          clear hM3 hW hbv
          have rule := grown_rule W b
          have rule2 := grown_rule2 W b
          refine wp_region_noPanic ?_
          refine wp_region_held_drew (S := fun X => W.grownBy X (some b)) (by kernel_rfl) ?_ (fun hHeld => ?_)
          · exact grown_below (Below.drew (Below.refl _ _))
          refine take_l (i := 0) (v := ?_) rfl (by kernel_rfl) (by kernel_rfl) (by kernel_rfl) (fun _ _ _ h => h) (by rfl) ?_ hHeld ?_
          rotate_left
          · intro w hSw; (try dsimp only at hSw); go_simp; first | done | with_reducible rfl
          try simp only [Act.put, List.setIfInBounds_toArray, List.set_cons_zero, List.set_cons_succ]
          refine take_l (i := 1) (v := ?_) rfl (by kernel_rfl) (by kernel_rfl) (by kernel_rfl) (fun _ _ _ h => h) (by rfl) ?_ hHeld ?_
          rotate_left
          · intro w hSw; (try dsimp only at hSw); go_simp; first | done | with_reducible rfl
          try simp only [Act.put, List.setIfInBounds_toArray, List.set_cons_zero, List.set_cons_succ]
          refine take_l (i := 2) (v := ?_) rfl (by kernel_rfl) (by kernel_rfl) (by kernel_rfl) (fun _ _ _ h => h) (by rfl) ?_ hHeld ?_
          rotate_left
          · intro w hSw; (try dsimp only at hSw); go_simp; first | done | with_reducible rfl
          try simp only [Act.put, List.setIfInBounds_toArray, List.set_cons_zero, List.set_cons_succ]
          refine take_l (i := 3) (v := ?_) rfl (by kernel_rfl) (by kernel_rfl) (by kernel_rfl) (fun _ _ _ h => h) (by rfl) ?_ hHeld ?_
          rotate_left
          · intro w hSw; (try dsimp only at hSw); go_simp; first | done | with_reducible rfl
          try simp only [Act.put, List.setIfInBounds_toArray, List.set_cons_zero, List.set_cons_succ]
          refine take_l (i := 4) (v := ?_) rfl (by kernel_rfl) (by kernel_rfl) (by kernel_rfl) (fun _ _ _ h => h) (by rfl) ?_ hHeld ?_
          rotate_left
          · intro w hSw; (try dsimp only at hSw); go_simp; first | done | with_reducible rfl
          try simp only [Act.put, List.setIfInBounds_toArray, List.set_cons_zero, List.set_cons_succ]
          refine take_l (i := 5) (v := ?_) rfl (by kernel_rfl) (by kernel_rfl) (by kernel_rfl) (fun _ _ _ h => h) (by rfl) ?_ hHeld ?_
          rotate_left
          · intro w hSw; (try dsimp only at hSw); go_simp; first | done | with_reducible rfl
          try simp only [Act.put, List.setIfInBounds_toArray, List.set_cons_zero, List.set_cons_succ]
          refine take_l (i := 6) (v := ?_) rfl (by kernel_rfl) (by kernel_rfl) (by kernel_rfl) (fun _ _ _ h => h) (by rfl) ?_ hHeld ?_
          rotate_left
          · intro w hSw; (try dsimp only at hSw); go_simp; first | done | with_reducible rfl
          try simp only [Act.put, List.setIfInBounds_toArray, List.set_cons_zero, List.set_cons_succ]
          refine take_l (i := 7) (v := ?_) rfl (by kernel_rfl) (by kernel_rfl) (by kernel_rfl) (fun _ _ _ h => h) (by rfl) ?_ hHeld ?_
          rotate_left
          · intro w hSw; (try dsimp only at hSw); go_simp; first | done | with_reducible rfl
          try simp only [Act.put, List.setIfInBounds_toArray, List.set_cons_zero, List.set_cons_succ]
          refine take_l (i := 8) (v := ?_) rfl (by kernel_rfl) (by kernel_rfl) (by kernel_rfl) (fun _ _ _ h => h) (by rfl) ?_ hHeld ?_
          rotate_left
          · intro w hSw; (try dsimp only at hSw); go_simp; first | done | with_reducible rfl
          try simp only [Act.put, List.setIfInBounds_toArray, List.set_cons_zero, List.set_cons_succ]
          refine take_l (i := 9) (v := ?_) rfl (by kernel_rfl) (by kernel_rfl) (by kernel_rfl) (fun _ _ _ h => h) (by rfl) ?_ hHeld ?_
          rotate_left
          · intro w hSw; (try dsimp only at hSw); go_simp; first | done | with_reducible rfl
          try simp only [Act.put, List.setIfInBounds_toArray, List.set_cons_zero, List.set_cons_succ]
          refine take_l (i := 10) (v := ?_) rfl (by kernel_rfl) (by kernel_rfl) (by kernel_rfl) (fun _ _ _ h => h) (by rfl) ?_ hHeld ?_
          rotate_left
          · intro w hSw; (try dsimp only at hSw); go_simp; first | done | with_reducible rfl
          try simp only [Act.put, List.setIfInBounds_toArray, List.set_cons_zero, List.set_cons_succ]
          refine take_l (i := 11) (v := ?_) rfl (by kernel_rfl) (by kernel_rfl) (by kernel_rfl) (fun _ _ _ h => h) (by rfl) ?_ hHeld ?_
          rotate_left
          · intro w hSw; (try dsimp only at hSw); go_simp; first | done | with_reducible rfl
          try simp only [Act.put, List.setIfInBounds_toArray, List.set_cons_zero, List.set_cons_succ]
          refine take_l (i := 12) (v := ?_) rfl (by kernel_rfl) (by kernel_rfl) (by kernel_rfl) (fun _ _ _ h => h) (by rfl) ?_ hHeld ?_
          rotate_left
          · intro w hSw; (try dsimp only at hSw); go_simp; first | done | with_reducible rfl
          try simp only [Act.put, List.setIfInBounds_toArray, List.set_cons_zero, List.set_cons_succ]
          refine take_l (i := 17) (v := ?_) rfl (by kernel_rfl) (by kernel_rfl) (by kernel_rfl) (fun _ _ _ h => h) (by rfl) ?_ hHeld ?_
          rotate_left
          · intro w hSw; (try dsimp only at hSw); go_simp; first | done | with_reducible rfl
          try simp only [Act.put, List.setIfInBounds_toArray, List.set_cons_zero, List.set_cons_succ]
          refine take_l (i := 20) (v := ?_) rfl (by kernel_rfl) (by kernel_rfl) (by kernel_rfl) (fun _ _ _ h => h) (by rfl) ?_ hHeld ?_
          rotate_left
          · intro w hSw; (try dsimp only at hSw); go_simp; first | done | with_reducible rfl
          try simp only [Act.put, List.setIfInBounds_toArray, List.set_cons_zero, List.set_cons_succ]
          refine wpAnyH_ready (rs := [13]) (by kernel_rfl) (by simp) ?_
          refine cons_l rfl (fun K hK => ?_) AllReadyH.nil
          go_simp
          refine (HCX.out _ HMA.out.drew.bel).mono ?_
          rintro e w2 ⟨rfl, hb2⟩
          have hg2 : W.grownBy w2 (some b) := grown_below (below_step hb2 (bdrw (Below.refl W.heap.size W)))
          have HM4 := Lib.hid (HMA.out.drew.below hb2)
          clear hb2
          refine hK.out _ _ ?_ (fun hHeld => ?_)
          · exact hg2
          clear hK K
          try simp only [Act.put, List.setIfInBounds_toArray, List.set_cons_zero, List.set_cons_succ]
          refine take_l (i := 14) (v := ?_) rfl (by kernel_rfl) (by kernel_rfl) (by kernel_rfl) (fun _ _ _ h => h) (by rfl) ?_ hHeld ?_
          rotate_left
          · intro w hSw; (try dsimp only at hSw); go_simp; first | done | with_reducible rfl
          try simp only [Act.put, List.setIfInBounds_toArray, List.set_cons_zero, List.set_cons_succ]
          refine take_l (i := 15) (v := ?_) rfl (by kernel_rfl) (by kernel_rfl) (by kernel_rfl) (fun _ _ _ h => h) (by rfl) ?_ hHeld ?_
          rotate_left
          · intro w hSw; (try dsimp only at hSw); go_simp; first | done | with_reducible rfl
          try simp only [Act.put, List.setIfInBounds_toArray, List.set_cons_zero, List.set_cons_succ]
          refine take_l (i := 16) (v := ?_) rfl (by kernel_rfl) (by kernel_rfl) (by kernel_rfl) (fun _ _ _ h => h) (by rfl) ?_ hHeld ?_
          rotate_left
          · intro w hSw; (try dsimp only at hSw); go_simp; first | done | with_reducible rfl
          try simp only [Act.put, List.setIfInBounds_toArray, List.set_cons_zero, List.set_cons_succ]
          refine take_l (i := 18) (v := ?_) rfl (by kernel_rfl) (by kernel_rfl) (by kernel_rfl) (fun _ _ _ h => h) (by rfl) ?_ hHeld ?_
          rotate_left
          · intro w hSw; (try dsimp only at hSw); go_simp; first | done | with_reducible rfl
          try simp only [Act.put, List.setIfInBounds_toArray, List.set_cons_zero, List.set_cons_succ]
          have hrow := (HM4.out.get 1 rfl).2.row v HVV.out (by rw [RvX_len HTL.out HLT.out]; exact HLT.out)
          rw [HVE.out, RvX_at HTL.out HLT.out] at hrow
          have hpl := pcX_len (m := m) (row := T[v]'hvT) (x := x) (by omega) (HTR.out v hvT)
          obtain ⟨u0, hu0⟩ : ∃ u0, (pcX m (T[v]'hvT) x)[x * 2]? = some u0 := ⟨_, List.getElem?_eq_getElem (by omega)⟩
          have a0 := (hrow.cellAt (x * 2) (by omega)).trans hu0
          have af0 := hrow.frozenAt (x * 2)
          have hb2 : b < w2.heap.size := (hrow.lt b rfl).2
          have HM5 := Lib.hid (HM4.out.storeV 1 rfl (by decide) HVV.out (by rw [RvX_len HTL.out HLT.out]; exact HLT.out) HVE.out (RvX_at HTL.out HLT.out _) (j := x * 2) (u := .int .i64 rg.1) (RvX_set HTL.out HLT.out _ _))
          refine wpAnyH_ready (rs := [19]) (by kernel_rfl) (by simp) ?_
          refine cons_l rfl (fun K hK => ?_) AllReadyH.nil
          go_simp
          refine hK.out _ _ ?_ (fun hHeld => ?_)
          · exact grown_set hg2
          clear hK K a0 af0 hrow
          try simp only [Act.put, List.setIfInBounds_toArray, List.set_cons_zero, List.set_cons_succ]
          generalize hW3 : World.setCell _ _ _ = w3 at *
          refine take_l (i := 21) (v := ?_) rfl (by kernel_rfl) (by kernel_rfl) (by kernel_rfl) (fun _ _ _ h => h) (by rfl) ?_ hHeld ?_
          rotate_left
          · intro w hSw; (try dsimp only at hSw); go_simp; first | done | with_reducible rfl
          try simp only [Act.put, List.setIfInBounds_toArray, List.set_cons_zero, List.set_cons_succ]
          have hrow := (HM5.out.get 1 rfl).2.row v HVV.out (by rw [RvX_len HTL.out HLT.out]; exact HLT.out)
          rw [HVE.out, RvX_at HTL.out HLT.out] at hrow
          obtain ⟨u1, hu1⟩ : ∃ u1, ((pcX m (T[v]'hvT) x).set (x * 2) (.int .i64 rg.1))[x * 2 + 1]? = some u1 := ⟨_, List.getElem?_eq_getElem (by rw [List.length_set]; omega)⟩
          have a0 := (hrow.cellAt (x * 2 + 1) (by omega)).trans hu1
          have af0 := hrow.frozenAt (x * 2 + 1)
          have hb3 : b < w3.heap.size := (hrow.lt b rfl).2
          have HM6 := Lib.hid (HM5.out.storeV 1 rfl (by decide) HVV.out (by rw [RvX_len HTL.out HLT.out]; exact HLT.out) HVE.out (RvX_at HTL.out HLT.out _) (j := x * 2 + 1) (u := .int .i64 rg.2) (RvX_set HTL.out HLT.out _ _))
          have hg3 : W.grownBy w3 (some b) := by rw [← hW3]; exact grown_set hg2
          clear hW3
          refine wpAnyH_ready (rs := [22]) (by kernel_rfl) (by simp) ?_
          refine cons_l rfl (fun K hK => ?_) AllReadyH.nil
          go_simp
          refine hK.out _ _ ?_ (fun hHeld => ?_)
          · exact grown_set hg3
          clear hK K a0 af0 hrow hb2 hb3 hu0 hu1
          try simp only [Act.put, List.setIfInBounds_toArray, List.set_cons_zero, List.set_cons_succ]
          refine wpAnyH_done (by kernel_rfl) ?_ _
          refine NoPanic.normal ?_
          clear rule rule2
          go_wp2
          go_roundw
          case rel => exact ⟨x + 1, by go_num, HLX.out, by rw [← pcX_set HLX.out (HTR.out v hvT) (congrArg Prod.fst HRG.out.symm) (congrArg Prod.snd HRG.out.symm)]; exact HM6.out.erase 0⟩
          case measure => simp [intOf]; omega
        · obtain rfl : x = m := by omega
          go_wp2
          go_roundw
          case rel =>
            have hvT : v < T.length := by rw [HTL.out]; exact HLT.out
            refine ⟨v + 1, vs2, by go_num, HLT.out, by rw [← HV2.out, List.length_set, HVS.out], fun k h hk => ?_, ?_⟩
            · have h1 : k < vs.length := by rw [← HV2.out, List.length_set] at h; exact h
              have h2 := HNIL.out k h1 (by omega)
              simp only [← HV2.out]
              rw [List.getElem_set_ne (by omega)]
              exact h2
            · have h := HM.out
              rw [pcX_full (HTR.out v hvT), RvX_full HTL.out HLT.out] at h
              exact h
          case measure => simp [intOf]; omega
    · obtain rfl : v = n := by omega
      clear hmk2
      have hgr := (HM.out.get 0 rfl).2
      have hpo := grid_ports hgr (Rv_full HTL.out) HTR.out
      have hE := HTL.out
      have HPO := Lib.hid hpo
      have HE := Lib.hid hE
      have HTO := Lib.hid (show TabOwn wr w.heap.size (.slice (some ⟨tbG w, 0, none⟩) T.length T.length) T from ⟨tbG w, m, vs, rfl, (HM.out.get 0 rfl).1, by have := hgr; rw [Rv_full HTL.out] at this; exact this, HTR.out⟩)
      clear hgr hpo hE
      go_wp2
      go_ret
      have h := HPO.out
      rw [HE.out] at h
      refine ⟨some ⟨w.heap.size + 1 + 1, 0, none⟩, v, ?_, ?_, HM.out.bel, ?_⟩
      · rw [HE.out]; rfl
      · rw [HE.out]; exact h
      · have h2 := HTO.out
        unfold tbG at h2
        rw [HE.out] at h2
        rw [HE.out]; exact h2
end Go.Proofs.YtdfklagiafmoiaaGreatDoor
