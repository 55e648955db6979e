/- Lemmas of this seat, laid together out of 3 texts: no statement of the seat is proved here. -/
import Derived.Test.YtdfklagiafmoiaaGreatDoorG09
/- The reference's Check of a program. -/
namespace Go.Proofs.YtdfklagiafmoiaaGreatDoor
open Go.RowKit

def AllTo {α : Type} (P : α → Prop) (l : List α) (k : Nat) : Prop := ∀ j (h : j < l.length), j < k → P l[j]
theorem AllTo.step {α : Type} {P : α → Prop} {l : List α} {k : Nat} (h : AllTo P l k) (hk : k < l.length) (h1 : P l[k]) : AllTo P l (k + 1) := by
  intro j hj hjk
  rcases (by omega : j < k ∨ j = k) with h4 | rfl
  · exact h j hj h4
  · exact h1
structure PgOk (p : Pg) : Prop where
  vlo : 1 ≤ p.vars.length
  vhi : p.vars.length ≤ 6
  rhi : p.rules.length ≤ 12
  name : NameOk p.name
  vnames : NmsOk (vn p) (vn p).length
  rnames : NmsOk (rn p) (rn p).length
  nums : AllTo (fun x => numB x = true) p.vars p.vars.length
  forms : AllTo (FormOk p.vars.length) p.rules p.rules.length
  types : AllTo (TyOk (kindsOf p)) p.rules p.rules.length
structure LightP (p : Pg) : Prop where
  v : p.vars.length ≤ 10
  r : p.rules.length ≤ 16
  rs : ∀ j (h : j < p.rules.length), LightR p.rules[j]
def ErrPost (w : World) (P : Prop) (e : Ending) (w' : World) : Prop := ∃ z : Int, e = .returned (.int .i64 z) ∧ (z = 0 → P) ∧ Below w.heap.size w w'
theorem ErrPost.no {w w' : World} {P : Prop} {z : Int} (hz : z ≠ 0) (h : Below w.heap.size w w') : ErrPost w P (.returned (.int .i64 z)) w' := ⟨z, rfl, fun h => absurd h hz, h⟩
def AllRel {α : Type} (w : World) (cs : Array Value) (P : α → Prop) (l : List α) (i : Value) (wr : World) : Prop := ∃ k : Nat, i = .int .i64 k ∧ k ≤ l.length ∧ AllTo P l k ∧ Mem w [cB w.heap.size w.heap.size 25 cs] wr
theorem AllTo.zero {α : Type} {P : α → Prop} {l : List α} : AllTo P l 0 := fun _ _ h => by omega

set_option maxRecDepth 100000 in
set_option maxHeartbeats 8000000 in
theorem check_r (p : Pg) (hl : LightP p) (v : Value) (w : World) (hP : ProgAt w w.heap.size v p) : Calls Tryz.prog 115 #[v] w (ErrPost w (PgOk p)) := by
  have HP := Lib.hid hP
  obtain ⟨vv, vr, rfl, hv, hr⟩ := hP
  obtain ⟨Av, cv, rfl⟩ := vars_sl hv
  obtain ⟨Ar, cr, rfl⟩ := rules_sl hr
  have HV := Lib.hid hv
  have HR := Lib.hid hr
  have HL := Lib.hid hl
  have hlv := hl.v
  have hlr := hl.r
  have HM0 := Lib.hid ((Mem.start w).new 25 #[.string p.name, .slice Av p.vars.length cv, .slice Ar p.rules.length cr])
  clear hv hr hl
  cases hin : inR (p.vars.length : Int) 1 6
  · have HIN := Lib.hid hin
    clear hin
    go_enter Tryz.func115, Tryz.ntmps115
    go_wp2_with (go_at_call 139; refine (in7_r _ _ _ _).mono ?_; rintro e w' ⟨rfl, rfl⟩; rw [HIN.out])
    go_ret
    exact ErrPost.no (by decide) HM0.out.bel
  by_cases h12 : 12 < p.rules.length
  · have HIN := Lib.hid hin
    have p12 : (12 : Int) < (p.rules.length : Int) := by omega
    clear hin
    go_enter Tryz.func115, Tryz.ntmps115
    go_wp2_with (go_at_call 139; refine (in7_r _ _ _ _).mono ?_; rintro e w' ⟨rfl, rfl⟩; rw [HIN.out])
    go_ret
    exact ErrPost.no (by decide) HM0.out.bel
  have HIN := Lib.hid hin
  have p12 : ¬ (12 : Int) < (p.rules.length : Int) := by omega
  clear hin
  go_enter Tryz.func115, Tryz.ntmps115
  go_wp2_with (go_at_call 139; refine (in7_r _ _ _ _).mono ?_; rintro e w' ⟨rfl, rfl⟩; rw [HIN.out])
  refine (named_r p (by omega) (by omega) _ _ (ProgAt.to (Holds_.go HM0.out.bel) HP.out)).mono ?_
  rintro e w1 ⟨b, rfl, hb', hb1⟩
  have HNM := Lib.hid hb'
  have HM1 := Lib.hid (HM0.out.below hb1)
  clear hb' hb1 HM0
  cases b
  · go_wp2
    go_ret
    exact ErrPost.no (by decide) HM1.out.bel
  have HNB := Lib.hid (HNM.out rfl)
  clear HNM
  go_wp2
  go_loopw [3] (AllRel w #[.string p.name, .slice Av p.vars.length cv, .slice Ar p.rules.length cr] (fun x => numB x = true) p.vars) (fun i _ => p.vars.length - (intOf i).toNat)
  case atStart => exact ⟨0, rfl, Nat.zero_le _, AllTo.zero, HM1.out⟩
  case round =>
    obtain ⟨k, rfl, hk, hok, hM⟩ := hrel
    have HM := Lib.hid hM
    have HOK := Lib.hid hok
    obtain ⟨p0, p1, p2, pf⟩ := blk3 (hM.get 0 rfl).2
    clear hM hok HM1
    by_cases hlt : k < p.vars.length
    · obtain ⟨ad, hA, hb, c0, c1, c2, c3, c4, c5⟩ := var_at (VarsAt.to (Holds_.go HM.out.bel) HV.out) hlt
      subst hA
      have HX := Lib.hid (fun h => HOK.out.step hlt h)
      generalize p.vars[k]'hlt = x at *
      have HLT := Lib.hid hlt
      have k0 : (0 : Int) ≤ (k : Int) := by omega
      have k1 : (k : Int) < (p.vars.length : Int) := by omega
      cases hnb : numB x
      · have HNX := Lib.hid hnb
        clear hnb
        go_wp2_with fail
        refine (num_r x _).mono ?_
        rintro e w2 ⟨rfl, hb2⟩
        rw [HNX.out]
        go_wp2
        go_ret
        exact ErrPost.no (by decide) (HM.out.below hb2).bel
      · have HNX := Lib.hid hnb
        clear hnb
        go_wp2_with fail
        refine (num_r x _).mono ?_
        rintro e w2 ⟨rfl, hb2⟩
        rw [HNX.out]
        go_wp2
        go_roundw
        case rel => exact ⟨k + 1, by go_num, HLT.out, HX.out HNX.out, HM.out.below hb2⟩
        case measure => simp [intOf]; omega
    · obtain rfl : k = p.vars.length := by omega
      have HNUM := Lib.hid HOK.out
      have HM2 := Lib.hid HM.out
      go_wp2
      clear p0 p1 p2 pf HOK HM
      go_loopw [4] (AllRel w #[.string p.name, .slice Av p.vars.length cv, .slice Ar p.rules.length cr] (FormOk p.vars.length) p.rules) (fun i _ => p.rules.length - (intOf i).toNat)
      case atStart => exact ⟨0, rfl, Nat.zero_le _, AllTo.zero, HM2.out⟩
      case round =>
        obtain ⟨k, rfl, hk, hok, hM⟩ := hrel
        have HM := Lib.hid hM
        have HOK := Lib.hid hok
        obtain ⟨p0, p1, p2, pf⟩ := blk3 (hM.get 0 rfl).2
        clear hM hok HM2
        by_cases hlt : k < p.rules.length
        · obtain ⟨ad, Ag, cg, As, cs, hA, hb, c0, c1, c2, hg, hs⟩ := rule_at (RulesAt.to (Holds_.go HM.out.bel) HR.out) hlt
          subst hA
          have HX := Lib.hid (fun h => HOK.out.step hlt h)
          have HLX := Lib.hid (HL.out.rs k hlt)
          have HG := Lib.hid hg
          have HS := Lib.hid hs
          clear hg hs
          generalize p.rules[k]'hlt = x at *
          have HLT := Lib.hid hlt
          have k0 : (0 : Int) ≤ (k : Int) := by omega
          have k1 : (k : Int) < (p.rules.length : Int) := by omega
          have hwz : w.heap.size < wr.heap.size := (HM.out.get 0 rfl).2.lt
          have hbe : (ad.add (k * 3)).block < wr.heap.size := by rw [block_of_add]; exact hb
          go_upto_region 13 with fail
          have rule := below_rule wr
          have rule2 := below_addr wr
          go_region_held3 (fun X => Below wr.heap.size wr X) (first | exact Below.refl _ _ | exact Below.drew (Below.refl _ _) | assumption | exact below_step (by assumption) (by assumption))
            (first | (go_at_call 142; refine (formed_r x HLX.out p.vars.length (by omega) Ag cg As cs wr.drew HG.out HS.out).mono ?_; rintro e w2 ⟨b, rfl, hb', hb2⟩))
          have HFM := Lib.hid hb'
          have HM2 := Lib.hid (HM.out.drew.below hb2)
          clear rule rule2 p0 p1 p2 pf hb2 hb' HM
          cases b
          · go_wp2
            go_ret
            exact ErrPost.no (by decide) HM2.out.bel
          · have HFX := Lib.hid (HFM.out rfl)
            clear HFM
            go_wp2
            go_roundw
            case rel => exact ⟨k + 1, by go_num, HLT.out, HX.out HFX.out, HM2.out⟩
            case measure => simp [intOf]; omega
        · obtain rfl : k = p.rules.length := by omega
          have HFRM := Lib.hid HOK.out
          have HM3 := Lib.hid HM.out
          go_wp2
          clear p0 p1 p2 pf HOK HM
          go_loopw [5] (AllRel w #[.string p.name, .slice Av p.vars.length cv, .slice Ar p.rules.length cr] (TyOk (kindsOf p)) p.rules) (fun i _ => p.rules.length - (intOf i).toNat)
          case atStart => exact ⟨0, rfl, Nat.zero_le _, AllTo.zero, HM3.out⟩
          case round =>
            obtain ⟨k, rfl, hk, hok, hM⟩ := hrel
            have HM := Lib.hid hM
            have HOK := Lib.hid hok
            obtain ⟨p0, p1, p2, pf⟩ := blk3 (hM.get 0 rfl).2
            clear hM hok HM3
            by_cases hlt : k < p.rules.length
            · obtain ⟨ad, Ag, cg, As, cs, hA, hb, c0, c1, c2, hg, hs⟩ := rule_at (RulesAt.to (Holds_.go HM.out.bel) HR.out) hlt
              subst hA
              have HX := Lib.hid (fun h => HOK.out.step hlt h)
              have HFX := Lib.hid (HFRM.out k hlt hlt)
              have HG := Lib.hid hg
              have HS := Lib.hid hs
              clear hg hs
              generalize p.rules[k]'hlt = x at *
              have HLT := Lib.hid hlt
              have k0 : (0 : Int) ≤ (k : Int) := by omega
              have k1 : (k : Int) < (p.rules.length : Int) := by omega
              have hwz : w.heap.size < wr.heap.size := (HM.out.get 0 rfl).2.lt
              have hbe : (ad.add (k * 3)).block < wr.heap.size := by rw [block_of_add]; exact hb
              have HPW := Lib.hid (ProgAt.to (Holds_.go HM.out.drew.bel) HP.out)
              have HKL := Lib.hid (show (kindsOf p).length = p.vars.length by simp [kindsOf])
              go_upto_region 18 with fail
              have rule := below_rule wr
              have rule2 := below_addr wr
              go_region_held3 (fun X => Below wr.heap.size wr X) (first | exact Below.refl _ _ | exact Below.drew (Below.refl _ _) | assumption | exact below_step (by assumption) (by assumption))
                (first
                  | (go_at_call 144; refine (kinds_r p (by omega) _ wr.drew HPW.out).mono ?_; rintro e w2 ⟨Ak, ck, rfl, hik, hb2⟩; have HIK := Lib.hid hik; have HB2 := Lib.hid hb2; have hbq := below_step hb2 (bdrw (Below.refl _ _)); clear hik)
                  | (go_at_call 143; refine (typed_r x (kindsOf p) (by rw [HKL.out]; exact HFX.out) (by rw [HKL.out]; omega) Ag cg As cs Ak ck w2 (PairsAt.to (Holds_.go HB2.out) HG.out) (SetsAt.to (Holds_.go HB2.out) HS.out) HIK.out).mono ?_; rintro e w3 ⟨b, rfl, hb', hb3⟩; have hbq3 := below_step hb3 hbq))
              have HFM := Lib.hid hb'
              have HM2 := Lib.hid ((HM.out.drew.below hb2).below hb3)
              clear rule rule2 p0 p1 p2 pf hb2 hb3 hb' HM
              cases b
              · go_wp2
                go_ret
                exact ErrPost.no (by decide) HM2.out.bel
              · have HTX := Lib.hid (HFM.out rfl)
                clear HFM
                go_wp2
                go_roundw
                case rel => exact ⟨k + 1, by go_num, HLT.out, HX.out HTX.out, HM2.out⟩
                case measure => simp [intOf]; omega
            · obtain rfl : k = p.rules.length := by omega
              go_wp2
              go_ret
              exact ⟨0, rfl, (fun _ => ⟨(inR_true HIN.out).1 |> fun h => by omega, (inR_true HIN.out).2 |> fun h => by omega, by omega, HNB.out.1, HNB.out.2.1, HNB.out.2.2, HNUM.out, HFRM.out, HOK.out⟩), HM.out.bel⟩

theorem pvalid_r (p : Pg) (hl : LightP p) (v : Value) (w : World) (hP : ProgAt w w.heap.size v p) : Calls Tryz.prog 77 #[v] w (BoolPost w (PgOk p)) := by
  have HP := Lib.hid hP
  obtain ⟨vv, vr, rfl, hv, hr⟩ := hP
  clear hv hr
  have HM0 := Lib.hid ((Mem.start w).new 25 #[.string p.name, vv, vr])
  go_enter Tryz.func77, Tryz.ntmps77
  go_wp2_with fail
  refine (check_r p hl _ _ (ProgAt.to (Holds_.go HM0.out.bel) HP.out)).mono ?_
  rintro e w1 ⟨z, rfl, hz, hb1⟩
  have HZ := Lib.hid hz
  have HB := Lib.hid (HM0.out.below hb1).bel
  clear hz hb1
  by_cases h0 : z = 0
  · subst h0
    have HZ2 := Lib.hid (HZ.out rfl)
    go_wp2
    go_ret
    exact ⟨true, rfl, (fun _ => HZ2.out), HB.out⟩
  · have e0 : (z == 0) = false := beq_eq_false_iff_ne.2 h0
    go_wp2
    go_ret
    exact BoolPost.no HB.out
end Go.Proofs.YtdfklagiafmoiaaGreatDoor

/- Ports of a node: both sides' look for the port to a node; the reference's look at a node's links. -/
namespace Go.Proofs.YtdfklagiafmoiaaGreatDoor
open Go.RowKit

/-- the first port that leads to a node, or -1 -/
def portTo (l : List Tm) (u : Int) : Int := if l.findIdx (fun t => t.1 == u) < l.length then (l.findIdx (fun t => t.1 == u) : Int) else -1
theorem portTo_at {l : List Tm} {u : Int} {k : Nat} (hk : k < l.length) (h : l[k].1 = u) (hno : ∀ m (hm : m < l.length), m < k → l[m].1 ≠ u) : portTo l u = k := by
  have e : l.findIdx (fun t => t.1 == u) = k := by
    rw [List.findIdx_eq hk]
    exact ⟨by simp [h], fun j hj => by simpa using hno j (by omega) hj⟩
  unfold portTo; rw [e, if_pos hk]
theorem portTo_no {l : List Tm} {u : Int} (hno : ∀ m (hm : m < l.length), l[m].1 ≠ u) : portTo l u = -1 := by
  unfold portTo
  rw [if_neg]
  intro h
  have := List.findIdx_getElem (w := h)
  exact hno _ h (by simpa using this)
def graphV (g : Gr) (Ai : Option Addr) (ci : Nat) (Ap : Option Addr) (cp : Nat) : Value := .agg #[.slice Ai g.ids.length ci, .slice Ap g.ports.length cp]
def PtRel (w : World) (cs : Array Value) (l : List Tm) (u : Int) (i : Value) (wr : World) : Prop := ∃ k : Nat, i = .int .i64 k ∧ k ≤ l.length ∧ (∀ m (hm : m < l.length), m < k → l[m].1 ≠ u) ∧ Mem w [cB w.heap.size w.heap.size 29 cs] wr
theorem no_step {l : List Tm} {u : Int} {k : Nat} (h : ∀ m (hm : m < l.length), m < k → l[m].1 ≠ u) (hk : k < l.length) (h1 : l[k].1 ≠ u) : ∀ m (hm : m < l.length), m < k + 1 → l[m].1 ≠ u := by
  intro m hm hmk
  rcases (by omega : m < k ∨ m = k) with h4 | rfl
  · exact h m hm h4
  · exact h1
section
variable (g : Gr) (v : Nat) (hv : v < g.ports.length) (hl : (g.ports[v]).length ≤ 1000000) (u : Int) (Ai : Option Addr) (ci : Nat) (Ap : Option Addr) (cp : Nat) (w : World) (hp : PortsAt w w.heap.size (.slice Ap g.ports.length cp) g.ports)
include hl hp
set_option maxHeartbeats 2000000 in
theorem port_r : Calls Tryz.prog 117 #[graphV g Ai ci Ap cp, .int .i64 (v : Int), .int .i64 u] w fun e w' => e = .returned (.int .i64 (portTo g.ports[v] u)) ∧ Below w.heap.size w w' := by
  have HP := Lib.hid hp
  have HM0 := Lib.hid ((Mem.start w).new 29 #[.slice Ai g.ids.length ci, .slice Ap g.ports.length cp])
  have v0 : (0 : Int) ≤ (v : Int) := by omega
  have v1 : (v : Int) < (g.ports.length : Int) := by omega
  clear hp
  unfold graphV
  go_enter Tryz.func117, Tryz.ntmps117
  go_wp2
  go_loopw [7] (PtRel w #[.slice Ai g.ids.length ci, .slice Ap g.ports.length cp] g.ports[v] u) (fun i _ => g.ports[v].length - (intOf i).toNat)
  case atStart => exact ⟨0, rfl, Nat.zero_le _, (fun m hm h => by omega), HM0.out⟩
  case round =>
    obtain ⟨k, rfl, hk, hno, hM⟩ := hrel
    have HM := Lib.hid hM
    have HNO := Lib.hid hno
    obtain ⟨p0, p1, pf⟩ := blk2 (hM.get 0 rfl).2
    obtain ⟨ad, Ae, ce, hA, hb, c0, he⟩ := row_at (PortsAt.to (Holds_.go hM.bel) HP.out) hv
    subst hA
    clear hM hno HM0
    by_cases hlt : k < g.ports[v].length
    · obtain ⟨ae, hA, hbe, d0, d1⟩ := pair_at he hlt
      subst hA
      have HN := Lib.hid (fun h => no_step HNO.out hlt h)
      have HE := Lib.hid (fun h => portTo_at hlt h HNO.out)
      obtain ⟨x, hx⟩ : ∃ x : Tm, (g.ports[v])[k]'hlt = x := ⟨_, rfl⟩
      rw [hx] at d0 d1 HN HE
      have HLT := Lib.hid hlt
      clear hx he
      have k0 : (0 : Int) ≤ (k : Int) := by omega
      have k1 : (k : Int) < (g.ports[v].length : Int) := by omega
      by_cases hxu : x.1 = u
      · have e1 : (x.1 == u) = true := beq_iff_eq.2 hxu
        have HR := Lib.hid (HE.out hxu)
        clear hxu
        go_wp2
        go_ret
        exact ⟨ret_int HR.out.symm, HM.out.bel⟩
      · have e1 : (x.1 == u) = false := beq_eq_false_iff_ne.2 hxu
        have HR := Lib.hid (HN.out hxu)
        clear hxu
        go_wp2
        go_roundw
        case rel => exact ⟨k + 1, by go_num, HLT.out, HR.out, HM.out⟩
        case measure => simp [intOf]; omega
    · have HR := Lib.hid (portTo_no (fun m hm => HNO.out m hm (by omega)))
      obtain rfl : k = g.ports[v].length := by omega
      go_wp2
      go_ret
      exact ⟨ret_int HR.out.symm, HM.out.bel⟩
set_option maxHeartbeats 2000000 in
theorem port_p : Calls Tryz.prog 104 #[graphV g Ai ci Ap cp, .int .i64 (v : Int), .int .i64 u] w fun e w' => e = .returned (.int .i64 (portTo g.ports[v] u)) ∧ Below w.heap.size w w' := by
  have HP := Lib.hid hp
  have HM0 := Lib.hid ((Mem.start w).new 29 #[.slice Ai g.ids.length ci, .slice Ap g.ports.length cp])
  have v0 : (0 : Int) ≤ (v : Int) := by omega
  have v1 : (v : Int) < (g.ports.length : Int) := by omega
  obtain ⟨ad, Ae, ce, hA, hb, c0, he⟩ := row_at HP.out hv
  subst hA
  have HE0 := Lib.hid he
  have hb' : (ad.add v).block < w.heap.size := by rw [block_of_add]; exact hb
  clear hp he
  unfold graphV
  go_enter Tryz.func104, Tryz.ntmps104
  go_wp2
  go_loopw [15] (PtRel w #[.slice Ai g.ids.length ci, .slice (some ad) g.ports.length cp] g.ports[v] u) (fun i _ => g.ports[v].length - (intOf i).toNat)
  case atStart => exact ⟨0, rfl, Nat.zero_le _, (fun m hm h => by omega), HM0.out⟩
  case round =>
    obtain ⟨k, rfl, hk, hno, hM⟩ := hrel
    have HM := Lib.hid hM
    have HNO := Lib.hid hno
    clear hM hno HM0
    by_cases hlt : k < g.ports[v].length
    · obtain ⟨ae, hA, hbe, d0, d1⟩ := pair_at (PairsAt.to (Holds_.go HM.out.bel) HE0.out) hlt
      subst hA
      have HN := Lib.hid (fun h => no_step HNO.out hlt h)
      have HE := Lib.hid (fun h => portTo_at hlt h HNO.out)
      obtain ⟨x, hx⟩ : ∃ x : Tm, (g.ports[v])[k]'hlt = x := ⟨_, rfl⟩
      rw [hx] at d0 d1 HN HE
      have HLT := Lib.hid hlt
      clear hx
      have k0 : (0 : Int) ≤ (k : Int) := by omega
      have k1 : (k : Int) < (g.ports[v].length : Int) := by omega
      by_cases hxu : x.1 = u
      · have e1 : (x.1 == u) = true := beq_iff_eq.2 hxu
        have HR := Lib.hid (HE.out hxu)
        clear hxu
        go_wp2
        go_ret
        exact ⟨ret_int HR.out.symm, (HM.out.alloc _).bel⟩
      · have e1 : (x.1 == u) = false := beq_eq_false_iff_ne.2 hxu
        have HR := Lib.hid (HN.out hxu)
        clear hxu
        go_wp2
        go_roundw
        case rel => exact ⟨k + 1, by go_num, HLT.out, HR.out, HM.out.alloc _⟩
        case measure => simp [intOf]; omega
    · have HR := Lib.hid (portTo_no (fun m hm => HNO.out m hm (by omega)))
      obtain rfl : k = g.ports[v].length := by omega
      go_wp2
      go_ret
      exact ⟨ret_int HR.out.symm, HM.out.bel⟩
end

/-- the links of a node, up to a place -/
def LkOk (n v : Nat) (l : List Tm) (k : Nat) : Prop := ∀ j (h : j < l.length), j < k → (0 ≤ l[j].1 ∧ l[j].1 < n) ∧ l[j].1 ≠ v ∧ (1 ≤ l[j].2 ∧ l[j].2 ≤ 15) ∧ ∀ m (hm : m < l.length), m < j → l[m].1 ≠ l[j].1
theorem LkOk.step {n v : Nat} {l : List Tm} {k : Nat} (h : LkOk n v l k) (hk : k < l.length) (h1 : 0 ≤ l[k].1 ∧ l[k].1 < n) (h2 : l[k].1 ≠ v) (h3 : 1 ≤ l[k].2 ∧ l[k].2 ≤ 15) (h4 : ∀ m (hm : m < l.length), m < k → l[m].1 ≠ l[k].1) : LkOk n v l (k + 1) := by
  intro j hj hjk
  rcases (by omega : j < k ∨ j = k) with h5 | rfl
  · exact h j hj h5
  · exact ⟨h1, h2, h3, h4⟩
def LkRelO (w : World) (n v : Nat) (l : List Tm) (i : Value) (wr : World) : Prop := ∃ k : Nat, i = .int .i64 k ∧ k ≤ l.length ∧ LkOk n v l k ∧ Below w.heap.size w wr
def LkRelI (w : World) (l : List Tm) (k : Nat) (hk : k < l.length) (i : Value) (wr : World) : Prop := ∃ j : Nat, i = .int .i64 j ∧ j ≤ k ∧ (∀ m (hm : m < l.length), m < j → l[m].1 ≠ l[k].1) ∧ Below w.heap.size w wr
set_option maxRecDepth 100000 in
set_option maxHeartbeats 8000000 in
theorem links_r (l : List Tm) (hl : l.length ≤ 1000000) (v n : Nat) (hn : n ≤ 1000000) (hn0 : 0 < n) (A : Option Addr) (c : Nat) (w : World) (h : PairsAt w w.heap.size (.slice A l.length c) l) :
    Calls Tryz.prog 116 #[.slice A l.length c, .int .i64 (v : Int), .int .i64 (n : Int)] w (BoolPost w (LkOk n v l l.length)) := by
  have H := Lib.hid h
  clear h
  have HB0 := Lib.hid (Below.refl w.heap.size w)
  go_enter Tryz.func116, Tryz.ntmps116
  go_wp2
  go_loopw [7] (LkRelO w n v l) (fun i _ => l.length - (intOf i).toNat)
  case atStart => exact ⟨0, rfl, Nat.zero_le _, (fun j h hj => by omega), HB0.out⟩
  case round =>
    obtain ⟨k, rfl, hk, hok, hb⟩ := hrel
    have HB := Lib.hid hb
    have HOK := Lib.hid hok
    clear hb hok HB0
    by_cases hlt : k < l.length
    · obtain ⟨ad, hA, hbl, c0, c1⟩ := pair_at (PairsAt.to (Holds_.go HB.out) H.out) hlt
      subst hA
      have HX1 := Lib.hid (fun h => HOK.out.step hlt h)
      obtain ⟨x, hx⟩ : ∃ x : Tm, l[k]'hlt = x := ⟨_, rfl⟩
      have HX := Lib.hid hx
      rw [hx] at c0 c1 HX1
      have HLT := Lib.hid hlt
      clear hx
      have k0 : (0 : Int) ≤ (k : Int) := by omega
      have k1 : (k : Int) < (l.length : Int) := by omega
      cases h1 : inR x.1 0 ((n : Int) - 1)
      · have H1 := Lib.hid h1
        clear h1
        go_wp2_with (go_at_call 49; refine (in1_r _ _ _ _).mono ?_; rintro e w' ⟨rfl, rfl⟩; rw [H1.out])
        go_ret
        exact BoolPost.no HB.out
      have H1 := Lib.hid h1
      clear h1
      by_cases h2 : x.1 = v
      · have e2 : (x.1 == (v : Int)) = true := beq_iff_eq.2 h2
        clear h2
        go_wp2_with (go_at_call 49; refine (in1_r _ _ _ _).mono ?_; rintro e w' ⟨rfl, rfl⟩; rw [H1.out])
        go_ret
        exact BoolPost.no HB.out
      have e2 : (x.1 == (v : Int)) = false := beq_eq_false_iff_ne.2 h2
      have H2 := Lib.hid h2
      clear h2
      cases h3 : inR x.2 1 15
      · have H3 := Lib.hid h3
        clear h3
        go_wp2_with (first | (go_at_call 49; with_reducible refine (in1_r x.1 _ _ _).mono ?_; rintro e w' ⟨rfl, rfl⟩; rw [H1.out]) | (go_at_call 49; with_reducible refine (in1_r x.2 _ _ _).mono ?_; rintro e w' ⟨rfl, rfl⟩; rw [H3.out]))
        go_ret
        exact BoolPost.no HB.out
      have H3 := Lib.hid h3
      clear h3
      go_wp2_with (first | (go_at_call 49; with_reducible refine (in1_r x.1 _ _ _).mono ?_; rintro e w' ⟨rfl, rfl⟩; rw [H1.out]) | (go_at_call 49; with_reducible refine (in1_r x.2 _ _ _).mono ?_; rintro e w' ⟨rfl, rfl⟩; rw [H3.out]))
      go_loopw [8] (LkRelI w l k hlt) (fun i _ => k - (intOf i).toNat)
      case atStart => exact ⟨0, rfl, Nat.zero_le _, (fun m hm h => by omega), HB.out⟩
      case round =>
        obtain ⟨j, rfl, hj, hne, hb1⟩ := hrel
        have HNE := Lib.hid hne
        have HB1 := Lib.hid hb1
        clear hne hb1 HB c0 c1
        by_cases hjk : j < k
        · obtain ⟨ad1, hA1, hb1, c0, c1⟩ := pair_at (PairsAt.to (Holds_.go HB1.out) H.out) hlt
          obtain ⟨ad2, hA2, hb2, d0, d1⟩ := pair_at (PairsAt.to (Holds_.go HB1.out) H.out) (k := j) (by omega)
          obtain rfl : ad = ad1 := by injection hA1
          obtain rfl : ad = ad2 := by injection hA2
          rw [HX.out] at c0 c1
          obtain ⟨y, hy⟩ : ∃ y : Tm, l[j]'(by omega) = y := ⟨_, rfl⟩
          have HY := Lib.hid hy
          rw [hy] at d0 d1
          clear hA1 hA2 hy
          have j0 : (0 : Int) ≤ (j : Int) := by omega
          have j1 : (j : Int) < (k : Int) := by omega
          have j2 : (j : Int) < (l.length : Int) := by omega
          cases heq : (y.1 == x.1)
          · have HEQ := Lib.hid heq
            go_upto_region 9 with fail
            go_quiet (fail)
            go_wp2
            go_roundw
            case rel =>
              refine ⟨j + 1, by go_num, by omega, fun m hm h => ?_, below_drewN HB1.out _⟩
              rcases (by omega : m < j ∨ m = j) with h3 | rfl
              · exact HNE.out m hm h3
              · have h4 := HEQ.out
                have h5 := HY.out
                have h6 := HX.out
                subst h5 h6
                exact beq_eq_false_iff_ne.1 h4
            case measure => simp [intOf]; omega
          · go_upto_region 9 with fail
            go_quiet (fail)
            go_wp2
            go_ret
            exact BoolPost.no (below_drewN HB1.out _)
        · obtain rfl : j = k := by omega
          have HNX := Lib.hid (HX1.out (by have := inR_true H1.out; omega) H2.out (inR_true H3.out) (by have h6 := HX.out; have h7 := HNE.out; subst h6; exact h7))
          go_wp2
          go_roundw
          case rel => exact ⟨j + 1, by go_num, HLT.out, HNX.out, HB1.out⟩
          case measure => simp [intOf]; omega
    · obtain rfl : k = l.length := by omega
      go_wp2
      go_ret
      exact ⟨true, rfl, (fun _ => HOK.out), HB.out⟩
end Go.Proofs.YtdfklagiafmoiaaGreatDoor

/- The reference's look at a graph. -/
namespace Go.Proofs.YtdfklagiafmoiaaGreatDoor
open Go.RowKit

def IdAt (g : Gr) (j : Nat) : Prop := ∃ (h : j < g.ids.length) (hp : j < g.ports.length), (0 ≤ g.ids[j] ∧ g.ids[j] ≤ 255) ∧ g.ports[j].length < g.ports.length ∧ LkOk g.ports.length j g.ports[j] g.ports[j].length ∧ ∀ m (hm : m < g.ids.length), m < j → g.ids[m] ≠ g.ids[j]
def SymAt (g : Gr) (v i : Nat) : Prop := ∃ (hv : v < g.ports.length) (hi : i < g.ports[v].length) (u k : Nat) (hu : u < g.ports.length) (hk : k < g.ports[u].length), g.ports[v][i].1 = u ∧ portTo g.ports[u] v = k ∧ g.ports[u][k].2 = g.ports[v][i].2
structure GrOk (g : Gr) : Prop where
  lo : 1 ≤ g.ports.length
  hi : g.ports.length ≤ 24
  len : g.ids.length = g.ports.length
  ids : ∀ j, j < g.ports.length → IdAt g j
  sym : ∀ v i (hv : v < g.ports.length), i < g.ports[v].length → SymAt g v i
structure LightG (g : Gr) : Prop where
  i : g.ids.length ≤ 30
  n : g.ports.length ≤ 30
  p : ∀ v (h : v < g.ports.length), g.ports[v].length ≤ 30
def GvRelO (w : World) (cs : Array Value) (g : Gr) (i : Value) (wr : World) : Prop := ∃ k : Nat, i = .int .i64 k ∧ k ≤ g.ports.length ∧ (∀ j, j < k → IdAt g j) ∧ Mem w [cB w.heap.size w.heap.size 29 cs] wr
def GvRelI (w : World) (cs : Array Value) (l : List Int) (k : Nat) (hk : k < l.length) (i : Value) (wr : World) : Prop := ∃ j : Nat, i = .int .i64 j ∧ j ≤ k ∧ (∀ m (hm : m < l.length), m < j → l[m] ≠ l[k]) ∧ Mem w [cB w.heap.size w.heap.size 29 cs] wr
def SyRelO (w : World) (cs : Array Value) (g : Gr) (i : Value) (wr : World) : Prop := ∃ k : Nat, i = .int .i64 k ∧ k ≤ g.ports.length ∧ (∀ v i (hv : v < g.ports.length), v < k → i < g.ports[v].length → SymAt g v i) ∧ Mem w [cB w.heap.size w.heap.size 29 cs] wr
def SyRelI (w : World) (cs : Array Value) (g : Gr) (v : Nat) (hv : v < g.ports.length) (i : Value) (wr : World) : Prop := ∃ j : Nat, i = .int .i64 j ∧ j ≤ g.ports[v].length ∧ (∀ i, i < j → SymAt g v i) ∧ Mem w [cB w.heap.size w.heap.size 29 cs] wr
theorem portTo_form (l : List Tm) (u : Int) : portTo l u = -1 ∨ ∃ k : Nat, k < l.length ∧ portTo l u = k := by
  unfold portTo
  split
  · exact .inr ⟨_, ‹_›, rfl⟩
  · exact .inl rfl

set_option maxRecDepth 100000 in
set_option maxHeartbeats 8000000 in
theorem gvalid_r (g : Gr) (hl : LightG g) (v : Value) (w : World) (hG : GraphAt w w.heap.size v g) : Calls Tryz.prog 78 #[v] w (BoolPost w (GrOk g)) := by
  obtain ⟨vi, vp, rfl, hi, hp⟩ := hG
  obtain ⟨Ai, ci, rfl⟩ := ints_sl hi
  obtain ⟨Ap, cp, rfl⟩ := ports_sl hp
  have HI := Lib.hid hi
  have HP := Lib.hid hp
  have HL := Lib.hid hl
  have hln := hl.n
  have hli := hl.i
  have HM0 := Lib.hid ((Mem.start w).new 29 #[.slice Ai g.ids.length ci, .slice Ap g.ports.length cp])
  clear hi hp hl
  cases hin : inR (g.ports.length : Int) 1 24
  · have HIN := Lib.hid hin
    clear hin
    go_enter Tryz.func78, Tryz.ntmps78
    go_wp2_with (go_at_call 49; refine (in1_r _ _ _ _).mono ?_; rintro e w' ⟨rfl, rfl⟩; rw [HIN.out])
    go_ret
    exact BoolPost.no HM0.out.bel
  have HIN := Lib.hid hin
  clear hin
  by_cases hlen : g.ids.length = g.ports.length
  case neg =>
    have e1 : ((g.ids.length : Int) != (g.ports.length : Int)) = true := by simp; omega
    go_enter Tryz.func78, Tryz.ntmps78
    go_wp2_with (go_at_call 49; refine (in1_r _ _ _ _).mono ?_; rintro e w' ⟨rfl, rfl⟩; rw [HIN.out])
    go_ret
    exact BoolPost.no HM0.out.bel
  have e1 : ((g.ids.length : Int) != (g.ports.length : Int)) = false := by simp; omega
  have HLEN := Lib.hid hlen
  clear hlen
  go_enter Tryz.func78, Tryz.ntmps78
  go_wp2_with (go_at_call 49; refine (in1_r _ _ _ _).mono ?_; rintro e w' ⟨rfl, rfl⟩; rw [HIN.out])
  go_loopw [4] (GvRelO w #[.slice Ai g.ids.length ci, .slice Ap g.ports.length cp] g) (fun i _ => g.ports.length - (intOf i).toNat)
  case atStart => exact ⟨0, rfl, Nat.zero_le _, (fun j hj => by omega), HM0.out⟩
  case round =>
    obtain ⟨k, rfl, hk, hok, hM⟩ := hrel
    have HM := Lib.hid hM
    have HOK := Lib.hid hok
    obtain ⟨p0, p1, pf⟩ := blk2 (hM.get 0 rfl).2
    clear hM hok HM0
    by_cases hlt : k < g.ports.length
    · have hlti : k < g.ids.length := by rw [HLEN.out]; exact hlt
      obtain ⟨ap, Ae, ce, hA, hb, c0, he⟩ := row_at (PortsAt.to (Holds_.go HM.out.bel) HP.out) hlt
      subst hA
      obtain ⟨ai, hA, hbi, d0⟩ := int_at (IntsAt.to (Holds_.go HM.out.bel) HI.out) hlti
      subst hA
      have HE := Lib.hid he
      have HLK := Lib.hid (HL.out.p k hlt)
      obtain ⟨z, hz⟩ : ∃ z : Int, g.ids[k]'hlti = z := ⟨_, rfl⟩
      have HZ := Lib.hid hz
      rw [hz] at d0
      clear he hz
      have hlk := HLK.out
      have k0 : (0 : Int) ≤ (k : Int) := by omega
      have k1 : (k : Int) < (g.ports.length : Int) := by omega
      have k2 : (k : Int) < (g.ids.length : Int) := by omega
      cases h1 : inR z 0 255
      · have H1 := Lib.hid h1
        clear h1
        go_wp2_with (go_at_call 49; refine (in1_r _ _ _ _).mono ?_; rintro e w' ⟨rfl, rfl⟩; rw [H1.out])
        go_ret
        exact BoolPost.no HM.out.bel
      have H1 := Lib.hid h1
      clear h1
      by_cases h2 : g.ports.length ≤ g.ports[k].length
      · have e2 : decide (g.ports.length ≤ g.ports[k].length) = true := by simpa using h2
        go_wp2_with (go_at_call 49; refine (in1_r _ _ _ _).mono ?_; rintro e w' ⟨rfl, rfl⟩; rw [H1.out])
        go_ret
        exact BoolPost.no HM.out.bel
      have e2 : decide (g.ports.length ≤ g.ports[k].length) = false := by simpa using h2
      go_wp2_with (go_at_call 49; refine (in1_r _ _ _ _).mono ?_; rintro e w' ⟨rfl, rfl⟩; rw [H1.out])
      refine (links_r _ (by omega) k g.ports.length (by omega) (by omega) Ae ce _ HE.out).mono ?_
      rintro e w1 ⟨b, rfl, hb', hb1⟩
      have HLB := Lib.hid hb'
      have HM1 := Lib.hid (HM.out.below hb1)
      clear hb' hb1 HM p0 p1 pf
      cases b
      · go_wp2
        go_ret
        exact BoolPost.no HM1.out.bel
      have HLO := Lib.hid (HLB.out rfl)
      clear HLB
      go_wp2
      go_loopw [5] (GvRelI w #[.slice (some ai) g.ids.length ci, .slice (some ap) g.ports.length cp] g.ids k hlti) (fun i _ => k - (intOf i).toNat)
      case atStart => exact ⟨0, rfl, Nat.zero_le _, (fun m hm h => by omega), HM1.out⟩
      case round =>
        obtain ⟨j, rfl, hj, hne, hM2⟩ := hrel
        have HNE := Lib.hid hne
        have HM2 := Lib.hid hM2
        obtain ⟨p0, p1, pf⟩ := blk2 (hM2.get 0 rfl).2
        clear hne hM2 HM1 c0 d0
        by_cases hjk : j < k
        · obtain ⟨ad1, hA1, hb1, c0⟩ := int_at (IntsAt.to (Holds_.go HM2.out.bel) HI.out) hlti
          obtain ⟨ad2, hA2, hb2, d0⟩ := int_at (IntsAt.to (Holds_.go HM2.out.bel) HI.out) (k := j) (by omega)
          obtain rfl : ai = ad1 := by injection hA1
          obtain rfl : ai = ad2 := by injection hA2
          rw [HZ.out] at c0
          obtain ⟨y, hy⟩ : ∃ y : Int, g.ids[j]'(by omega) = y := ⟨_, rfl⟩
          have HY := Lib.hid hy
          rw [hy] at d0
          clear hA1 hA2 hy
          have j0 : (0 : Int) ≤ (j : Int) := by omega
          have j1 : (j : Int) < (k : Int) := by omega
          have j2 : (j : Int) < (g.ids.length : Int) := by omega
          cases heq : (y == z)
          · have HEQ := Lib.hid heq
            go_upto_region 12 with fail
            go_quiet (fail)
            go_wp2
            go_roundw
            case rel =>
              refine ⟨j + 1, by go_num, by omega, fun m hm h => ?_, HM2.out.drewN _⟩
              rcases (by omega : m < j ∨ m = j) with h3 | rfl
              · exact HNE.out m hm h3
              · have h4 := HEQ.out
                have h5 := HY.out
                have h6 := HZ.out
                subst h5 h6
                exact beq_eq_false_iff_ne.1 h4
            case measure => simp [intOf]; omega
          · go_upto_region 12 with fail
            go_quiet (fail)
            go_wp2
            go_ret
            exact BoolPost.no (HM2.out.drewN _).bel
        · obtain rfl : j = k := by omega
          have HNX := Lib.hid (show IdAt g j from ⟨hlti, hlt, by rw [HZ.out]; exact inR_true H1.out, by omega, HLO.out, HNE.out⟩)
          go_wp2
          go_roundw
          case rel =>
            refine ⟨j + 1, by go_num, by omega, fun m hm => ?_, HM2.out⟩
            rcases (by omega : m < j ∨ m = j) with h3 | rfl
            · exact HOK.out m h3
            · exact HNX.out
          case measure => simp [intOf]; omega
    · obtain rfl : k = g.ports.length := by omega
      have HIDS := Lib.hid HOK.out
      have HM1 := Lib.hid HM.out
      go_wp2
      clear p0 p1 pf HOK HM
      go_loopw [6] (SyRelO w #[.slice Ai g.ids.length ci, .slice Ap g.ports.length cp] g) (fun i _ => g.ports.length - (intOf i).toNat)
      case atStart => exact ⟨0, rfl, Nat.zero_le _, (fun v i hv h => by omega), HM1.out⟩
      case round =>
        obtain ⟨k, rfl, hk, hok, hM⟩ := hrel
        have HM := Lib.hid hM
        have HOK := Lib.hid hok
        obtain ⟨p0, p1, pf⟩ := blk2 (hM.get 0 rfl).2
        clear hM hok HM1
        by_cases hlt : k < g.ports.length
        · have k0 : (0 : Int) ≤ (k : Int) := by omega
          have k1 : (k : Int) < (g.ports.length : Int) := by omega
          go_wp2
          clear p0 p1 pf
          go_loopw [7] (SyRelI w #[.slice Ai g.ids.length ci, .slice Ap g.ports.length cp] g k hlt) (fun i _ => g.ports[k].length - (intOf i).toNat)
          case atStart => exact ⟨0, rfl, Nat.zero_le _, (fun i h => by omega), HM.out⟩
          case round =>
            obtain ⟨j, rfl, hj, hsy, hM2⟩ := hrel
            have HSY := Lib.hid hsy
            have HM2 := Lib.hid hM2
            obtain ⟨p0, p1, pf⟩ := blk2 (hM2.get 0 rfl).2
            obtain ⟨ap, Ae, ce, hA, hb, c0, he⟩ := row_at (PortsAt.to (Holds_.go HM2.out.bel) HP.out) hlt
            subst hA
            clear hsy hM2 HM
            by_cases hjl : j < g.ports[k].length
            · obtain ⟨ae, hA, hbe, d0, d1⟩ := pair_at he hjl
              subst hA
              obtain ⟨_, _, _, _, hlk, _⟩ := HIDS.out k hlt
              obtain ⟨⟨hx0, hx1⟩, -, -, -⟩ := hlk j hjl hjl
              obtain ⟨x, hx⟩ : ∃ x : Tm, (g.ports[k])[j]'hjl = x := ⟨_, rfl⟩
              have HX := Lib.hid hx
              rw [hx] at d0 d1 hx0 hx1
              clear hx he hlk
              obtain ⟨u, hu⟩ : ∃ u : Nat, x.1 = u := ⟨x.1.toNat, by omega⟩
              have hul : u < g.ports.length := by omega
              have HU := Lib.hid hu
              rw [hu] at d0
              have HLU := Lib.hid (HL.out.p u hul)
              have hlu := HLU.out
              have HJL := Lib.hid hjl
              clear hx0 hx1 hu
              have j0 : (0 : Int) ≤ (j : Int) := by omega
              have j1 : (j : Int) < (g.ports[k].length : Int) := by omega
              have u0 : (0 : Int) ≤ (u : Int) := by omega
              have u1 : (u : Int) < (g.ports.length : Int) := by omega
              have hwz : w.heap.size < wr.heap.size := (HM2.out.get 0 rfl).2.lt
              have HMX := Lib.hid (HM2.out.new 135 #[.int .i64 (u : Int), .int .i64 x.2])
              go_wp2_with fail
              refine (port_r g u hul (by omega) (k : Int) Ai ci (some ap) cp _ (PortsAt.to (Holds_.go HMX.out.bel) HP.out)).mono ?_
              rintro e w3 ⟨rfl, hb3⟩
              have HM3 := Lib.hid (HMX.out.below hb3)
              clear hb3 HMX p0 p1 pf c0 d0 d1
              obtain ⟨p0, p1, pf⟩ := blk2 (HM3.out.get 1 rfl).2
              obtain ⟨q0, q1, qf⟩ := blk2 (HM3.out.get 0 rfl).2
              rcases portTo_form g.ports[u] (k : Int) with hpt | ⟨y, hy, hpt⟩
              · have HPT := Lib.hid hpt
                rw [hpt]
                clear hpt
                go_upto_region 22 with fail
                go_quiet (fail)
                go_wp2
                go_ret
                exact BoolPost.no (HM3.out.drewN _).bel
              · have HPT := Lib.hid hpt
                rw [hpt]
                obtain ⟨ap2, Au, cu, hA, hbu, c0, heu⟩ := row_at (PortsAt.to (Holds_.go HM3.out.bel) HP.out) hul
                obtain rfl : ap = ap2 := by injection hA
                obtain ⟨au, hA2, hbau, f0, f1⟩ := pair_at heu hy
                subst hA2
                obtain ⟨t, ht⟩ : ∃ t : Tm, (g.ports[u])[y]'hy = t := ⟨_, rfl⟩
                have HT := Lib.hid ht
                rw [ht] at f0 f1
                have HYL := Lib.hid hy
                have y0 : (0 : Int) ≤ (y : Int) := by omega
                have y1 : (y : Int) < (g.ports[u].length : Int) := by omega
                have y2 : ((y : Int) < 0) = False := by simp
                clear hpt ht hA heu
                by_cases hw : t.2 = x.2
                · have e3 : (t.2 != x.2) = false := by simpa using hw
                  have HW := Lib.hid hw
                  clear hw
                  go_upto_region 22 with fail
                  go_quiet (fail)
                  go_wp2
                  go_roundw
                  case rel =>
                    refine ⟨j + 1, by go_num, HJL.out, fun i hi => ?_, (HM3.out.erase 0).drewN _⟩
                    rcases (by omega : i < j ∨ i = j) with h3 | rfl
                    · exact HSY.out i h3
                    · exact ⟨hlt, HJL.out, u, y, hul, HYL.out, by rw [HX.out]; exact HU.out, HPT.out, by rw [HT.out, HX.out]; exact HW.out⟩
                  case measure => simp [intOf]; omega
                · have e3 : (t.2 != x.2) = true := by simpa using hw
                  go_upto_region 22 with fail
                  go_quiet (fail)
                  go_wp2
                  go_ret
                  exact BoolPost.no (HM3.out.drewN _).bel
            · obtain rfl : j = g.ports[k].length := by omega
              clear he
              go_wp2
              go_roundw
              case rel =>
                refine ⟨k + 1, by go_num, by omega, fun v i hv h hi => ?_, HM2.out⟩
                rcases (by omega : v < k ∨ v = k) with h3 | rfl
                · exact HOK.out v i hv h3 hi
                · exact HSY.out i hi
              case measure => simp [intOf]; omega
        · obtain rfl : k = g.ports.length := by omega
          go_wp2
          go_ret
          exact ⟨true, rfl, (fun _ => ⟨(inR_true HIN.out).1 |> fun h => by omega, (inR_true HIN.out).2 |> fun h => by omega, HLEN.out, fun j hj => HIDS.out j hj, fun v i hv hi => HOK.out v i hv hv hi⟩), HM.out.bel⟩
end Go.Proofs.YtdfklagiafmoiaaGreatDoor
