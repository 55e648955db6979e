/- Lemmas of this seat, laid together out of 4 texts: no statement of the seat is proved here. -/
import Derived.Test.YtdfklagiafmoiaaGreatDoorG06
/- Variables' numbers on both sides. -/
namespace Go.Proofs.YtdfklagiafmoiaaGreatDoor
open Go.RowKit

def numB (x : Vr) : Bool :=
  if x.kind ≠ 1 then decide ((x.kind = 2 ∨ x.kind = 3) ∧ x.lo = 0 ∧ x.hi = 0 ∧ x.pn = 0 ∧ x.pid = 0)
  else decide (0 ≤ x.lo ∧ x.lo ≤ 4096 ∧ 0 ≤ x.pn ∧ x.pn ≤ 255 ∧ 0 ≤ x.pid ∧ x.pid ≤ 255 ∧ (x.pn = 0 ∨ x.pid = 0) ∧ -4096 ≤ x.hi ∧ x.hi ≤ 4096 ∧ (x.pn = 0 → x.pid = 0 → 0 ≤ x.hi))
def varV (x : Vr) : Value := .agg #[.string x.name, .int .i64 x.kind, .int .i64 x.lo, .int .i64 x.hi, .int .i64 x.pn, .int .i64 x.pid]
set_option maxRecDepth 100000 in
set_option maxHeartbeats 8000000 in
theorem num_r (x : Vr) (w : World) : Calls Tryz.prog 141 #[varV x] w fun e w' => e = .returned (.bool (numB x)) ∧ Below w.heap.size w w' := by
  unfold varV
  obtain ⟨nm, kind, lo, hi, pn, pid⟩ := x
  dsimp only
  by_cases hk : kind = 1
  · subst hk
    go_enter Tryz.func141, Tryz.ntmps141
    go_wp2_with (first | (go_at_call 139; refine (in7_r _ _ _ _).mono ?_; rintro e w' ⟨rfl, rfl⟩; unfold inR))
    all_goals ((go_ret; refine ⟨ret_bool (bool_ext ?_), ?_⟩; ((try simp only [beq_iff_eq, beq_eq_false_iff_ne, bne_iff_ne, bne_eq_false_iff_eq, ne_eq] at *); (try unfold numB); (try dsimp only); (repeat' split) <;> (try simp only [decide_eq_true_eq, Bool.false_eq_true, Bool.and_eq_true, false_iff]) <;> (try omega))); (repeat (with_reducible first | exact Below.refl _ _ | refine Below.setCell ?_ (by first | exact Nat.le_refl _ | (simp only [World.size_alloc]; omega)) _ | refine below_drewN ?_ _ | refine Below.drew ?_ | refine Below.alloc ?_ (by first | exact Nat.le_refl _ | (simp only [World.size_alloc]; omega)) _ | assumption)))
  · have hk' : (kind == 1) = false := beq_eq_false_iff_ne.2 hk
    have hk2 : (kind != 1) = true := by simpa using hk
    go_enter Tryz.func141, Tryz.ntmps141
    go_wp2_with (first | (go_at_call 162; refine (known_r _ _).mono ?_; rintro e w' ⟨rfl, rfl⟩; unfold knownK))
    all_goals ((go_ret; refine ⟨ret_bool (bool_ext ?_), ?_⟩; ((try simp only [beq_eq_false_iff_ne, bne_iff_ne, ne_eq] at *); (try unfold numB); (try dsimp only); (repeat' split) <;> (try simp only [decide_eq_true_eq, Bool.false_eq_true, beq_iff_eq, Bool.and_eq_true, Bool.or_eq_true, false_iff]) <;> (try omega))); (repeat (with_reducible first | exact Below.refl _ _ | refine Below.setCell ?_ (by first | exact Nat.le_refl _ | (simp only [World.size_alloc]; omega)) _ | refine below_drewN ?_ _ | refine Below.drew ?_ | refine Below.alloc ?_ (by first | exact Nat.le_refl _ | (simp only [World.size_alloc]; omega)) _ | assumption)))
set_option maxRecDepth 100000 in
set_option maxHeartbeats 8000000 in
theorem num_p (x : Vr) (w : World) : Calls Tryz.prog 62 #[varV x] w fun e w' => e = .returned (.bool (numB x)) ∧ Below w.heap.size w w' := by
  unfold varV
  obtain ⟨nm, kind, lo, hi, pn, pid⟩ := x
  dsimp only
  by_cases hk : kind = 1
  · subst hk
    go_enter Tryz.func62, Tryz.ntmps62
    go_wp2_with (first | (go_at_call 95; refine (possible_p _ _).mono ?_; rintro e w' ⟨rfl, rfl⟩; rw [show knownK 1 = true from rfl]) | (go_at_call 96; refine (within_p _ _ _ _).mono ?_; rintro e w' ⟨rfl, rfl⟩; unfold inR))
    all_goals ((go_ret; refine ⟨ret_bool (bool_ext ?_), ?_⟩; ((try simp only [beq_iff_eq, beq_eq_false_iff_ne, ne_eq, Bool.not_eq_true', Bool.not_eq_false', decide_eq_false_iff_not, decide_eq_true_eq] at *); (try unfold numB); (try dsimp only); (repeat' split) <;> (try simp only [decide_eq_true_eq, Bool.false_eq_true, Bool.and_eq_true, false_iff]) <;> (try omega))); (repeat (with_reducible first | exact Below.refl _ _ | refine Below.setCell ?_ (by first | exact Nat.le_refl _ | (simp only [World.size_alloc]; omega)) _ | refine below_drewN ?_ _ | refine Below.drew ?_ | refine Below.alloc ?_ (by first | exact Nat.le_refl _ | (simp only [World.size_alloc]; omega)) _ | assumption)))
  · have hk' : (kind == 1) = false := beq_eq_false_iff_ne.2 hk
    have hk2 : (kind != 1) = true := by simpa using hk
    go_enter Tryz.func62, Tryz.ntmps62
    go_wp2_with (first | (go_at_call 95; refine (possible_p _ _).mono ?_; rintro e w' ⟨rfl, rfl⟩; unfold knownK))
    all_goals ((go_ret; refine ⟨ret_bool (bool_ext ?_), ?_⟩; ((try simp only [beq_iff_eq, beq_eq_false_iff_ne, bne_iff_ne, ne_eq, Bool.not_eq_true', Bool.not_eq_false', decide_eq_false_iff_not, decide_eq_true_eq] at *); (try unfold numB); (try dsimp only); (repeat' split) <;> (try simp only [decide_eq_true_eq, Bool.false_eq_true, false_iff]) <;> (try omega))); (repeat (with_reducible first | exact Below.refl _ _ | refine Below.setCell ?_ (by first | exact Nat.le_refl _ | (simp only [World.size_alloc]; omega)) _ | refine below_drewN ?_ _ | refine Below.drew ?_ | refine Below.alloc ?_ (by first | exact Nat.le_refl _ | (simp only [World.size_alloc]; omega)) _ | assumption)))
end Go.Proofs.YtdfklagiafmoiaaGreatDoor

/- The kinds of a program's variables, on both sides. -/
namespace Go.Proofs.YtdfklagiafmoiaaGreatDoor
open Go.RowKit

theorem rules_sl {w : World} {B : Nat} {v : Value} {L : List Rl} (h : RulesAt w B v L) : ∃ A c, v = .slice A L.length c := ListAt.sl h
theorem vars_sl {w : World} {B : Nat} {v : Value} {L : List Vr} (h : VarsAt w B v L) : ∃ A c, v = .slice A L.length c := ListAt.sl h
theorem ports_sl {w : World} {B : Nat} {v : Value} {L : List (List Tm)} (h : PortsAt w B v L) : ∃ A c, v = .slice A L.length c := ListAt.sl h
theorem ints_sl {w : World} {B : Nat} {v : Value} {L : List Int} (h : IntsAt w B v L) : ∃ A c, v = .slice A L.length c := ListAt.sl h
theorem conf_sl {w : World} {B : Nat} {v : Value} {L : List (List Int)} (h : ConfAt w B v L) : ∃ A c, v = .slice A L.length c := ListAt.sl h
def kindsOf (p : Pg) : List Int := p.vars.map (·.kind)
/-- a list of numbers, made by the call -/
def IntsPost (w : World) (l : List Int) (e : Ending) (w' : World) : Prop := ∃ A c, e = .returned (.slice A l.length c) ∧ IntsAt w' w'.heap.size (.slice A l.length c) l ∧ Below w.heap.size w w'
theorem IntsPost.mk {w w' : World} {l : List Int} {A : Option Addr} {n c : Nat} (hn : n = l.length) (h : IntsAt w' w'.heap.size (.slice A n c) l) (hb : Below w.heap.size w w') : IntsPost w l (.returned (.slice A n c)) w' := by
  subst hn; exact ⟨A, c, rfl, h, hb⟩
def iv (l : List Int) : List Value := l.map fun z => .int .i64 z
theorem iv_snoc (l : List Int) (k : Nat) (h : k < l.length) : iv (l.take (k + 1)) = iv (l.take k) ++ [.int .i64 l[k]] := by
  rw [List.take_succ_eq_append_getElem h]; unfold iv; rw [List.map_append]; rfl

def KsRel (w : World) (cs : Array Value) (l : List Int) (v i : Value) (wr : World) : Prop := ∃ k : Nat, i = .int .i64 k ∧ k ≤ l.length ∧ Mem w [cR w.heap.size 3 1 v k (iv (l.take k)), cB w.heap.size w.heap.size 25 cs] wr
set_option maxRecDepth 100000 in
set_option maxHeartbeats 4000000 in
theorem kinds_r (p : Pg) (hn : p.vars.length ≤ 1000) (v : Value) (w : World) (hP : ProgAt w w.heap.size v p) : Calls Tryz.prog 144 #[v] w (IntsPost w (kindsOf p)) := by
  obtain ⟨vv, vr, rfl, hv, hr⟩ := hP
  obtain ⟨Av, cv, rfl⟩ := vars_sl hv
  have HV := Lib.hid hv
  obtain ⟨i0, hi0, hz0, hz1, hz2⟩ := info_parts Tryz.infoInt
  have hkl : (kindsOf p).length = p.vars.length := by simp [kindsOf]
  have HKL := Lib.hid hkl
  clear hv hr hkl
  go_enter Tryz.func144, Tryz.ntmps144
  go_wp2
  go_loopw [3, 4] (KsRel w #[.string p.name, .slice Av p.vars.length cv, vr] (kindsOf p)) (fun _ i _ => p.vars.length - (intOf i).toNat)
  case atStart => exact ⟨0, rfl, Nat.zero_le _, ((Mem.start w).new _ _).nil_ _ _⟩
  case round =>
    obtain ⟨k, rfl, hk, hM⟩ := hrel
    have hk' : k ≤ p.vars.length := by rw [← HKL.out]; exact hk
    have HM := Lib.hid hM
    obtain ⟨p0, p1, p2, pf⟩ := blk3 (hM.get 1 rfl).2
    clear hM hk
    by_cases hlt : k < p.vars.length
    · obtain ⟨ad, rfl, hb, c0, c1, c2, c3, c4, c5⟩ := var_at (VarsAt.to (Holds_.go HM.out.bel) HV.out) hlt
      have hkk : k < (kindsOf p).length := by rw [HKL.out]; exact hlt
      have HSN := Lib.hid (iv_snoc (kindsOf p) k hkk)
      have HG := Lib.hid (show (kindsOf p)[k] = p.vars[k].kind by simp [kindsOf])
      have HLT := Lib.hid hkk
      generalize p.vars[k] = x at *
      have k0 : (0 : Int) ≤ (k : Int) := by omega
      have k1 : (k : Int) < (p.vars.length : Int) := by omega
      go_wp2_with (at_builtin; refine wpList_append_one rfl (.tmp 12) (.tmp 19) 26 rfl w.heap.size 3 i0 (.int .i64 0) 8 Tryz.underlying26 hi0 hz0 hz1 hz2 rfl _ k (iv ((kindsOf p).take k)) rfl (World.ownsRow.alloc (HM.out.get 0 rfl) _) (u := .int .i64 x.kind) rfl (Blk.new _ _ _) (one_int _) (len_ok (by omega)) (by omega) (by have := HM.out.size; simp; omega) ?_; intro v1 x1 ho1 hg1 hv1; have HM1 := Lib.hid (HM.out.app 0 rfl (grown_pre hg1) ho1 hv1 (by simp)); clear ho1 hg1 hv1)
      go_roundw
      case rel => exact ⟨k + 1, by go_num, HLT.out, by rw [HSN.out, HG.out]; exact HM1.out⟩
      case measure => simp [intOf]; omega
    · obtain rfl : k = p.vars.length := by omega
      have hown := HM.out.get 0 rfl
      rw [← HKL.out, List.take_length] at hown
      obtain ⟨A, c, hv3, hI⟩ := ints_own hown
      have HI := Lib.hid hI
      subst hv3
      clear hown hI
      go_wp2
      go_ret
      exact ⟨A, c, rfl, HI.out, HM.out.bel⟩
/-- a list of numbers that is filled from the left -/
def kc (l : List Int) (k : Nat) : List Value := iv (l.take k) ++ List.replicate (l.length - k) (.int .i64 0)
theorem kc_len (l : List Int) (k : Nat) (h : k ≤ l.length) : (kc l k).length = l.length := by unfold kc iv; simp; omega
theorem kc_zero (l : List Int) : kc l 0 = List.replicate l.length (.int .i64 0) := by simp [kc, iv]
theorem kc_full (l : List Int) : kc l l.length = iv l := by simp [kc, iv]
theorem kc_set (l : List Int) (k : Nat) (h : k < l.length) : (kc l k).set k (.int .i64 l[k]) = kc l (k + 1) := by
  unfold kc
  have hl : (iv (l.take k)).length = k := by unfold iv; simp; omega
  rw [List.set_append_right _ _ (by omega), hl, Nat.sub_self, iv_snoc l k h, List.append_assoc]
  congr 1
  rw [show l.length - k = (l.length - (k + 1)) + 1 by omega, List.replicate_succ]
  rfl
theorem ints_blk {w : World} {g t : Nat} {l : List Int} (h : Blk w g t (iv l).toArray) : IntsAt w w.heap.size (.slice (some ⟨g, 0, none⟩) l.length l.length) l := by
  refine ⟨_, _, _, rfl, reads_blk h h.lt (by unfold iv; simp), fun k x hx => ⟨[.int .i64 x], rfl, rfl, fun j u hj => ?_⟩⟩
  rcases j with _ | j
  · simp only [List.getElem?_cons_zero, Option.some.injEq] at hj
    subst hj
    unfold iv
    rw [Nat.mul_one, Nat.add_zero, List.getElem?_map, hx]; rfl
  · simp at hj
def KpRel (w : World) (cs : Array Value) (l : List Int) (g : Nat) (i : Value) (wr : World) : Prop := ∃ k : Nat, i = .int .i64 k ∧ k ≤ l.length ∧ Mem w [cB w.heap.size g 3 (kc l k).toArray, cB w.heap.size w.heap.size 25 cs] wr
set_option maxRecDepth 100000 in
set_option maxHeartbeats 4000000 in
theorem kinds_p (p : Pg) (hn : p.vars.length ≤ 1000) (v : Value) (w : World) (hP : ProgAt w w.heap.size v p) : Calls Tryz.prog 64 #[v] w (IntsPost w (kindsOf p)) := by
  obtain ⟨vv, vr, rfl, hv, hr⟩ := hP
  obtain ⟨Av, cv, rfl⟩ := vars_sl hv
  have HV := Lib.hid hv
  have hkl : (kindsOf p).length = p.vars.length := by simp [kindsOf]
  have HKL := Lib.hid hkl
  have HM0 := Lib.hid (show Mem w [cB w.heap.size (w.heap.size + 1) 3 (kc (kindsOf p) 0).toArray, cB w.heap.size w.heap.size 25 #[.string p.name, .slice Av p.vars.length cv, vr]] ((w.alloc (.cells #[.string p.name, .slice Av p.vars.length cv, vr] 25)).alloc (.cells (madeCells #[.int .i64 0] p.vars.length) 3)) from by
    have h := ((Mem.start w).new 25 #[.string p.name, .slice Av p.vars.length cv, vr]).new 3 (madeCells #[.int .i64 0] p.vars.length)
    rw [made_list, ← HKL.out, ← kc_zero, HKL.out, World.size_alloc] at h
    rw [made_list, ← HKL.out, ← kc_zero, HKL.out]
    exact h)
  have hmk := run_make_row' (P := Tryz.prog) 26 3 (.int .i64 0) 8 Tryz.underlying26 Tryz.infoInt rfl .i64 .i64 p.vars.length (by omega) (by omega)
  clear hv hr hkl
  go_enter Tryz.func64, Tryz.ntmps64
  go_wp2
  go_loopw [13] (KpRel w #[.string p.name, .slice Av p.vars.length cv, vr] (kindsOf p) (w.heap.size + 1)) (fun i _ => p.vars.length - (intOf i).toNat)
  case atStart => exact ⟨0, rfl, Nat.zero_le _, HM0.out⟩
  case round =>
    obtain ⟨k, rfl, hk, hM⟩ := hrel
    have hk' : k ≤ p.vars.length := by rw [← HKL.out]; exact hk
    have HM := Lib.hid hM
    obtain ⟨p0, p1, p2, pf⟩ := blk3 (hM.get 1 rfl).2
    clear hM hk HM0
    by_cases hlt : k < p.vars.length
    · obtain ⟨ad, rfl, hb, c0, c1, c2, c3, c4, c5⟩ := var_at (VarsAt.to (Holds_.go HM.out.bel) HV.out) hlt
      have hkk : k < (kindsOf p).length := by rw [HKL.out]; exact hlt
      have HSN := Lib.hid (kc_set (kindsOf p) k hkk)
      have HG := Lib.hid (show (kindsOf p)[k] = p.vars[k].kind by simp [kindsOf])
      have HLT := Lib.hid hkk
      have hgc := (HM.out.get 0 rfl).2.get (k := k) (by rw [kc_len _ _ (by omega)]; exact hkk)
      have hgf := (HM.out.get 0 rfl).2.frozen k
      have hgl := (HM.out.get 0 rfl).2.lt
      generalize p.vars[k] = x at *
      have k0 : (0 : Int) ≤ (k : Int) := by omega
      have k1 : (k : Int) < (p.vars.length : Int) := by omega
      have HMS := Lib.hid (HM.out.set_ 0 rfl k (.int .i64 x.kind) (cs' := (kc (kindsOf p) (k + 1)).toArray) (by rw [List.setIfInBounds_toArray, ← HSN.out, HG.out]))
      go_wp2
      go_roundw
      case rel => exact ⟨k + 1, by go_num, HLT.out, HMS.out.alloc _⟩
      case measure => simp [intOf]; omega
    · obtain rfl : k = p.vars.length := by omega
      have hblk := (HM.out.get 0 rfl).2
      rw [← HKL.out, kc_full] at hblk
      have hI := ints_blk hblk
      rw [HKL.out] at hI
      have HI := Lib.hid hI
      clear hblk hI
      go_wp2
      go_ret
      exact IntsPost.mk HKL.out.symm HI.out HM.out.bel
end Go.Proofs.YtdfklagiafmoiaaGreatDoor

/- The reference's look at a program's names. -/
namespace Go.Proofs.YtdfklagiafmoiaaGreatDoor
open Go.RowKit

/-- names, and different from those ahead of them, up to a place -/
def NmsOk (l : List ByteArray) (k : Nat) : Prop := ∀ j (h : j < l.length), j < k → NameOk l[j] ∧ ∀ m (hm : m < l.length), m < j → (l[m].toList == l[j].toList) = false
def vn (p : Pg) : List ByteArray := p.vars.map (·.name)
def rn (p : Pg) : List ByteArray := p.rules.map (·.name)
theorem nm_eq {a b x y : ByteArray} (h1 : a = y) (h2 : b = x) (h : (y.toList == x.toList) = false) : (a.toList == b.toList) = false := by subst h1 h2; exact h
theorem nm_ok {a x : ByteArray} (h : a = x) (h1 : NameOk x) : NameOk a := by subst h; exact h1
theorem NmsOk.step {l : List ByteArray} {k : Nat} (h : NmsOk l k) (hk : k < l.length) (h1 : NameOk l[k]) (h2 : ∀ m (hm : m < l.length), m < k → (l[m].toList == l[k].toList) = false) : NmsOk l (k + 1) := by
  intro j hj hjk
  rcases (by omega : j < k ∨ j = k) with h3 | rfl
  · exact h j hj h3
  · exact ⟨h1, h2⟩
def NmRelO (w : World) (cs : Array Value) (l : List ByteArray) (i : Value) (wr : World) : Prop := ∃ k : Nat, i = .int .i64 k ∧ k ≤ l.length ∧ NmsOk l k ∧ Mem w [cB w.heap.size w.heap.size 25 cs] wr
def NmRelI (w : World) (cs : Array Value) (l : List ByteArray) (k : Nat) (hk : k < l.length) (i : Value) (wr : World) : Prop := ∃ j : Nat, i = .int .i64 j ∧ j ≤ k ∧ (∀ m (hm : m < l.length), m < j → (l[m].toList == l[k].toList) = false) ∧ Mem w [cB w.heap.size w.heap.size 25 cs] wr

set_option maxRecDepth 100000 in
set_option maxHeartbeats 8000000 in
theorem named_r (p : Pg) (hn : p.vars.length ≤ 1000) (hm : p.rules.length ≤ 1000) (v : Value) (w : World) (hP : ProgAt w w.heap.size v p) : Calls Tryz.prog 140 #[v] w (BoolPost w (NameOk p.name ∧ NmsOk (vn p) (vn p).length ∧ NmsOk (rn p) (rn p).length)) := by
  obtain ⟨vv, vr, rfl, hv, hr⟩ := hP
  obtain ⟨Av, cv, rfl⟩ := vars_sl hv
  obtain ⟨Ar, cr, rfl⟩ := rules_sl hr
  have HVvn := Lib.hid hv
  have HVrn := Lib.hid hr
  have HM0 := Lib.hid ((Mem.start w).new 25 #[.string p.name, .slice Av p.vars.length cv, .slice Ar p.rules.length cr])
  clear hv hr
  go_enter Tryz.func140, Tryz.ntmps140
  go_wp2_with fail
  refine (name_r _ _).mono ?_
  rintro e w' ⟨b, rfl, hb', rfl⟩
  have HPN0 := Lib.hid hb'
  clear hb'
  cases b
  · go_wp2
    go_ret
    exact BoolPost.no HM0.out.bel
  · have HPN := Lib.hid (HPN0.out rfl)
    clear HPN0
    go_wp2
    go_loopw [3] (NmRelO w #[.string p.name, .slice Av p.vars.length cv, .slice Ar p.rules.length cr] (vn p)) (fun i _ => p.vars.length - (intOf i).toNat)
    case atStart => exact ⟨0, rfl, Nat.zero_le _, (fun j h hj => by omega), HM0.out⟩
    case round =>
      obtain ⟨k, rfl, hk, hok, hM⟩ := hrel
      have HL := Lib.hid (show (vn p).length = p.vars.length by simp [vn])
      have hk' : k ≤ p.vars.length := by rw [← HL.out]; exact hk
      have HM := Lib.hid hM
      have HOK := Lib.hid hok
      obtain ⟨p0, p1, p2, pf⟩ := blk3 (hM.get 0 rfl).2
      clear hM hk hok HM0
      by_cases hlt : k < p.vars.length
      · have hkk : k < (vn p).length := by rw [HL.out]; exact hlt
        have HKK := Lib.hid hkk
        have k0 : (0 : Int) ≤ (k : Int) := by omega
        have k1 : (k : Int) < (p.vars.length : Int) := by omega
        go_wp2
        clear p0 p1 p2 pf
        go_loopw [4] (NmRelI w #[.string p.name, .slice Av p.vars.length cv, .slice Ar p.rules.length cr] (vn p) k hkk) (fun i _ => k - (intOf i).toNat)
        case atStart => exact ⟨0, rfl, Nat.zero_le _, (fun m hm h => by omega), HM.out⟩
        case round =>
          obtain ⟨j, rfl, hj, hne, hM1⟩ := hrel
          have HNE := Lib.hid hne
          have HM1 := Lib.hid hM1
          obtain ⟨p0, p1, p2, pf⟩ := blk3 (hM1.get 0 rfl).2
          clear hne hM1
          have hv := VarsAt.to (Holds_.go HM1.out.bel) HVvn.out
          obtain ⟨ad, rfl, hb, c0, c1, c2, c3, c4, c5⟩ := var_at hv hlt
          have HG := Lib.hid (show (vn p)[k] = p.vars[k].name by simp [vn])
          by_cases hjk : j < k
          · have hjl : j < p.vars.length := by omega
            obtain ⟨ad2, hA, hb2, d0, d1, d2, d3, d4, d5⟩ := var_at hv hjl
            obtain rfl : ad = ad2 := by injection hA
            have HGJ := Lib.hid (show (vn p)[j]'(by rw [HL.out]; exact hjl) = p.vars[j].name by simp [vn])
            clear hv hA
            generalize p.vars[k] = x at *
            generalize p.vars[j] = y at *
            have j0 : (0 : Int) ≤ (j : Int) := by omega
            have j1 : (j : Int) < (k : Int) := by omega
            have j2 : (j : Int) < (p.vars.length : Int) := by omega
            cases heq : (y.name.toList == x.name.toList)
            · have HEQ := Lib.hid heq
              go_upto_region 9 with fail
              go_quiet (fail)
              go_wp2
              go_roundw
              case rel =>
                refine ⟨j + 1, by go_num, by omega, fun m hm h => ?_, HM1.out.drewN _⟩
                rcases (by omega : m < j ∨ m = j) with h3 | rfl
                · exact HNE.out m hm h3
                · exact nm_eq HGJ.out HG.out HEQ.out
              case measure => simp [intOf]; omega
            · go_upto_region 9 with fail
              go_quiet (fail)
              go_wp2
              go_ret
              exact BoolPost.no (HM1.out.drewN _).bel
          · obtain rfl : j = k := by omega
            clear hv
            generalize p.vars[j] = x at *
            go_wp2_with fail
            refine (name_r _ _).mono ?_
            rintro e w' ⟨b, rfl, hb', rfl⟩
            have HBN := Lib.hid hb'
            clear hb'
            cases b
            · go_wp2
              go_ret
              exact BoolPost.no HM1.out.bel
            · have HBT := Lib.hid (HBN.out rfl)
              clear HBN
              go_wp2
              go_roundw
              case rel => exact ⟨j + 1, by go_num, HKK.out, HOK.out.step HKK.out (nm_ok HG.out HBT.out) HNE.out, HM1.out⟩
              case measure => simp [intOf]; omega
      · obtain rfl : k = p.vars.length := by omega
        have HOKvn := Lib.hid (show NmsOk (vn p) (vn p).length from by rw [HL.out]; exact HOK.out)
        clear HOK
        go_wp2
        clear p0 p1 p2 pf
        have HM2 := Lib.hid HM.out
        clear HM
        go_loopw [5] (NmRelO w #[.string p.name, .slice Av p.vars.length cv, .slice Ar p.rules.length cr] (rn p)) (fun i _ => p.rules.length - (intOf i).toNat)
        case atStart => exact ⟨0, rfl, Nat.zero_le _, (fun j h hj => by omega), HM2.out⟩
        case round =>
          obtain ⟨k, rfl, hk, hok, hM⟩ := hrel
          have HL := Lib.hid (show (rn p).length = p.rules.length by simp [rn])
          have hk' : k ≤ p.rules.length := by rw [← HL.out]; exact hk
          have HM := Lib.hid hM
          have HOK := Lib.hid hok
          obtain ⟨p0, p1, p2, pf⟩ := blk3 (hM.get 0 rfl).2
          clear hM hk hok HM2
          by_cases hlt : k < p.rules.length
          · have hkk : k < (rn p).length := by rw [HL.out]; exact hlt
            have HKK := Lib.hid hkk
            have k0 : (0 : Int) ≤ (k : Int) := by omega
            have k1 : (k : Int) < (p.rules.length : Int) := by omega
            go_wp2
            clear p0 p1 p2 pf
            go_loopw [6] (NmRelI w #[.string p.name, .slice Av p.vars.length cv, .slice Ar p.rules.length cr] (rn p) k hkk) (fun i _ => k - (intOf i).toNat)
            case atStart => exact ⟨0, rfl, Nat.zero_le _, (fun m hm h => by omega), HM.out⟩
            case round =>
              obtain ⟨j, rfl, hj, hne, hM1⟩ := hrel
              have HNE := Lib.hid hne
              have HM1 := Lib.hid hM1
              obtain ⟨p0, p1, p2, pf⟩ := blk3 (hM1.get 0 rfl).2
              clear hne hM1
              have hv := RulesAt.to (Holds_.go HM1.out.bel) HVrn.out
              obtain ⟨ad, Ag, cg, As, cs, rfl, hb, c0, c1, c2, hg, hs⟩ := rule_at hv hlt
              have HG := Lib.hid (show (rn p)[k] = p.rules[k].name by simp [rn])
              by_cases hjk : j < k
              · have hjl : j < p.rules.length := by omega
                obtain ⟨ad2, Ag, dg, As, ds, hA, hb2, d0, d1, d2, hg, hs⟩ := rule_at hv hjl
                obtain rfl : ad = ad2 := by injection hA
                have HGJ := Lib.hid (show (rn p)[j]'(by rw [HL.out]; exact hjl) = p.rules[j].name by simp [rn])
                clear hv hA
                generalize p.rules[k] = x at *
                generalize p.rules[j] = y at *
                have j0 : (0 : Int) ≤ (j : Int) := by omega
                have j1 : (j : Int) < (k : Int) := by omega
                have j2 : (j : Int) < (p.rules.length : Int) := by omega
                cases heq : (y.name.toList == x.name.toList)
                · have HEQ := Lib.hid heq
                  go_upto_region 19 with fail
                  go_quiet (fail)
                  go_wp2
                  go_roundw
                  case rel =>
                    refine ⟨j + 1, by go_num, by omega, fun m hm h => ?_, HM1.out.drewN _⟩
                    rcases (by omega : m < j ∨ m = j) with h3 | rfl
                    · exact HNE.out m hm h3
                    · exact nm_eq HGJ.out HG.out HEQ.out
                  case measure => simp [intOf]; omega
                · go_upto_region 19 with fail
                  go_quiet (fail)
                  go_wp2
                  go_ret
                  exact BoolPost.no (HM1.out.drewN _).bel
              · obtain rfl : j = k := by omega
                clear hv
                generalize p.rules[j] = x at *
                go_wp2_with fail
                refine (name_r _ _).mono ?_
                rintro e w' ⟨b, rfl, hb', rfl⟩
                have HBN := Lib.hid hb'
                clear hb'
                cases b
                · go_wp2
                  go_ret
                  exact BoolPost.no HM1.out.bel
                · have HBT := Lib.hid (HBN.out rfl)
                  clear HBN
                  go_wp2
                  go_roundw
                  case rel => exact ⟨j + 1, by go_num, HKK.out, HOK.out.step HKK.out (nm_ok HG.out HBT.out) HNE.out, HM1.out⟩
                  case measure => simp [intOf]; omega
          · obtain rfl : k = p.rules.length := by omega
            have HOKrn := Lib.hid (show NmsOk (rn p) (rn p).length from by rw [HL.out]; exact HOK.out)
            clear HOK
            go_wp2
            go_ret
            exact ⟨true, rfl, (fun _ => ⟨HPN.out, HOKvn.out, HOKrn.out⟩), HM.out.bel⟩
end Go.Proofs.YtdfklagiafmoiaaGreatDoor

/- The reference's look at a rule: its form, its types. -/
namespace Go.Proofs.YtdfklagiafmoiaaGreatDoor
open Go.RowKit

def StOk (n : Nat) (l : List St) (k : Nat) : Prop := ∀ j (h : j < l.length), j < k → (0 ≤ l[j].1 ∧ l[j].1 < n) ∧ ExOk n l[j].2 ∧ ∀ m (hm : m < l.length), m < j → l[m].1 ≠ l[j].1
structure FormOk (n : Nat) (r : Rl) : Prop where
  lo : 1 ≤ r.sets.length
  hi : r.sets.length ≤ 6
  guard : ExOk n r.guard
  sets : StOk n r.sets r.sets.length
def ExT (ks : List Int) (l : List Tm) (τ : Int) : Prop := ∃ t : Ex, t.ok ∧ t.flat = l ∧ t.ty ks false = τ
def TyTo (ks : List Int) (l : List St) (k : Nat) : Prop := ∀ j (h : j < l.length), j < k → ExT ks l[j].2 (ks.getD l[j].1.toNat 0)
structure TyOk (ks : List Int) (r : Rl) : Prop where
  guard : ExT ks r.guard 2
  sets : TyTo ks r.sets r.sets.length
structure LightR (r : Rl) : Prop where
  g : r.guard.length ≤ 250
  n : r.sets.length ≤ 10
  s : ∀ j (h : j < r.sets.length), r.sets[j].2.length ≤ 250
def ruleV (r : Rl) (Ag : Option Addr) (cg : Nat) (As : Option Addr) (cs : Nat) : Value := .agg #[.string r.name, .slice Ag r.guard.length cg, .slice As r.sets.length cs]
theorem StOk.step {n : Nat} {l : List St} {k : Nat} (h : StOk n l k) (hk : k < l.length) (h1 : 0 ≤ l[k].1 ∧ l[k].1 < n) (h2 : ExOk n l[k].2) (h3 : ∀ m (hm : m < l.length), m < k → l[m].1 ≠ l[k].1) : StOk n l (k + 1) := by
  intro j hj hjk
  rcases (by omega : j < k ∨ j = k) with h4 | rfl
  · exact h j hj h4
  · exact ⟨h1, h2, h3⟩
def FmRelO (w : World) (cs : Array Value) (n : Nat) (l : List St) (i : Value) (wr : World) : Prop := ∃ k : Nat, i = .int .i64 k ∧ k ≤ l.length ∧ StOk n l k ∧ Mem w [cB w.heap.size w.heap.size 76 cs] wr
def FmRelI (w : World) (cs : Array Value) (l : List St) (k : Nat) (hk : k < l.length) (i : Value) (wr : World) : Prop := ∃ j : Nat, i = .int .i64 j ∧ j ≤ k ∧ (∀ m (hm : m < l.length), m < j → l[m].1 ≠ l[k].1) ∧ Mem w [cB w.heap.size w.heap.size 76 cs] wr
theorem inR_true {v lo hi : Int} (h : inR v lo hi = true) : lo ≤ v ∧ v ≤ hi := by simpa [inR] using h

set_option maxRecDepth 100000 in
set_option maxHeartbeats 8000000 in
theorem formed_r (r : Rl) (hl : LightR r) (n : Nat) (hn : n ≤ 1000) (Ag : Option Addr) (cg : Nat) (As : Option Addr) (cs : Nat) (w : World) (hg : PairsAt w w.heap.size (.slice Ag r.guard.length cg) r.guard) (hs : SetsAt w w.heap.size (.slice As r.sets.length cs) r.sets) :
    Calls Tryz.prog 142 #[ruleV r Ag cg As cs, .int .i64 (n : Int)] w (BoolPost w (FormOk n r)) := by
  have HG := Lib.hid hg
  have HS := Lib.hid hs
  have HLR := Lib.hid hl
  have hlg := hl.g
  have hln := hl.n
  have HM0 := Lib.hid ((Mem.start w).new 76 #[.string r.name, .slice Ag r.guard.length cg, .slice As r.sets.length cs])
  clear hg hs hl
  unfold ruleV
  cases hin : inR (r.sets.length : Int) 1 6
  · have HIN := Lib.hid hin
    clear hin
    go_enter Tryz.func142, Tryz.ntmps142
    go_wp2_with (go_at_call 139; refine (in7_r _ _ _ _).mono ?_; rintro e w' ⟨rfl, rfl⟩; rw [HIN.out])
    go_ret
    exact BoolPost.no HM0.out.bel
  · have HIN := Lib.hid hin
    clear hin
    go_enter Tryz.func142, Tryz.ntmps142
    go_wp2_with (go_at_call 139; refine (in7_r _ _ _ _).mono ?_; rintro e w' ⟨rfl, rfl⟩; rw [HIN.out])
    refine (valid_r r.guard (by omega) n Ag cg w.heap.size _ (by simp) (PairsAt.to (Holds_.below HM0.out.bel) HG.out)).mono ?_
    rintro e w1 ⟨b, rfl, hb', hb1⟩
    have HEX := Lib.hid hb'
    have HM1 := Lib.hid (HM0.out.below hb1)
    clear hb' hb1 HM0
    cases b
    · go_wp2
      go_ret
      exact BoolPost.no HM1.out.bel
    · have HGD := Lib.hid (HEX.out rfl)
      obtain ⟨p0, p1, p2, pf⟩ := blk3 (HM1.out.get 0 rfl).2
      clear HEX
      go_wp2
      clear p0 p1 p2 pf
      go_loopw [5] (FmRelO w #[.string r.name, .slice Ag r.guard.length cg, .slice As r.sets.length cs] n r.sets) (fun i _ => r.sets.length - (intOf i).toNat)
      case atStart => exact ⟨0, rfl, Nat.zero_le _, (fun j h hj => by omega), HM1.out⟩
      case round =>
        obtain ⟨k, rfl, hk, hok, hM⟩ := hrel
        have HM := Lib.hid hM
        have HOK := Lib.hid hok
        obtain ⟨p0, p1, p2, pf⟩ := blk3 (hM.get 0 rfl).2
        clear hM hok HM1
        by_cases hlt : k < r.sets.length
        · obtain ⟨ad, Ae, ce, hA, hb, c0, c1, he⟩ := set_at (SetsAt.to (Holds_.go HM.out.bel) HS.out) hlt
          subst hA
          have HSL := Lib.hid (HLR.out.s k hlt)
          have HLT := Lib.hid hlt
          have HE := Lib.hid he
          have HX1 := Lib.hid (fun h => HOK.out.step hlt h)
          obtain ⟨x, hx⟩ : ∃ x : St, r.sets[k]'hlt = x := ⟨_, rfl⟩
          have HX := Lib.hid hx
          rw [hx] at c0 c1 HE HSL HX1
          clear he hx
          have k0 : (0 : Int) ≤ (k : Int) := by omega
          have k1 : (k : Int) < (r.sets.length : Int) := by omega
          cases hin2 : inR x.1 0 ((n : Int) - 1)
          · have HIN2 := Lib.hid hin2
            clear hin2
            go_wp2_with (go_at_call 139; refine (in7_r _ _ _ _).mono ?_; rintro e w' ⟨rfl, rfl⟩; rw [HIN2.out])
            go_ret
            exact BoolPost.no HM.out.bel
          · have HIN2 := Lib.hid hin2
            clear hin2
            go_wp2_with (go_at_call 139; refine (in7_r _ _ _ _).mono ?_; rintro e w' ⟨rfl, rfl⟩; rw [HIN2.out])
            refine (valid_r x.2 (by have := HSL.out; omega) n Ae ce _ _ (Nat.le_refl _) HE.out).mono ?_
            rintro e w2 ⟨b, rfl, hb', hb2⟩
            have HEX := Lib.hid hb'
            have HM2 := Lib.hid (HM.out.below hb2)
            clear hb' hb2 p0 p1 p2 pf
            cases b
            · go_wp2
              go_ret
              exact BoolPost.no HM2.out.bel
            · have HXD := Lib.hid (HEX.out rfl)
              obtain ⟨p0, p1, p2, pf⟩ := blk3 (HM2.out.get 0 rfl).2
              clear HEX HM c0 c1
              go_wp2
              clear p0 p1 p2 pf
              go_loopw [6] (FmRelI w #[.string r.name, .slice Ag r.guard.length cg, .slice (some ad) r.sets.length cs] r.sets k hlt) (fun i _ => k - (intOf i).toNat)
              case atStart => exact ⟨0, rfl, Nat.zero_le _, (fun m hm h => by omega), HM2.out⟩
              case round =>
                obtain ⟨j, rfl, hj, hne, hM3⟩ := hrel
                have HNE := Lib.hid hne
                have HM3 := Lib.hid hM3
                obtain ⟨p0, p1, p2, pf⟩ := blk3 (hM3.get 0 rfl).2
                have hss := SetsAt.to (Holds_.go hM3.bel) HS.out
                clear hne hM3 HM2
                by_cases hjk : j < k
                · obtain ⟨ad1, Ae1, ce1, hA1, hb1, c0, c1, he1⟩ := set_at hss hlt
                  obtain ⟨ad2, Ae2, ce2, hA2, hb2, d0, d1, he2⟩ := set_at hss (k := j) (by omega)
                  obtain rfl : ad = ad1 := by injection hA1
                  obtain rfl : ad = ad2 := by injection hA2
                  rw [HX.out] at c0 c1
                  obtain ⟨y, hy⟩ : ∃ y : St, r.sets[j]'(by omega) = y := ⟨_, rfl⟩
                  have HY := Lib.hid hy
                  rw [hy] at d0 d1
                  clear hss he1 he2 hA1 hA2 hy
                  have j0 : (0 : Int) ≤ (j : Int) := by omega
                  have j1 : (j : Int) < (k : Int) := by omega
                  have j2 : (j : Int) < (r.sets.length : Int) := by omega
                  cases heq : (y.1 == x.1)
                  · have HEQ := Lib.hid heq
                    go_upto_region 11 with fail
                    go_quiet (fail)
                    go_wp2
                    go_roundw
                    case rel =>
                      refine ⟨j + 1, by go_num, by omega, fun m hm h => ?_, HM3.out.drewN _⟩
                      rcases (by omega : m < j ∨ m = j) with h3 | rfl
                      · exact HNE.out m hm h3
                      · have h4 := HEQ.out
                        have h5 := HY.out
                        have h6 := HX.out
                        subst h5 h6
                        exact beq_eq_false_iff_ne.1 h4
                    case measure => simp [intOf]; omega
                  · go_upto_region 11 with fail
                    go_quiet (fail)
                    go_wp2
                    go_ret
                    exact BoolPost.no (HM3.out.drewN _).bel
                · obtain rfl : j = k := by omega
                  clear hss
                  have HNX := Lib.hid (HX1.out (by have := inR_true HIN2.out; omega) HXD.out (by have h6 := HX.out; have h7 := HNE.out; subst h6; exact h7))
                  go_wp2
                  go_roundw
                  case rel => exact ⟨j + 1, by go_num, HLT.out, HNX.out, HM3.out⟩
                  case measure => simp [intOf]; omega
        · obtain rfl : k = r.sets.length := by omega
          go_wp2
          go_ret
          exact ⟨true, rfl, (fun _ => ⟨(inR_true HIN.out).1 |> fun h => by omega, (inR_true HIN.out).2 |> fun h => by omega, HGD.out, HOK.out⟩), HM.out.bel⟩

theorem args_of {n : Nat} {l : List Tm} (h : ∀ x ∈ l, argOk n x = true) : ∀ x ∈ l, argIn n x := fun x hx => argIn_of (h x hx)
/-- the type of a whole expression -/
theorem kind0_r (l : List Tm) (ks : List Int) (hx : ExOk ks.length l) (A Ak : Option Addr) (c ck : Nat) (w : World) (h : PairsAt w w.heap.size (.slice A l.length c) l) (hk : IntsAt w w.heap.size (.slice Ak ks.length ck) ks) :
    ∃ τ : Int, ExT ks l τ ∧ Calls Tryz.prog 164 #[.slice A l.length c, .int .i64 0, .slice Ak ks.length ck, .bool false] w (KindPost w τ) := by
  obtain ⟨t, ht, rfl, h2, _, _, ha⟩ := hx
  exact ⟨t.ty ks false, ⟨t, ht, rfl, rfl⟩, kind_r t.flat (by omega) ks A Ak c ck t ht 0 0 rfl [] false w (by simp) (args_of ha) h hk⟩
def TyRelO (w : World) (cs : Array Value) (ks : List Int) (l : List St) (i : Value) (wr : World) : Prop := ∃ k : Nat, i = .int .i64 k ∧ k ≤ l.length ∧ TyTo ks l k ∧ Mem w [cB w.heap.size w.heap.size 76 cs] wr
theorem TyTo.step {ks : List Int} {l : List St} {k : Nat} (h : TyTo ks l k) (hk : k < l.length) (h1 : ExT ks l[k].2 (ks.getD l[k].1.toNat 0)) : TyTo ks l (k + 1) := by
  intro j hj hjk
  rcases (by omega : j < k ∨ j = k) with h4 | rfl
  · exact h j hj h4
  · exact h1
set_option maxRecDepth 100000 in
set_option maxHeartbeats 8000000 in
theorem typed_r (r : Rl) (ks : List Int) (hf : FormOk ks.length r) (_hn : ks.length ≤ 1000) (Ag : Option Addr) (cg : Nat) (As : Option Addr) (cs : Nat) (Ak : Option Addr) (ck : Nat) (w : World) (hg : PairsAt w w.heap.size (.slice Ag r.guard.length cg) r.guard) (hs : SetsAt w w.heap.size (.slice As r.sets.length cs) r.sets)
    (hk : IntsAt w w.heap.size (.slice Ak ks.length ck) ks) :
    Calls Tryz.prog 143 #[ruleV r Ag cg As cs, .slice Ak ks.length ck] w (BoolPost w (TyOk ks r)) := by
  have HS := Lib.hid hs
  have HF := Lib.hid hf
  have HK := Lib.hid hk
  have hln := hf.hi
  have HM0 := Lib.hid ((Mem.start w).new 76 #[.string r.name, .slice Ag r.guard.length cg, .slice As r.sets.length cs])
  obtain ⟨τ, hτ, hc⟩ := kind0_r r.guard ks hf.guard Ag Ak cg ck _ (PairsAt.to (Holds_.go HM0.out.bel) hg) (IntsAt.to (Holds_.go HM0.out.bel) hk)
  have HT := Lib.hid hτ
  have HC := Lib.hid hc
  clear hg hs hf hk hτ hc
  unfold ruleV
  go_enter Tryz.func143, Tryz.ntmps143
  go_wp2_with fail
  refine HC.out.mono ?_
  rintro e w1 ⟨rfl, hb1⟩
  have HM1 := Lib.hid (HM0.out.below hb1)
  clear HC HM0 hb1
  by_cases h2 : τ = 2
  case neg =>
    have e1 : (τ != 2) = true := by simpa using h2
    go_wp2
    go_ret
    exact BoolPost.no HM1.out.bel
  subst h2
  obtain ⟨p0, p1, p2, pf⟩ := blk3 (HM1.out.get 0 rfl).2
  go_wp2
  clear p0 p1 p2 pf
  go_loopw [5] (TyRelO w #[.string r.name, .slice Ag r.guard.length cg, .slice As r.sets.length cs] ks r.sets) (fun i _ => r.sets.length - (intOf i).toNat)
  case atStart => exact ⟨0, rfl, Nat.zero_le _, (fun j h hj => by omega), HM1.out⟩
  case round =>
    obtain ⟨k, rfl, hkl, hok, hM⟩ := hrel
    have HM := Lib.hid hM
    have HOK := Lib.hid hok
    obtain ⟨p0, p1, p2, pf⟩ := blk3 (hM.get 0 rfl).2
    clear hM hok HM1
    by_cases hlt : k < r.sets.length
    · obtain ⟨ad, Ae, ce, hA, hb, c0, c1, he⟩ := set_at (SetsAt.to (Holds_.go HM.out.bel) HS.out) hlt
      subst hA
      obtain ⟨hx0, hxe, -⟩ := HF.out.sets k hlt hlt
      have HX1 := Lib.hid (fun h => HOK.out.step hlt h)
      obtain ⟨x, hx⟩ : ∃ x : St, r.sets[k]'hlt = x := ⟨_, rfl⟩
      rw [hx] at c0 c1 he hx0 hxe HX1
      clear hx
      obtain ⟨v, hv⟩ : ∃ v : Nat, x.1 = v := ⟨x.1.toNat, by omega⟩
      have hvl : v < ks.length := by omega
      obtain ⟨ak, hA, hbk, ck0⟩ := int_at (IntsAt.to (Holds_.go HM.out.bel) HK.out) hvl
      subst hA
      obtain ⟨z, hz⟩ : ∃ z : Int, ks[v]'hvl = z := ⟨_, rfl⟩
      have HZ := Lib.hid (show ks.getD x.1.toNat 0 = z by rw [hv, Int.toNat_natCast, List.getD_eq_getElem?_getD, List.getElem?_eq_getElem hvl, Option.getD_some]; exact hz)
      rw [hz] at ck0
      rw [hv] at c0
      have HE := Lib.hid he
      have HXE := Lib.hid hxe
      clear hz hv hx0 he hxe
      have k0 : (0 : Int) ≤ (k : Int) := by omega
      have k1 : (k : Int) < (r.sets.length : Int) := by omega
      have v0 : (0 : Int) ≤ (v : Int) := by omega
      have v1 : (v : Int) < (ks.length : Int) := by omega
      obtain ⟨τ2, hτ2, hc2⟩ := kind0_r x.2 ks HXE.out Ae (some ak) ce ck wr.drew HE.out (IntsAt.to (Holds_.go HM.out.bel) HK.out)
      have HT2 := Lib.hid hτ2
      have HC2 := Lib.hid hc2
      have HLT := Lib.hid hlt
      clear hτ2 hc2
      have hbe : (ad.add (k * 2)).block < wr.heap.size := by rw [block_of_add]; exact hb
      have hbv : (ak.add v).block < wr.heap.size := by rw [block_of_add]; exact hbk
      have hwz := HM.out.size
      have hb0 : w.heap.size < wr.heap.size := by have := (HM.out.get 0 rfl).2.lt; exact this
      go_upto_region 6 with fail
      have rule := below_rule wr
      have rule2 := below_addr wr
      go_region_held3 (fun X => Below wr.heap.size wr X) (first | exact Below.refl _ _ | exact Below.drew (Below.refl _ _) | assumption | exact below_step (by assumption) (by assumption))
        (first | (go_at_call 164; refine HC2.out.mono ?_; rintro e w2 ⟨rfl, hb2⟩))
      have HM2 := Lib.hid (HM.out.drew.below hb2)
      clear rule rule2 p0 p1 p2 pf hb2 HC2 HM
      by_cases hz : τ2 = z
      · subst hz
        go_wp2
        go_roundw
        case rel => exact ⟨k + 1, by go_num, HLT.out, HX1.out (by rw [HZ.out]; exact HT2.out), HM2.out⟩
        case measure => simp [intOf]; omega
      · have e2 : (τ2 != z) = true := by simpa using hz
        go_wp2
        go_ret
        exact BoolPost.no HM2.out.bel
    · obtain rfl : k = r.sets.length := by omega
      go_wp2
      go_ret
      exact ⟨true, rfl, (fun _ => ⟨HT.out, HOK.out⟩), HM.out.bel⟩
end Go.Proofs.YtdfklagiafmoiaaGreatDoor
