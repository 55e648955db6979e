/- Lemmas of this seat, laid together out of 4 texts: no statement of the seat is proved here. -/
import Derived.Test.YtdfklagiafmoiaaGreatDoorG25
/- Values: the operations on numbers. -/
namespace Go.Proofs.YtdfklagiafmoiaaGreatDoor
open Go.RowKit

def truZ (b : Bool) : Int := if b then 1 else 0
def satZ (a : Int) : Int := max (-1073741824) (min a 1073741824)
def cmpZ (op a b : Int) : Bool := if op = 35 then decide (a = b) else if op = 36 then decide (a ≠ b) else if op = 37 then decide (a < b) else if op = 38 then decide (a ≤ b) else if op = 39 then decide (b < a) else decide (b ≤ a)
set_option maxHeartbeats 2000000 in
theorem truth_p (b : Bool) (w : World) : Calls Tryz.prog 191 #[.bool b] w fun e w' => e = .returned (.int .i64 (truZ b)) ∧ w = w' := by
  cases b
  · go_enter Tryz.func191, Tryz.ntmps191
    go_wp2
    go_ret
    exact ⟨rfl, rfl⟩
  · go_enter Tryz.func191, Tryz.ntmps191
    go_wp2
    go_ret
    exact ⟨rfl, rfl⟩
set_option maxHeartbeats 2000000 in
theorem sat_p (a : Int) (w : World) : Calls Tryz.prog 193 #[.int .i64 a] w fun e w' => e = .returned (.int .i64 (satZ a)) ∧ w = w' := by
  go_enter Tryz.func193, Tryz.ntmps193
  go_wp2
  all_goals (go_ret; exact ⟨ret_int (by unfold satZ; omega), rfl⟩)
set_option maxHeartbeats 4000000 in
theorem cmp_p (op a b : Int) (w : World) : Calls Tryz.prog 195 #[.int .i64 op, .int .i64 a, .int .i64 b] w fun e w' => e = .returned (.bool (cmpZ op a b)) ∧ w = w' := by
  go_enter Tryz.func195, Tryz.ntmps195
  go_wp2
  all_goals ((go_ret; refine ⟨ret_bool (bool_ext ?_), ?_⟩; ((try simp only [beq_iff_eq, beq_eq_false_iff_ne, bne_iff_ne, ne_eq, decide_eq_true_eq] at *); (try unfold cmpZ); (try dsimp only); (repeat' split) <;> (try simp only [decide_eq_true_eq, ne_eq]) <;> (try omega))); rfl)
def quoZ (a b : Int) : Int := if b = 0 then 0 else if a.tmod b = 0 then wr64 (a.tdiv b) else if (!(decide (a < 0) == decide (b < 0))) = true then wr64 (wr64 (a.tdiv b) - 1) else wr64 (a.tdiv b)
set_option maxHeartbeats 4000000 in
theorem quo_p (a b : Int) (w : World) : Calls Tryz.prog 194 #[.int .i64 a, .int .i64 b] w fun e w' => e = .returned (.int .i64 (quoZ a b)) ∧ w = w' := by
  by_cases h : b = 0
  · subst h
    go_enter Tryz.func194, Tryz.ntmps194
    go_wp2
    go_ret
    exact ⟨rfl, rfl⟩
  · have h1 : (b == 0) = false := beq_eq_false_iff_ne.2 h
    have HH := Lib.hid h
    clear h
    go_enter Tryz.func194, Tryz.ntmps194
    go_wp2
    · go_ret
      exact ⟨ret_int (by have h := HH.out; unfold quoZ wr64; rw [if_neg h, if_pos (by assumption)]), rfl⟩
    · rename_i h2 h3
      go_ret
      exact ⟨ret_int (by have h := HH.out; unfold quoZ wr64; rw [if_neg h, if_neg h2, if_pos h3.2]), rfl⟩
    · rename_i h2 h3
      go_ret
      exact ⟨ret_int (by
        have h := HH.out
        unfold quoZ wr64
        have h4 : ¬ (!(decide (a < 0) == decide (b < 0))) = true := by
          rcases h3 with h3 | h3
          · simp at h3; exact absurd h3 h2
          · rw [h3]; decide
        rw [if_neg h, if_neg h2, if_neg h4]), rfl⟩
def binZ (op a b : Int) : Int :=
  if op = 30 then satZ (wr64 (a * b)) else if op = 31 then satZ (quoZ a b) else if op = 32 then (if b = 0 then 0 else satZ (wr64 (a - wr64 (b * quoZ a b)))) else if op = 33 then satZ (wr64 (a + b)) else if op = 34 then satZ (wr64 (a - b))
  else if op = 41 then truZ ((a != 0) && (b != 0)) else if op = 42 then truZ ((a != 0) || (b != 0)) else truZ (cmpZ op a b)
def unZ (op a : Int) : Int := if op = 18 then wr64 (-a) else truZ (decide (a = 0))
set_option maxHeartbeats 8000000 in
theorem un_p (op a : Int) (w : World) : Calls Tryz.prog 171 #[.int .i64 op, .int .i64 a] w fun e w' => e = .returned (.int .i64 (unZ op a)) ∧ w = w' := by
  go_enter Tryz.func171, Tryz.ntmps171
  go_wp2_with (go_at_call 191; refine (truth_p _ _).mono ?_; rintro e w' ⟨rfl, rfl⟩)
  all_goals (go_ret; exact ⟨ret_int (by unfold unZ wr64; simp_all [Bool.beq_eq_decide_eq]), rfl⟩)
set_option maxRecDepth 100000 in
set_option maxHeartbeats 16000000 in
theorem bin_p (op a b : Int) (w : World) : Calls Tryz.prog 173 #[.int .i64 op, .int .i64 a, .int .i64 b] w fun e w' => e = .returned (.int .i64 (binZ op a b)) ∧ w = w' := by
  go_enter Tryz.func173, Tryz.ntmps173
  go_wp2_with (first
    | (go_at_call 191; refine (truth_p _ _).mono ?_; rintro e w' ⟨rfl, rfl⟩)
    | (go_at_call 193; refine (sat_p _ _).mono ?_; rintro e w' ⟨rfl, rfl⟩)
    | (go_at_call 194; refine (quo_p _ _ _).mono ?_; rintro e w' ⟨rfl, rfl⟩)
    | (go_at_call 195; refine (cmp_p _ _ _ _).mono ?_; rintro e w' ⟨rfl, rfl⟩))
  all_goals (go_ret; refine ⟨ret_int ?_, rfl⟩; unfold binZ wr64; first | (simp_all [Bool.beq_eq_decide_eq]; done) | (simp_all [Bool.beq_eq_decide_eq]; rw [show (a != 0) = true from by simpa using (by assumption : ¬ a = 0)]; rfl))
end Go.Proofs.YtdfklagiafmoiaaGreatDoor

/- Values: the operations on lists. -/
namespace Go.Proofs.YtdfklagiafmoiaaGreatDoor
open Go.RowKit

def cntZ (l : List Int) : Int := (l.filter fun z => z != 0).length
theorem cntZ_snoc (l : List Int) (z : Int) : cntZ (l ++ [z]) = cntZ l + if (z != 0) = true then 1 else 0 := by
  unfold cntZ
  rw [List.filter_append, List.length_append]
  by_cases h : z = 0 <;> simp [h]
def twoZ (l : List Int) : Int × Int := l.foldl (fun r a => if r.1 < a then (a, r.1) else (r.1, max r.2 a)) (-1073741824, -1073741824)
/-- the first place at which a test holds, or -1 -/
def plcZ (f : Int → Bool) (l : List Int) : Int := if l.findIdx f < l.length then (l.findIdx f : Int) else -1
theorem plcZ_at {f : Int → Bool} {l : List Int} {k : Nat} (hk : k < l.length) (h : f l[k] = true) (hno : ∀ m (hm : m < l.length), m < k → f l[m] = false) : plcZ f l = k := by
  have e : l.findIdx f = k := by
    rw [List.findIdx_eq hk]
    exact ⟨h, fun j hj => by simpa using hno j (by omega) hj⟩
  unfold plcZ; rw [e, if_pos hk]
theorem plcZ_no {f : Int → Bool} {l : List Int} (hno : ∀ m (hm : m < l.length), f l[m] = false) : plcZ f l = -1 := by
  unfold plcZ
  rw [if_neg]
  intro h
  have := List.findIdx_getElem (w := h)
  rw [hno _ h] at this
  cases this
def CnRel (w : World) (l : List Int) (m i : Value) (wr : World) : Prop := wr = w ∧ ∃ k : Nat, i = .int .i64 k ∧ k ≤ l.length ∧ m = .int .i64 (cntZ (l.take k))
def TwRel (w : World) (l : List Int) (a b i : Value) (wr : World) : Prop := wr = w ∧ ∃ k : Nat, i = .int .i64 k ∧ k ≤ l.length ∧ a = .int .i64 (twoZ (l.take k)).1 ∧ b = .int .i64 (twoZ (l.take k)).2
def PlRel (w : World) (f : Int → Bool) (l : List Int) (i : Value) (wr : World) : Prop := wr = w ∧ ∃ k : Nat, i = .int .i64 k ∧ k ≤ l.length ∧ ∀ m (hm : m < l.length), m < k → f l[m] = false
theorem no_stepF {f : Int → Bool} {l : List Int} {k : Nat} (h : ∀ m (hm : m < l.length), m < k → f l[m] = false) (hk : k < l.length) (h1 : f l[k] = false) : ∀ m (hm : m < l.length), m < k + 1 → f l[m] = false := by
  intro m hm h2
  rcases (by omega : m < k ∨ m = k) with h3 | rfl
  · exact h m hm h3
  · exact h1
section
variable (l : List Int) (hl : l.length ≤ 1000) (A : Option Addr) (c : Nat) (w : World) (hi : IntsAt w w.heap.size (.slice A l.length c) l)
include hl hi
set_option maxHeartbeats 4000000 in
theorem cnt_p : Calls Tryz.prog 202 #[.slice A l.length c] w fun e w' => e = .returned (.int .i64 (cntZ l)) ∧ w = w' := by
  have HI := Lib.hid hi
  clear hi
  go_enter Tryz.func202, Tryz.ntmps202
  go_wp2
  go_loopw [3, 8] (CnRel w l) (fun _ i _ => l.length - (intOf i).toNat)
  case atStart => exact ⟨rfl, 0, rfl, Nat.zero_le _, rfl⟩
  case round =>
    obtain ⟨rfl, k, rfl, hk, rfl⟩ := hrel
    by_cases hlt : k < l.length
    · obtain ⟨ad, hA, hb, c0⟩ := int_at HI.out hlt
      subst hA
      have HS := Lib.hid (show cntZ (l.take (k + 1)) = cntZ (l.take k) + if (l[k] != 0) = true then 1 else 0 by
        rw [List.take_succ_eq_append_getElem hlt, cntZ_snoc])
      obtain ⟨z, hz⟩ : ∃ z : Int, l[k]'hlt = z := ⟨_, rfl⟩
      rw [hz] at c0 HS
      have hcb : 0 ≤ cntZ (l.take k) ∧ cntZ (l.take k) ≤ k := by
        unfold cntZ
        have := List.length_filter_le (fun z => z != 0) (l.take k)
        rw [List.length_take] at this
        omega
      generalize cntZ (l.take k) = m at *
      have w1 := IntWalk.i64_in (m + 1) (by omega)
      have HLT := Lib.hid hlt
      have k0 : (0 : Int) ≤ (k : Int) := by omega
      have k1 : (k : Int) < (l.length : Int) := by omega
      clear hz hcb
      cases hzz : (z != 0)
      · have HZ := Lib.hid hzz
        go_wp2
        go_roundw
        case rel => exact ⟨rfl, k + 1, by go_num, HLT.out, val_int (by rw [HS.out, HZ.out]; simp)⟩
        case measure => simp [intOf]; omega
      · have HZ := Lib.hid hzz
        go_wp2
        go_roundw
        case rel => exact ⟨rfl, k + 1, by go_num, HLT.out, val_int (by rw [HS.out, HZ.out]; simp)⟩
        case measure => simp [intOf]; omega
    · obtain rfl : k = l.length := by omega
      have HF := Lib.hid (show cntZ (l.take l.length) = cntZ l by rw [List.take_length])
      generalize cntZ (l.take l.length) = m at *
      go_wp2
      go_ret
      exact ⟨ret_int HF.out, rfl⟩
set_option maxHeartbeats 4000000 in
theorem two_p : Calls Tryz.prog 205 #[.slice A l.length c] w fun e w' => e = .returned (.tuple #[.int .i64 (twoZ l).1, .int .i64 (twoZ l).2]) ∧ w = w' := by
  have HI := Lib.hid hi
  clear hi
  go_enter Tryz.func205, Tryz.ntmps205
  go_wp2
  go_loopw [2, 3, 8] (TwRel w l) (fun _ _ i _ => l.length - (intOf i).toNat)
  case atStart => exact ⟨rfl, 0, rfl, Nat.zero_le _, rfl, rfl⟩
  case round =>
    obtain ⟨rfl, k, rfl, hk, rfl, rfl⟩ := hrel
    by_cases hlt : k < l.length
    · obtain ⟨ad, hA, hb, c0⟩ := int_at HI.out hlt
      subst hA
      have HS := Lib.hid (show twoZ (l.take (k + 1)) = if (twoZ (l.take k)).1 < l[k] then (l[k], (twoZ (l.take k)).1) else ((twoZ (l.take k)).1, max (twoZ (l.take k)).2 l[k]) by
        unfold twoZ
        rw [List.take_succ_eq_append_getElem hlt, List.foldl_append]
        rfl)
      obtain ⟨z, hz⟩ : ∃ z : Int, l[k]'hlt = z := ⟨_, rfl⟩
      rw [hz] at c0 HS
      generalize twoZ (l.take k) = m at *
      obtain ⟨m1, m2⟩ := m
      dsimp only at *
      have HLT := Lib.hid hlt
      have k0 : (0 : Int) ≤ (k : Int) := by omega
      have k1 : (k : Int) < (l.length : Int) := by omega
      clear hz
      by_cases hg : m1 < z
      · have HG := Lib.hid hg
        go_wp2
        go_roundw
        case rel => exact ⟨rfl, k + 1, by go_num, HLT.out, by rw [HS.out, if_pos HG.out], by rw [HS.out, if_pos HG.out]⟩
        case measure => simp [intOf]; omega
      · have HG := Lib.hid hg
        go_wp2
        all_goals
          go_roundw
          case rel => exact ⟨rfl, k + 1, by go_num, HLT.out, by rw [HS.out, if_neg HG.out], val_int (by rw [HS.out, if_neg HG.out]; dsimp only; omega)⟩
          case measure => simp [intOf]; omega
    · obtain rfl : k = l.length := by omega
      have HF := Lib.hid (show twoZ (l.take l.length) = twoZ l by rw [List.take_length])
      generalize twoZ (l.take l.length) = m at *
      go_wp2
      go_ret2
      exact ⟨by rw [HF.out]; rfl, rfl⟩
set_option maxHeartbeats 4000000 in
theorem idx_p (q : Int) : Calls Tryz.prog 209 #[.slice A l.length c, .int .i64 q] w fun e w' => e = .returned (.int .i64 (plcZ (fun z => q == z) l)) ∧ w = w' := by
  have HI := Lib.hid hi
  clear hi
  go_enter Tryz.func209, Tryz.ntmps209
  go_wp2
  go_loopw [8] (PlRel w (fun z => q == z) l) (fun i _ => l.length - (intOf i).toNat)
  case atStart => exact ⟨rfl, 0, rfl, Nat.zero_le _, fun m hm h => by omega⟩
  case round =>
    obtain ⟨rfl, k, rfl, hk, hno⟩ := hrel
    have HNO := Lib.hid hno
    clear hno
    by_cases hlt : k < l.length
    · obtain ⟨ad, hA, hb, c0⟩ := int_at HI.out hlt
      subst hA
      have HAT := Lib.hid (fun h => plcZ_at (f := fun z => q == z) hlt h HNO.out)
      have HSTP := Lib.hid (fun h => no_stepF (f := fun z => q == z) HNO.out hlt h)
      obtain ⟨z, hz⟩ : ∃ z : Int, l[k]'hlt = z := ⟨_, rfl⟩
      rw [hz] at c0 HAT HSTP
      have HLT := Lib.hid hlt
      have k0 : (0 : Int) ≤ (k : Int) := by omega
      have k1 : (k : Int) < (l.length : Int) := by omega
      clear hz
      cases hq : (q == z)
      · have HQ := Lib.hid hq
        go_wp2
        go_roundw
        case rel => exact ⟨rfl, k + 1, by go_num, HLT.out, HSTP.out HQ.out⟩
        case measure => simp [intOf]; omega
      · have HQ := Lib.hid hq
        go_wp2
        go_ret
        exact ⟨ret_int (HAT.out HQ.out).symm, rfl⟩
    · obtain rfl : k = l.length := by omega
      have HF := Lib.hid (plcZ_no (f := fun z => q == z) (fun m hm => HNO.out m hm hm))
      go_wp2
      go_ret
      exact ⟨ret_int HF.out.symm, rfl⟩
end
theorem nz_p (z : Int) (w : World) : Calls Tryz.prog 204 #[.int .i64 z] w fun e w' => e = .returned (.bool (z != 0)) ∧ w = w' := by
  go_enter Tryz.func204, Tryz.ntmps204
  go_wp2
  go_ret
  exact ⟨rfl, rfl⟩
end Go.Proofs.YtdfklagiafmoiaaGreatDoor

/- Values: the aggregates. -/
namespace Go.Proofs.YtdfklagiafmoiaaGreatDoor
open Go.RowKit

/-- as many different numbers as there are in a list -/
theorem pigeon : ∀ (l : List Int) (r : Nat), (∀ j : Nat, j < r → (j : Int) ∈ l) → r ≤ l.length := by
  intro l r h
  have hn : ((List.range r).map fun (j : Nat) => (j : Int)).Nodup := by
    rw [List.Nodup, List.pairwise_map]
    exact List.nodup_range.imp (fun h e => h (by omega))
  have key : ∀ (a b : List Int), a.Nodup → (∀ x ∈ a, x ∈ b) → a.length ≤ b.length := by
    intro a
    induction a with
    | nil => intro b _ _; simp
    | cons x a ih =>
      intro b hn hs
      have hx := hs x (by simp)
      have h1 : ∀ y ∈ a, y ∈ b.erase x := fun y hy => by
        have hne : y ≠ x := fun e => by subst e; exact (List.nodup_cons.1 hn).1 hy
        exact (List.mem_erase_of_ne hne).2 (hs y (by simp [hy]))
      have := ih (b.erase x) (List.nodup_cons.1 hn).2 h1
      rw [List.length_erase_of_mem hx] at this
      have hp : 0 < b.length := List.length_pos_of_mem hx
      simp; omega
  have := key _ l hn (fun x hx => by obtain ⟨j, hj, rfl⟩ := List.mem_map.1 hx; exact h j (List.mem_range.1 hj))
  simpa using this
def hasZ (l : List Int) (z : Int) : Bool := decide (0 ≤ plcZ (fun y => z == y) l)
theorem hasZ_iff (l : List Int) (z : Int) : hasZ l z = true ↔ z ∈ l := by
  unfold hasZ plcZ
  have h1 := List.findIdx_lt_length_of_exists (p := fun y => z == y) (xs := l)
  constructor
  · intro h
    by_cases hh : l.findIdx (fun y => z == y) < l.length
    · have := List.findIdx_getElem (w := hh)
      have e : z = l[l.findIdx fun y => z == y] := by simpa using this
      rw [e]; exact List.getElem_mem _
    · rw [if_neg hh] at h; simp at h
  · intro h
    have := h1 ⟨z, h, by simp⟩
    rw [if_pos this]; simp
def mexZ (l : List Int) : Int := (((List.range (l.length + 1)).find? fun (j : Nat) => !hasZ l (j : Int)).getD 0 : Nat)
theorem mexZ_at {l : List Int} {r : Nat} (h : ∀ j : Nat, j < r → (j : Int) ∈ l) (hr : hasZ l (r : Int) = false) : mexZ l = r := by
  have hle := pigeon l r h
  have e : (List.range (l.length + 1)).find? (fun (j : Nat) => !hasZ l (j : Int)) = some r := by
    rw [List.find?_eq_some_iff_getElem]
    refine ⟨by simp [hr], r, by simp; omega, by simp, fun j hj => ?_⟩
    simp
    exact (hasZ_iff l j).2 (h j hj)
  unfold mexZ; rw [e]; rfl
def MxR (w : World) (l : List Int) (i : Value) (wr : World) : Prop := wr = w ∧ ∃ r : Nat, i = .int .i64 r ∧ ∀ j : Nat, j < r → (j : Int) ∈ l
section
variable (l : List Int) (hl : l.length ≤ 1000) (A : Option Addr) (c : Nat) (w : World) (hi : IntsAt w w.heap.size (.slice A l.length c) l)
include hl hi
set_option maxHeartbeats 4000000 in
theorem idxf_p : Calls Tryz.prog 203 #[.slice A l.length c, .func (.func 204) #[] #[]] w fun e w' => e = .returned (.int .i64 (plcZ (fun z => z != 0) l)) ∧ w = w' := by
  have HI := Lib.hid hi
  clear hi
  go_enter Tryz.func203, Tryz.ntmps203
  go_wp2
  go_loopw [8] (PlRel w (fun z => z != 0) l) (fun i _ => l.length - (intOf i).toNat)
  case atStart => exact ⟨rfl, 0, rfl, Nat.zero_le _, fun m hm h => by omega⟩
  case round =>
    obtain ⟨rfl, k, rfl, hk, hno⟩ := hrel
    have HNO := Lib.hid hno
    clear hno
    by_cases hlt : k < l.length
    · obtain ⟨ad, hA, hb, c0⟩ := int_at HI.out hlt
      subst hA
      have HAT := Lib.hid (fun h => plcZ_at (f := fun z => z != 0) hlt h HNO.out)
      have HSTP := Lib.hid (fun h => no_stepF (f := fun z => z != 0) HNO.out hlt h)
      obtain ⟨z, hz⟩ : ∃ z : Int, l[k]'hlt = z := ⟨_, rfl⟩
      rw [hz] at c0 HAT HSTP
      have HLT := Lib.hid hlt
      have k0 : (0 : Int) ≤ (k : Int) := by omega
      have k1 : (k : Int) < (l.length : Int) := by omega
      clear hz
      obtain ⟨bb, hq⟩ : ∃ bb, (z != 0) = bb := ⟨_, rfl⟩
      have HQ := Lib.hid hq
      clear hq
      cases bb
      · go_wp2_with (go_at_call 204; refine (nz_p z _).mono ?_; rintro e w' ⟨rfl, rfl⟩; rw [HQ.out])
        go_roundw
        case rel => exact ⟨rfl, k + 1, by go_num, HLT.out, HSTP.out HQ.out⟩
        case measure => simp [intOf]; omega
      · go_wp2_with (go_at_call 204; refine (nz_p z _).mono ?_; rintro e w' ⟨rfl, rfl⟩; rw [HQ.out])
        go_ret
        exact ⟨ret_int (HAT.out HQ.out).symm, rfl⟩
    · obtain rfl : k = l.length := by omega
      have HF := Lib.hid (plcZ_no (f := fun z => z != 0) (fun m hm => HNO.out m hm hm))
      go_wp2
      go_ret
      exact ⟨ret_int HF.out.symm, rfl⟩
set_option maxHeartbeats 4000000 in
theorem has_p (z : Int) : Calls Tryz.prog 208 #[.slice A l.length c, .int .i64 z] w fun e w' => e = .returned (.bool (hasZ l z)) ∧ w = w' := by
  have HI := Lib.hid hi
  clear hi
  go_enter Tryz.func208, Tryz.ntmps208
  go_wp2_with (go_at_call 209; refine (idx_p l hl A c _ HI.out z).mono ?_; rintro e w' ⟨rfl, rfl⟩)
  go_ret
  exact ⟨rfl, rfl⟩
set_option maxHeartbeats 4000000 in
theorem mex_p : Calls Tryz.prog 206 #[.slice A l.length c] w fun e w' => e = .returned (.int .i64 (mexZ l)) ∧ w = w' := by
  have HI := Lib.hid hi
  clear hi
  go_enter Tryz.func206, Tryz.ntmps206
  go_wp2
  go_loopw [3] (MxR w l) (fun i _ => l.length + 1 - (intOf i).toNat)
  case atStart => exact ⟨rfl, 0, rfl, fun j h => by omega⟩
  case round =>
    obtain ⟨rfl, r, rfl, hr⟩ := hrel
    have HR := Lib.hid hr
    have hp := pigeon l r hr
    clear hr
    cases hh : hasZ l (r : Int)
    · have HH := Lib.hid hh
      clear hh
      go_wp2_with (go_at_call 208; refine (has_p l hl A c _ HI.out _).mono ?_; rintro e w' ⟨rfl, rfl⟩; rw [HH.out])
      go_ret
      exact ⟨ret_int (mexZ_at HR.out HH.out).symm, rfl⟩
    · have HH := Lib.hid hh
      have w1 := IntWalk.i64_in ((r : Int) + 1) (by omega)
      clear hh
      go_wp2_with (go_at_call 208; refine (has_p l hl A c _ HI.out _).mono ?_; rintro e w' ⟨rfl, rfl⟩; rw [HH.out])
      go_roundw
      case rel =>
        refine ⟨rfl, r + 1, by go_num, fun j hj => ?_⟩
        rcases (by omega : j < r ∨ j = r) with h1 | rfl
        · exact HR.out j h1
        · exact (hasZ_iff l _).1 HH.out
      case measure => simp [intOf]; omega
end
end Go.Proofs.YtdfklagiafmoiaaGreatDoor

/- Values: fold. -/
namespace Go.Proofs.YtdfklagiafmoiaaGreatDoor
open Go.RowKit

def minZ (l : List Int) : Int := l.foldl min 1073741824
def sumZ (l : List Int) : Int := l.foldl (fun s a => wr64 (s + a)) 0
def foldZ (op : Int) (l : List Int) : Int :=
  if op = 20 then truZ (cntZ l == (l.length : Int)) else if op = 21 then truZ (decide (0 < cntZ l)) else if op = 22 then cntZ l else if op = 23 then plcZ (fun z => z != 0) l else if op = 24 then minZ l else if op = 25 then (twoZ l).1
  else if op = 26 then satZ (sumZ l) else if op = 27 then mexZ l else if op = 28 then (twoZ l).2 else l.headD 0
def MnRel (w : World) (l : List Int) (m i : Value) (wr : World) : Prop := wr = w ∧ ∃ k : Nat, i = .int .i64 k ∧ k ≤ l.length ∧ m = .int .i64 (minZ (l.take k))
def SuRel (w : World) (l : List Int) (m i : Value) (wr : World) : Prop := wr = w ∧ ∃ k : Nat, i = .int .i64 k ∧ k ≤ l.length ∧ m = .int .i64 (sumZ (l.take k))
section
variable (l : List Int) (hl : l.length ≤ 1000) (A : Option Addr) (c : Nat) (w : World) (hi : IntsAt w w.heap.size (.slice A l.length c) l)
include hl hi
set_option maxRecDepth 100000 in
set_option maxHeartbeats 16000000 in
theorem fold_p (op : Int) (h0 : 20 ≤ op) (h1 : op ≤ 29) : Calls Tryz.prog 192 #[.int .i64 op, .slice A l.length c] w fun e w' => e = .returned (.int .i64 (foldZ op l)) ∧ w = w' := by
  have HI := Lib.hid hi
  clear hi
  rcases (by omega : op = 20 ∨ op = 21 ∨ op = 22 ∨ op = 23 ∨ op = 24 ∨ op = 25 ∨ op = 26 ∨ op = 27 ∨ op = 28 ∨ op = 29) with rfl | rfl | rfl | rfl | rfl | rfl | rfl | rfl | rfl | rfl
  · go_enter Tryz.func192, Tryz.ntmps192
    go_wp2_with (first | (go_at_call 202; refine (cnt_p l hl A c _ HI.out).mono ?_; rintro e w' ⟨rfl, rfl⟩) | (go_at_call 191; refine (truth_p _ _).mono ?_; rintro e w' ⟨rfl, rfl⟩))
    go_ret
    exact ⟨rfl, rfl⟩
  · go_enter Tryz.func192, Tryz.ntmps192
    go_wp2_with (first | (go_at_call 202; refine (cnt_p l hl A c _ HI.out).mono ?_; rintro e w' ⟨rfl, rfl⟩) | (go_at_call 191; refine (truth_p _ _).mono ?_; rintro e w' ⟨rfl, rfl⟩))
    go_ret
    exact ⟨rfl, rfl⟩
  · go_enter Tryz.func192, Tryz.ntmps192
    go_wp2_with (first | (go_at_call 202; refine (cnt_p l hl A c _ HI.out).mono ?_; rintro e w' ⟨rfl, rfl⟩))
    go_ret
    exact ⟨rfl, rfl⟩
  · go_enter Tryz.func192, Tryz.ntmps192
    go_wp2_with (first | (go_at_call 203; refine (idxf_p l hl A c _ HI.out).mono ?_; rintro e w' ⟨rfl, rfl⟩))
    go_ret
    exact ⟨rfl, rfl⟩
  · go_enter Tryz.func192, Tryz.ntmps192
    go_wp2_with fail
    go_loopw [5, 42] (MnRel w l) (fun _ i _ => l.length - (intOf i).toNat)
    case atStart => exact ⟨rfl, 0, rfl, Nat.zero_le _, rfl⟩
    case round =>
      obtain ⟨rfl, k, rfl, hk, rfl⟩ := hrel
      by_cases hlt : k < l.length
      · obtain ⟨ad, hA, hb, c0⟩ := int_at HI.out hlt
        subst hA
        have HS := Lib.hid (show minZ (l.take (k + 1)) = min (minZ (l.take k)) l[k] by unfold minZ; rw [List.take_succ_eq_append_getElem hlt, List.foldl_append]; rfl)
        obtain ⟨z, hz⟩ : ∃ z : Int, l[k]'hlt = z := ⟨_, rfl⟩
        rw [hz] at c0 HS
        generalize minZ (l.take k) = m at *
        have HLT := Lib.hid hlt
        have k0 : (0 : Int) ≤ (k : Int) := by omega
        have k1 : (k : Int) < (l.length : Int) := by omega
        clear hz
        go_wp2_with fail
        all_goals
          go_roundw
          case rel => exact ⟨rfl, k + 1, by go_num, HLT.out, val_int (by rw [HS.out]; omega)⟩
          case measure => simp [intOf]; omega
      · obtain rfl : k = l.length := by omega
        have HF := Lib.hid (show minZ (l.take l.length) = minZ l by rw [List.take_length])
        generalize minZ (l.take l.length) = m at *
        go_wp2_with fail
        go_ret
        exact ⟨ret_int HF.out, rfl⟩
  · go_enter Tryz.func192, Tryz.ntmps192
    go_wp2_with (first | (go_at_call 205; refine (two_p l hl A c _ HI.out).mono ?_; rintro e w' ⟨rfl, rfl⟩))
    go_ret
    exact ⟨rfl, rfl⟩
  · go_enter Tryz.func192, Tryz.ntmps192
    go_wp2_with fail
    go_loopw [10, 63] (SuRel w l) (fun _ i _ => l.length - (intOf i).toNat)
    case atStart => exact ⟨rfl, 0, rfl, Nat.zero_le _, rfl⟩
    case round =>
      obtain ⟨rfl, k, rfl, hk, rfl⟩ := hrel
      by_cases hlt : k < l.length
      · obtain ⟨ad, hA, hb, c0⟩ := int_at HI.out hlt
        subst hA
        have HS := Lib.hid (show sumZ (l.take (k + 1)) = wr64 (sumZ (l.take k) + l[k]) by unfold sumZ; rw [List.take_succ_eq_append_getElem hlt, List.foldl_append]; rfl)
        obtain ⟨z, hz⟩ : ∃ z : Int, l[k]'hlt = z := ⟨_, rfl⟩
        rw [hz] at c0 HS
        generalize sumZ (l.take k) = m at *
        have HLT := Lib.hid hlt
        have k0 : (0 : Int) ≤ (k : Int) := by omega
        have k1 : (k : Int) < (l.length : Int) := by omega
        clear hz
        go_wp2_with fail
        go_roundw
        case rel => exact ⟨rfl, k + 1, by go_num, HLT.out, val_int (by rw [HS.out])⟩
        case measure => simp [intOf]; omega
      · obtain rfl : k = l.length := by omega
        have HF := Lib.hid (show sumZ (l.take l.length) = sumZ l by rw [List.take_length])
        generalize sumZ (l.take l.length) = m at *
        go_wp2_with (go_at_call 193; refine (sat_p _ _).mono ?_; rintro e w' ⟨rfl, rfl⟩)
        go_ret
        exact ⟨ret_int (by rw [HF.out]; rfl), rfl⟩
  · go_enter Tryz.func192, Tryz.ntmps192
    go_wp2_with (first | (go_at_call 206; refine (mex_p l hl A c _ HI.out).mono ?_; rintro e w' ⟨rfl, rfl⟩))
    go_ret
    exact ⟨rfl, rfl⟩
  · go_enter Tryz.func192, Tryz.ntmps192
    go_wp2_with (first | (go_at_call 205; refine (two_p l hl A c _ HI.out).mono ?_; rintro e w' ⟨rfl, rfl⟩))
    go_ret
    exact ⟨rfl, rfl⟩
  · rcases l with _ | ⟨z, r⟩
    · go_enter Tryz.func192, Tryz.ntmps192
      go_wp2_with fail
      go_ret
      exact ⟨rfl, rfl⟩
    · obtain ⟨ad, hA, hb, c0⟩ := int_at HI.out (k := 0) (by simp)
      subst hA
      rw [show ad.add 0 = ad from by cases ad; simp [Addr.add]] at c0
      obtain ⟨n, hn⟩ : ∃ n : Nat, (z :: r).length = n + 1 := ⟨r.length, rfl⟩
      have c1 : w.cell? ad = some (.int .i64 z) := c0
      clear HI c0
      rw [hn]
      have e1 : (((n + 1 : Nat) : Int) == 0) = false := beq_eq_false_iff_ne.2 (by omega)
      have e2 : (0 : Int) < ((n + 1 : Nat) : Int) := by omega
      clear hn
      go_enter Tryz.func192, Tryz.ntmps192
      go_wp2_with fail
      go_ret
      exact ⟨rfl, rfl⟩
end
end Go.Proofs.YtdfklagiafmoiaaGreatDoor
