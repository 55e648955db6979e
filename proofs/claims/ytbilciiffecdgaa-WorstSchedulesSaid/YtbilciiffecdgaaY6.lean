/- The walk of WorstSchedules. -/
import Derived.Test.YtbilciiffecdgaaX4
import Derived.Test.YtbilciiffecdgaaRB
namespace Go.Proofs.Ytbilciiffecdgaa
open Go.RowKit

theorem find_congr' {α : Type} {p q : α → Bool} : ∀ {l : List α}, (∀ a ∈ l, p a = q a) → l.find? p = l.find? q
  | [], _ => rfl
  | a :: l, h => by
    rw [List.find?_cons, List.find?_cons, h a (List.mem_cons_self ..), find_congr' fun b hb => h b (List.mem_cons_of_mem _ hb)]
theorem PlL.sched_congr {n : Nat} {L : List (List Arc)} {S : Nat → Bool} {c : Arc → Nat} {r : Nat → Nat} (h : PlL.Ranked n L S r) {f g : Nat → Nat} (hfg : ∀ k, k < n → f k = g k) : ∀ m k, k < n → PlL.sched L S c f m k = PlL.sched L S c g m k := by
  intro m
  induction m with
  | zero => intro k _; rfl
  | succ m ih =>
    intro k hk
    rw [PlL.sched, PlL.sched]
    cases hs : S k
    · rw [if_neg (by simp), if_neg (by simp)]
      have e : PlL.nxt c f (f k) (L.getD k []) = PlL.nxt c g (g k) (L.getD k []) := by
        unfold PlL.nxt
        refine find_congr' fun a ha => ?_
        rw [hfg k hk, hfg _ ((h.down k hk hs).2 a ha).1]
      rw [e]
      cases hn : PlL.nxt c g (g k) (L.getD k []) with
      | none => rfl
      | some a =>
        dsimp only
        rw [ih _ ((h.down k hk hs).2 a (List.mem_of_find?_eq_some hn)).1]
    · rfl
/-- the error of Schedule -/
def errS (z x : Int) (n : Nat) : Int := if z ≠ 0 then z else if x < 0 ∨ (n : Int) ≤ x then 2 else 0
def IsSch (L : List (List Arc)) (S : List Bool) (x : Int) (z : Int) (l : List Nat) : Prop := (z ≠ 0 → l = []) ∧ (z = 0 → x.toNat < S.length ∧ ∃ f, PlL.IsVal S.length L (isIn S) cPop f ∧ l = PlL.sched L (isIn S) cPop f S.length x.toNat)
def LuPost (w : World) (z : Int) (P : List Nat → Prop) (e : Ending) (w' : World) : Prop :=
  ∃ (A : Option Addr) (c : Nat) (l : List Nat), e = .returned (.tuple #[.slice A l.length c, .int .i64 z]) ∧ Reads w' w'.heap.size 1 A l.length (l.map fun z : Nat => Value.int .u32 (z : Int)) ∧ P l ∧ Below w.heap.size w w'
theorem IsSch.one {E : List Nat} {L : List (List Arc)} {S : List Bool} {x z : Int} (h : z = 0 → wchk E L S = 0) {l l' : List Nat} (hl : IsSch L S x z l) (hl' : IsSch L S x z l') : l = l' := by
  by_cases hz : z = 0
  · obtain ⟨hx, f, hf, rfl⟩ := hl.2 hz
    obtain ⟨_, f', hf', rfl⟩ := hl'.2 hz
    obtain ⟨r, hr⟩ := conv_rank (h hz)
    exact PlL.sched_congr hr (fun k hk => PlL.IsVal.unique hr hf hf' S.length k hk (hr.lt k hk)) _ _ hx
  · rw [hl.1 hz, hl'.1 hz]
theorem IsSch.len {L : List (List Arc)} {S : List Bool} {x z : Int} {l : List Nat} (hl : IsSch L S x z l) : l.length ≤ S.length := by
  by_cases hz : z = 0
  · obtain ⟨_, f, hf, rfl⟩ := hl.2 hz
    exact PlL.sched_len _ _
  · rw [hl.1 hz]; exact Nat.zero_le _
theorem lu_err {w w' : World} {z x : Int} (hz : z ≠ 0) {L : List (List Arc)} {S : List Bool} {e : Ending} (he : e = .returned (.tuple #[.slice none 0 0, .int .i64 z])) (hb : Below w.heap.size w w') : LuPost w z (IsSch L S x z) e w' :=
  ⟨none, 0, [], he, ⟨rfl, fun h => absurd h (by decide)⟩, ⟨fun _ => rfl, fun h => absurd h hz⟩, hb⟩
theorem lu_ok {w w' : World} {L : List (List Arc)} {S : List Bool} {k0 : Nat} (hk : k0 < S.length) {e : Ending} (h : WSch w L S k0 e w') : LuPost w 0 (IsSch L S (k0 : Int) 0) e w' := by
  obtain ⟨v, f, he, hv, ho, hb⟩ := h
  obtain ⟨A, c, rfl⟩ := own_sl ho
  exact ⟨A, c, _, he, Reads.of_own ho, ⟨fun h => absurd rfl h, fun _ => ⟨by simpa using hk, f, hv, by rw [Int.toNat_natCast]⟩⟩, hb⟩
section
variable (E : List Nat) (L : List (List Arc)) (v : Value) (hE : WfE E) (hL : WfL L) (S : List Bool) (A : Option Addr) (c : Nat) (x z : Int) (h : errS (wchk E L S) x S.length = z) (w : World) (hS : SpaceAt w w.heap.size v E L) (hSr : Reads w w.heap.size 1 A S.length (S.map Value.bool))
include hE hL h hS hSr
theorem wsched_r : Calls Try.prog 21 #[v, .slice A S.length c, .int .i64 x] w (LuPost w z (IsSch L S x z)) := by
  unfold errS at h
  by_cases h0 : wchk E L S = 0
  · rw [if_neg (by simpa using h0)] at h
    by_cases hr : x < 0 ∨ (S.length : Int) ≤ x
    · rw [if_pos hr] at h
      subst h
      exact (wsched_range E L v hE hL S A c x h0 hr w hS hSr).mono fun e w' ⟨he, hb⟩ => lu_err (by decide) he hb
    · rw [if_neg hr] at h
      subst h
      obtain ⟨k, rfl⟩ : ∃ k : Nat, x = (k : Int) := ⟨x.toNat, by omega⟩
      exact (wsched_ok E L v hE hL S A c k (by omega) h0 w hS hSr).mono fun e w' hp => lu_ok (by omega) hp
  · rw [if_pos h0] at h
    subst h
    exact (wsched_err E L v hE hL S A c x _ h0 rfl w hS hSr).mono fun e w' ⟨he, hb⟩ => lu_err h0 he hb
theorem rsched_r : Calls Try.prog 22 #[v, .slice A S.length c, .int .i64 x] w (LuPost w z (IsSch L S x z)) := by
  unfold errS at h
  by_cases h0 : wchk E L S = 0
  · rw [if_neg (by simpa using h0)] at h
    by_cases hr : x < 0 ∨ (S.length : Int) ≤ x
    · rw [if_pos hr] at h
      subst h
      exact (rsched_range E L v hE hL S A c x h0 hr w hS hSr).mono fun e w' ⟨he, hb⟩ => lu_err (by decide) he hb
    · rw [if_neg hr] at h
      subst h
      obtain ⟨k, rfl⟩ : ∃ k : Nat, x = (k : Int) := ⟨x.toNat, by omega⟩
      exact (rsched_ok E L v hE hL S A c k (by omega) h0 w hS hSr).mono fun e w' hp => lu_ok (by omega) hp
  · rw [if_pos h0] at h
    subst h
    exact (rsched_err E L v hE hL S A c x _ h0 rfl w hS hSr).mono fun e w' ⟨he, hb⟩ => lu_err h0 he hb
end

set_option maxRecDepth 100000 in
set_option maxHeartbeats 4000000 in
theorem sched_law (w : World) (E : List Nat) (L : List (List Arc)) (v : Value) (hE : WfE E) (hV : WfV L) (hS : SpaceAt w w.heap.size v E L) (S : List Bool) (A : Option Addr) (c : Nat) (_hm : S.length ≤ 9223372036854775807)
    (hSr : Reads w w.heap.size 1 A S.length (S.map Value.bool)) (x : Int) (_hx : -9223372036854775808 ≤ x ∧ x ≤ 9223372036854775807) :
    Calls Try.prog 5 #[v, .slice A S.length c, .int .i64 x] w fun e w' => e = .returned (.bool true) ∧ Below w.heap.size w w' := by
  have HS := Lib.hid hS
  obtain ⟨ve, va, rfl, ⟨Ae, ce, rfl, re⟩, ⟨Aa, ca, rows, rfl, ra, hk⟩⟩ := hS
  have HE := Lib.hid hE
  have HV := Lib.hid hV
  have SR := Lib.hid hSr
  clear hE hV re ra hk hSr
  have HM0 := Lib.hid ((Mem.start w).new 25 #[.slice Ae E.length ce, .slice Aa L.length ca])
  cases h1 : lightB E L S.length
  · have H1 := Lib.hid h1
    clear h1
    go_enter Try.func5, Try.ntmps5
    go_wp2_with fail
    refine (light_is E L _ A S.length c false H1.out _ (HS.out.go HM0.out.bel)).mono ?_
    rintro e w1 ⟨rfl, hb1⟩
    have HM1 := Lib.hid (HM0.out.below hb1)
    clear hb1
    go_wp2_with fail
    refine (awake_any _).mono ?_
    rintro e w2 ⟨rfl, hb2⟩
    go_wp2
    go_ret
    exact ⟨rfl, (HM1.out.below hb2).bel⟩
  · have H1 := Lib.hid h1
    have HL := Lib.hid (wfl_light HV.out h1)
    have hSl : S.length ≤ 130 := (light_parts h1).2.2.1
    obtain ⟨z, hz⟩ : ∃ z, errS (wchk E L S) x S.length = z := ⟨_, rfl⟩
    have HZ := Lib.hid hz
    have HZ0 := Lib.hid (show z = 0 → wchk E L S = 0 from fun h => by
      apply Classical.byContradiction
      intro hn
      unfold errS at hz
      rw [if_pos hn] at hz
      exact hn (hz.trans h))
    clear h1 hz
    go_enter Try.func5, Try.ntmps5
    go_wp2_with fail
    refine (light_is E L _ A S.length c true H1.out _ (HS.out.go HM0.out.bel)).mono ?_
    rintro e w1 ⟨rfl, hb1⟩
    have HM1 := Lib.hid (HM0.out.below hb1)
    obtain ⟨p0, p1, pf⟩ := blk2 (HM1.out.get 0 rfl).2
    clear hb1 HM0
    go_wp2_with fail
    refine (wsched_r E L _ HE.out HL.out S A c x z HZ.out _ (HS.out.go HM1.out.bel) (SR.out.go HM1.out.bel)).mono ?_
    rintro e w2 ⟨A1, c1, l1, rfl, hr1, hl1, hb2⟩
    have HM2 := Lib.hid (HM1.out.below hb2)
    have R1 := Lib.hid hr1
    have W1 := Lib.hid hl1
    clear hb2 hr1 hl1 p0 p1 pf
    obtain ⟨p0, p1, pf⟩ := blk2 (HM2.out.get 0 rfl).2
    go_wp2_with fail
    refine (rsched_r E L _ HE.out HL.out S A c x z HZ.out _ (HS.out.go HM2.out.bel) (SR.out.go HM2.out.bel)).mono ?_
    rintro e w3 ⟨A2, c2, l2, rfl, hr2, hl2, hb3⟩
    have HM3 := Lib.hid (HM2.out.below hb3)
    have hl : l2 = l1 := IsSch.one HZ0.out hl2 W1.out
    subst hl
    have R2 := Lib.hid hr2
    have HB3 := Lib.hid hb3
    have hlen1 := W1.out.len
    have e1 : (z == z) = true := by simp
    clear hb3 hr2 hl2 p0 p1 pf
    go_wp2_with fail
    refine (awake_any _).mono ?_
    rintro e w6 ⟨rfl, hb6⟩
    have HM6 := Lib.hid (HM3.out.below hb6)
    have Q1 := Lib.hid ((R1.out.go HB3.out).go hb6)
    have Q2 := Lib.hid (R2.out.go hb6)
    clear hb6
    go_wp2_with fail
    refine (sameU_n l2 l2.length rfl (by omega) A1 A2 c1 c2 _ _ _ Q1.out Q2.out).mono ?_
    rintro e w7 ⟨rfl, d, rfl⟩
    go_wp2
    go_ret
    exact ⟨rfl, (HM6.out.drewN _).bel⟩
end Go.Proofs.Ytbilciiffecdgaa
