/- ref41.Send. -/
import Derived.Test.YtpfhnpmcfjfmiaaD12
namespace Go.Proofs.Ytpfhnpmcfjfmiaa
open Go.RowKit

/-- its items' slice has room for its length -/
def CapOk (v : Value) : Prop := ∀ cp A n c, v = .agg #[.int .i64 cp, .slice A n c] → n ≤ c
theorem CapOk.mk {cp : Int} {A : Option Addr} {n c : Nat} (h : n ≤ c) : CapOk (.agg #[.int .i64 cp, .slice A n c]) := by
  intro cp' A' n' c' e
  injection e with e
  have e := Array.toList_inj.2 e
  simp only [List.cons.injEq, and_true] at e
  injection e.2 with _ e1 e2
  subst e1 e2
  exact h
/-- what lies outside of N reads as it did -/
def Kept (N : Nat → Prop) (w W : World) : Prop := w.heap.size ≤ W.heap.size ∧ ∀ p : Addr, p.block < w.heap.size → ¬ N p.block → W.cell? p = w.cell? p
def ReadsOff (N : Nat → Prop) (w : World) (A : Option Addr) (n : Nat) (xs : List Value) : Prop := Reads w w.heap.size 1 A n xs ∧ (0 < n → ∀ ad, A = some ad → ¬ N ad.block)
def IntsOff (N : Nat → Prop) (w : World) (v : Value) (l : List Int) : Prop := ∃ (A : Option Addr) (c : Nat), v = .slice A l.length c ∧ ReadsOff N w A l.length (l.map Iz)
def ItemsOff (N : Nat → Prop) (w : World) (v : Value) (Q : List (List Int)) : Prop :=
  ∃ (A : Option Addr) (c : Nat) (rows : List Value), v = .slice A Q.length c ∧ ReadsOff N w A Q.length rows ∧ ∀ (k : Nat) q, Q[k]? = some q → ∃ u, rows[k]? = some u ∧ IntsOff N w u q
def ChanOff (N : Nat → Prop) (w : World) (v : Value) (cap : Int) (Q : List (List Int)) : Prop := ∃ vi, v = .agg #[.int .i64 cap, vi] ∧ ItemsOff N w vi Q
section
variable {N : Nat → Prop} {w W : World} {v : Value}
theorem Kept.refl (N : Nat → Prop) (w : World) : Kept N w w := ⟨Nat.le_refl _, fun _ _ _ => rfl⟩
theorem Kept.trans {W' : World} (h : Kept N w W) (h' : Kept N W W') : Kept N w W' :=
  ⟨Nat.le_trans h.1 h'.1, fun p hp hn => (h'.2 p (Nat.lt_of_lt_of_le hp h.1) hn).trans (h.2 p hp hn)⟩
theorem Kept.of_below (h : Below w.heap.size w W) : Kept N w W := ⟨h.size, fun _ hp _ => h.cell hp⟩
theorem Kept.set (h : Kept N w W) {a : Addr} (ha : N a.block ∨ w.heap.size ≤ a.block) (u : Value) : Kept N w (W.setCell a u) :=
  ⟨by simpa [World.setCell] using h.1, fun p hp hn => by
    have hne : p.block ≠ a.block := by
      intro e
      rcases ha with ha | ha
      · rw [← e] at ha; exact hn ha
      · omega
    rw [World.cell?_of_block (Below.heap_setCell W a u p.block hne)]
    exact h.2 p hp hn⟩
theorem ReadsOff.go {A : Option Addr} {n : Nat} {xs : List Value} (h : ReadsOff N w A n xs) (hk : Kept N w W) : ReadsOff N W A n xs := by
  refine ⟨⟨h.1.1, fun h0 => ?_⟩, h.2⟩
  obtain ⟨ad, hA, hb, hc⟩ := h.1.2 h0
  exact ⟨ad, hA, Nat.lt_of_lt_of_le hb hk.1, fun j u hu => (hk.2 _ (by rw [block_of_add]; exact hb) (by rw [block_of_add]; exact h.2 h0 ad hA)).trans (hc j u hu)⟩
theorem IntsOff.go {l : List Int} (h : IntsOff N w v l) (hk : Kept N w W) : IntsOff N W v l := let ⟨A, c, e, hr⟩ := h; ⟨A, c, e, hr.go hk⟩
theorem ItemsOff.go {Q : List (List Int)} (h : ItemsOff N w v Q) (hk : Kept N w W) : ItemsOff N W v Q :=
  let ⟨A, c, rows, e, hr, h2⟩ := h
  ⟨A, c, rows, e, hr.go hk, fun k l hl => let ⟨u, hu, ha⟩ := h2 k l hl; ⟨u, hu, ha.go hk⟩⟩
theorem ChanOff.go {cap : Int} {Q : List (List Int)} (h : ChanOff N w v cap Q) (hk : Kept N w W) : ChanOff N W v cap Q := let ⟨vi, e, hi⟩ := h; ⟨vi, e, hi.go hk⟩
theorem IntsOff.at {l : List Int} (h : IntsOff N w v l) : IntsAt w w.heap.size v l := let ⟨A, c, e, hr⟩ := h; ⟨A, c, e, hr.1⟩
theorem ItemsOff.at {Q : List (List Int)} (h : ItemsOff N w v Q) : ItemsAt w w.heap.size v Q :=
  let ⟨A, c, rows, e, hr, h2⟩ := h
  ⟨A, c, rows, e, hr.1, fun k l hl => let ⟨u, hu, ha⟩ := h2 k l hl; ⟨u, hu, ha.at⟩⟩
theorem ChanOff.at {cap : Int} {Q : List (List Int)} (h : ChanOff N w v cap Q) : ChanAt w w.heap.size v cap Q := let ⟨vi, e, hi⟩ := h; ⟨vi, e, hi.at⟩
theorem ReadsOff.less {N' : Nat → Prop} {A : Option Addr} {n : Nat} {xs : List Value} (h : ReadsOff N w A n xs) (hN : ∀ b, b < w.heap.size → N' b → N b) : ReadsOff N' w A n xs :=
  ⟨h.1, fun h0 ad hA hn => by
    obtain ⟨ad', hA', hb, -⟩ := h.1.2 h0
    rw [hA] at hA'
    injection hA' with hA'
    subst hA'
    exact h.2 h0 ad hA (hN _ hb hn)⟩
theorem IntsOff.less {N' : Nat → Prop} {l : List Int} (h : IntsOff N w v l) (hN : ∀ b, b < w.heap.size → N' b → N b) : IntsOff N' w v l := let ⟨A, c, e, hr⟩ := h; ⟨A, c, e, hr.less hN⟩
theorem ItemsOff.less {N' : Nat → Prop} {Q : List (List Int)} (h : ItemsOff N w v Q) (hN : ∀ b, b < w.heap.size → N' b → N b) : ItemsOff N' w v Q :=
  let ⟨A, c, rows, e, hr, h2⟩ := h
  ⟨A, c, rows, e, hr.less hN, fun k l hl => let ⟨u, hu, ha⟩ := h2 k l hl; ⟨u, hu, ha.less hN⟩⟩
theorem ChanOff.less {N' : Nat → Prop} {cap : Int} {Q : List (List Int)} (h : ChanOff N w v cap Q) (hN : ∀ b, b < w.heap.size → N' b → N b) : ChanOff N' w v cap Q := let ⟨vi, e, hi⟩ := h; ⟨vi, e, hi.less hN⟩
theorem coff_nil {cap : Int} : ChanOff N w (.agg #[.int .i64 cap, .slice none 0 0]) cap [] := ⟨_, rfl, none, 0, [], rfl, ⟨Reads.none_, fun _ ad e => by cases e⟩, fun k q h => by simp at h⟩
theorem ReadsOff.of {B : Nat} {A : Option Addr} {n : Nat} {xs : List Value} (h : Reads w B 1 A n xs) (hB : B ≤ w.heap.size) (hN : ∀ b, N b → B ≤ b) : ReadsOff N w A n xs := by
  refine ⟨h.more hB, fun h0 ad hA hn => ?_⟩
  obtain ⟨ad', hA', hb, -⟩ := h.2 h0
  rw [hA] at hA'
  injection hA' with hA'
  subst hA'
  have := hN _ hn
  omega
theorem IntsOff.of {B : Nat} {l : List Int} (h : IntsAt w B v l) (hB : B ≤ w.heap.size) (hN : ∀ b, N b → B ≤ b) : IntsOff N w v l := let ⟨A, c, e, hr⟩ := h; ⟨A, c, e, .of hr hB hN⟩
theorem ItemsOff.of {B : Nat} {Q : List (List Int)} (h : ItemsAt w B v Q) (hB : B ≤ w.heap.size) (hN : ∀ b, N b → B ≤ b) : ItemsOff N w v Q :=
  let ⟨A, c, rows, e, hr, h2⟩ := h
  ⟨A, c, rows, e, .of hr hB hN, fun k l hl => let ⟨u, hu, ha⟩ := h2 k l hl; ⟨u, hu, .of ha hB hN⟩⟩
theorem ChanOff.of {B : Nat} {cap : Int} {Q : List (List Int)} (h : ChanAt w B v cap Q) (hB : B ≤ w.heap.size) (hN : ∀ b, N b → B ≤ b) : ChanOff N w v cap Q := let ⟨vi, e, hi⟩ := h; ⟨vi, e, .of hi hB hN⟩
end
/-- a channel that may share memory with the old one, and a bool -/
def RefPost (N : Nat → Prop) (w : World) (cap : Int) (Q : List (List Int)) (b : Bool) (e : Ending) (w' : World) : Prop := ∃ v, e = .returned (.tuple #[v, .bool b]) ∧ ChanOff N w' v cap Q ∧ CapOk v ∧ Below w.heap.size w w'

set_option maxHeartbeats 1000000 in
theorem rsend_bad (N : Nat → Prop) (cap : Int) (Q : List (List Int)) (hv : vldC cap Q = false) (v vi : Value) (w : World) (hO : ChanOff N w v cap Q) :
    Calls Try.prog 10 #[v, vi] w (RefPost N w 0 [] false) := by
  have hC := hO.at
  clear hO
  have HC := Lib.hid hC
  obtain ⟨vq, rfl, A, c, rows, rfl, hr, hk⟩ := hC
  have HV := Lib.hid hv
  clear hr hk hv
  obtain ⟨b0, b1, hB0⟩ := two_new w 24 24 #[.int .i64 cap, .slice A Q.length c] #[.int .i64 0, .slice none 0 0]
  have HB0 := Lib.hid hB0
  clear hB0
  go_enter Try.func10, Try.ntmps10
  go_wp2_with fail
  refine (crvalid_is cap Q _ false HV.out _ (HC.out.go HB0.out)).mono ?_
  rintro e w1 ⟨rfl, hb1⟩
  have HB1 := Lib.hid (below_end hb1 HB0.out)
  have b11 := b1.below hb1 b1.lt
  obtain ⟨q0, q1, qf⟩ := blk2 b11
  clear hb1 b0 b1 b11
  go_wp2
  refine bodyPost_ret (v := .tuple #[.agg #[.int .i64 0, .slice none 0 0], .bool false]) ?_ rfl ⟨_, rfl, coff_nil, CapOk.mk (Nat.le_refl _), ?_⟩
  · simp [results, Try.results10, go_sem, q0, q1]
  · exact (HB1.out.setCell (by simp) _).setCell (by simp) _

set_option maxHeartbeats 1000000 in
theorem rsend_full (N : Nat → Prop) (cap : Int) (Q : List (List Int)) (hv : vldC cap Q = true) (q : List Int) (hf : (Q.length : Int) = cap ∨ 6 < q.length) (v : Value) (Ai : Option Addr) (ci : Nat) (w : World) (hO : ChanOff N w v cap Q) (hcp : CapOk v) :
    Calls Try.prog 10 #[v, .slice Ai q.length ci] w (RefPost N w cap Q false) := by
  have HO := Lib.hid hO
  have hC := hO.at
  clear hO
  have HC := Lib.hid hC
  obtain ⟨vq, rfl, A, c, rows, rfl, hr, hk⟩ := hC
  have HV := Lib.hid hv
  have HCP := Lib.hid hcp
  clear hr hk hv hcp
  obtain ⟨b0, b1, hB0⟩ := two_new w 24 24 #[.int .i64 cap, .slice A Q.length c] #[.int .i64 0, .slice none 0 0]
  have HB0 := Lib.hid hB0
  clear hB0
  go_enter Try.func10, Try.ntmps10
  go_wp2_with fail
  refine (crvalid_is cap Q _ true HV.out _ (HC.out.go HB0.out)).mono ?_
  rintro e w1 ⟨rfl, hb1⟩
  have HB1 := Lib.hid (below_end hb1 HB0.out)
  have b01 := b0.below hb1 b0.lt
  have b11 := b1.below hb1 b1.lt
  clear hb1 b0 b1
  obtain ⟨p0, p1, pf⟩ := blk2 b01
  obtain ⟨q0, q1, qf⟩ := blk2 b11
  have HB2 := Lib.hid ((HB1.out.setCell (p := ⟨w.heap.size + 1, 0, none⟩) (by simp) (.int .i64 cap)).setCell (p := ⟨w.heap.size + 1, 1, none⟩) (by simp) (.slice A Q.length c))
  by_cases t1 : (Q.length : Int) = cap
  all_goals
    first
      | (have t1' : ((Q.length : Int) == cap) = true := by simp [t1]
         have T1 := Lib.hid t1)
      | (have t1' : ((Q.length : Int) == cap) = false := beq_eq_false_iff_ne.2 t1
         have t2 : 6 < q.length := hf.resolve_left t1)
    clear t1 hf
    go_wp2
    refine bodyPost_ret (v := .tuple #[.agg #[.int .i64 cap, .slice A Q.length c], .bool false]) ?_ rfl ⟨_, rfl, HO.out.go (.of_below HB2.out), HCP.out, HB2.out⟩
    simp [results, Try.results10, go_sem, q0, q1]
end Go.Proofs.Ytpfhnpmcfjfmiaa
