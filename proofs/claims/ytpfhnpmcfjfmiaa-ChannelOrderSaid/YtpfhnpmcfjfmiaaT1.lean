/- The walk of ChannelSteps. -/
import Derived.Test.YtpfhnpmcfjfmiaaR5
import Derived.Deep.RegionHeld3
namespace Go.Proofs.Ytpfhnpmcfjfmiaa
open Go.RowKit

/-- a channel and a bool -/
def SW (w : World) (s : Int × List (List Int) × Bool) (e : Ending) (w' : World) : Prop :=
  ∃ (A : Option Addr) (c : Nat), e = .returned (.tuple #[.agg #[.int .i64 s.1, .slice A s.2.1.length c], .bool s.2.2]) ∧ ChanAt w' w'.heap.size (.agg #[.int .i64 s.1, .slice A s.2.1.length c]) s.1 s.2.1 ∧ Below w.heap.size w w'
/-- a channel, an item and a bool -/
def RW (w : World) (s : Int × List (List Int) × List Int × Bool) (e : Ending) (w' : World) : Prop :=
  ∃ (A B : Option Addr) (c d : Nat), e = .returned (.tuple #[.agg #[.int .i64 s.1, .slice A s.2.1.length c], .slice B s.2.2.1.length d, .bool s.2.2.2]) ∧ ChanAt w' w'.heap.size (.agg #[.int .i64 s.1, .slice A s.2.1.length c]) s.1 s.2.1 ∧
    Reads w' w'.heap.size 1 B s.2.2.1.length (s.2.2.1.map Iz) ∧ Below w.heap.size w w'
theorem sw_step {w w' : World} {s : Int × List (List Int) × Bool} {e : Ending} (h : StepPost w s.1 s.2.1 s.2.2 e w') : SW w s e w' := by
  obtain ⟨vi, vs, rfl, ho, hr, hb⟩ := h
  obtain ⟨A, c, rfl⟩ := own_form ho
  exact ⟨A, c, rfl, ⟨_, rfl, hr.items_own ho⟩, hb⟩
theorem sw_ref {N : Nat → Prop} {w w' : World} {s : Int × List (List Int) × Bool} {e : Ending} (h : RefPost N w s.1 s.2.1 s.2.2 e w') : SW w s e w' := by
  obtain ⟨v, rfl, hc, _, hb⟩ := h
  obtain ⟨A, c, rfl⟩ := chan_form hc.at
  exact ⟨A, c, rfl, hc.at, hb⟩
theorem ItemB.ints {w : World} {v : Value} {q : List Int} {b : Bool} (h : ItemB w v q b) : ∃ (A : Option Addr) (c : Nat), v = .slice A q.length c ∧ Reads w w.heap.size 1 A q.length (q.map Iz) := by
  rcases h with ⟨_, rfl, rfl⟩ | ⟨_, gc, rfl, hb⟩
  · exact ⟨none, 0, rfl, Reads.none_⟩
  · exact ⟨_, _, rfl, reads_blk hb hb.lt (by simp)⟩
theorem rw_step {w w' : World} {s : Int × List (List Int) × List Int × Bool} {e : Ending} (h : RecvPost w s.1 s.2.1 s.2.2.1 s.2.2.2 e w') : RW w s e w' := by
  obtain ⟨vi, vs, vq, rfl, ho, hr, hq, hb⟩ := h
  obtain ⟨A, c, rfl⟩ := own_form ho
  obtain ⟨B, d, rfl, hB⟩ := ItemB.ints hq
  exact ⟨A, B, c, d, rfl, ⟨_, rfl, hr.items_own ho⟩, hB, hb⟩
theorem rw_ref {N : Nat → Prop} {w w' : World} {s : Int × List (List Int) × List Int × Bool} {e : Ending} (h : RefRecv N w s.1 s.2.1 s.2.2.1 s.2.2.2 e w') : RW w s e w' := by
  obtain ⟨v, u, rfl, hc, _, hu, hb⟩ := h
  obtain ⟨A, c, rfl⟩ := chan_form hc.at
  obtain ⟨B, d, rfl, hB⟩ := hu.at
  exact ⟨A, B, c, d, rfl, hc.at, hB, hb⟩

def Sml (Q : List (List Int)) : Prop := Q.length ≤ 1000000 ∧ ∀ k (h : k < Q.length), Q[k].length ≤ 1000000
theorem sml_nil : Sml [] := ⟨Nat.zero_le _, fun k h => by simp at h⟩
theorem sml_of {Q : List (List Int)} (h : largeB Q = false) : Q.length ≤ 30 ∧ ∀ q ∈ Q, q.length ≤ 100 :=
  ⟨(large_parts h).1, fun q hq => by obtain ⟨k, hk, rfl⟩ := List.getElem_of_mem hq; exact (large_parts h).2 k hk⟩
theorem sml_mem {Q : List (List Int)} (h1 : Q.length ≤ 1000000) (h2 : ∀ q ∈ Q, q.length ≤ 1000000) : Sml Q := ⟨h1, fun _ h => h2 _ (List.getElem_mem h)⟩
theorem sml_send {cap : Int} {Q : List (List Int)} {q : List Int} (h : largeB Q = false) (hq : q.length ≤ 100) : Sml (sendQ cap Q q).2.1 := by
  obtain ⟨h1, h2⟩ := sml_of h
  unfold sendQ
  split
  · exact sml_nil
  · split
    · exact sml_mem (by show Q.length ≤ _; omega) fun x hx => by have := h2 x hx; omega
    · refine sml_mem (by simp; omega) fun x hx => ?_
      rcases List.mem_append.1 hx with hx | hx
      · have := h2 x hx; omega
      · rw [List.mem_singleton] at hx; subst hx; omega
theorem sml_lose {cap : Int} {Q : List (List Int)} {a : Int} (h : largeB Q = false) : Sml (loseQ cap Q a).2.1 := by
  obtain ⟨h1, h2⟩ := sml_of h
  unfold loseQ
  split
  · exact sml_nil
  · split
    · exact sml_mem (by show Q.length ≤ _; omega) fun x hx => by have := h2 x hx; omega
    · refine sml_mem ?_ fun x hx => ?_
      · have := List.length_eraseIdx_le Q a.toNat; show (Q.eraseIdx _).length ≤ _; omega
      · have := h2 x (List.mem_of_mem_eraseIdx hx); omega
theorem sml_recv {cap : Int} {Q : List (List Int)} (h : largeB Q = false) : Sml (recvQ cap Q).2.1 ∧ (recvQ cap Q).2.2.1.length ≤ 100 := by
  obtain ⟨h1, h2⟩ := sml_of h
  unfold recvQ
  split
  · exact ⟨sml_nil, Nat.zero_le _⟩
  · match Q, h1, h2 with
    | [], _, _ => exact ⟨sml_nil, Nat.zero_le _⟩
    | q :: Q', h1, h2 => exact ⟨sml_mem (by simp at h1 ⊢; omega) fun x hx => by have := h2 x (List.mem_cons_of_mem _ hx); omega, h2 q (List.mem_cons_self ..)⟩

section
variable (cap : Int) (Q : List (List Int)) (q : List Int) (a : Int) (v : Value) (Ai : Option Addr) (ci : Nat) (hcp : CapOk v) (w : World) (hC : ChanAt w w.heap.size v cap Q)
include hC
theorem send_w (hi : Reads w w.heap.size 1 Ai q.length (q.map Iz)) : Calls Try.prog 9 #[v, .slice Ai q.length ci] w (SW w (sendQ cap Q q)) :=
  (send_any cap Q q v Ai ci w hC hi).mono fun _ _ h => sw_step h
theorem lose_w : Calls Try.prog 13 #[v, .int .i64 a] w (SW w (loseQ cap Q a)) :=
  (lose_any cap Q a v w hC).mono fun _ _ h => sw_step h
theorem recv_w : Calls Try.prog 11 #[v] w (RW w (recvQ cap Q)) :=
  (recv_any cap Q v w hC).mono fun _ _ h => rw_step h
include hcp
theorem rsend_w (hi : Reads w w.heap.size 1 Ai q.length (q.map Iz)) : Calls Try.prog 10 #[v, .slice Ai q.length ci] w (SW w (sendQ cap Q q)) :=
  (rsend_any (fun _ => False) cap Q q v Ai ci w (fun _ h => h.elim) (.of hC (Nat.le_refl _) fun _ h => h.elim) hcp (.of hi (Nat.le_refl _) fun _ h => h.elim)).mono fun _ _ h => sw_ref h
theorem rlose_w : Calls Try.prog 14 #[v, .int .i64 a] w (SW w (loseQ cap Q a)) :=
  (rlose_any (fun _ => False) cap Q a v w (fun _ h => h.elim) (.of hC (Nat.le_refl _) fun _ h => h.elim) hcp).mono fun _ _ h => sw_ref h
theorem rrecv_w : Calls Try.prog 12 #[v] w (RW w (recvQ cap Q)) :=
  (rrecv_any (fun _ => False) cap Q v w (fun _ h => h.elim) (.of hC (Nat.le_refl _) fun _ h => h.elim) hcp).mono fun _ _ h => rw_ref h
end
theorem same_s {cap : Int} {Q : List (List Int)} (hQ : Sml Q) {v u : Value} {w : World} (hA : ChanAt w w.heap.size v cap Q) (hB : ChanAt w w.heap.size u cap Q) :
    Calls Try.prog 17 #[v, u] w fun e w' => e = .returned (.bool true) ∧ Below w.heap.size w w' := same_eq cap Q hQ.1 hQ.2 v u w hA hB
theorem sameInts_b {l : List Int} (hl : l.length ≤ 100) {A B : Option Addr} {ca cb : Nat} {w : World} (hA : Reads w w.heap.size 1 A l.length (l.map Iz)) (hB : Reads w w.heap.size 1 B l.length (l.map Iz)) :
    Calls Try.prog 18 #[.slice A l.length ca, .slice B l.length cb] w fun e w' => e = .returned (.bool true) ∧ Below w.heap.size w w' :=
  (sameInts_eq l (by omega) A B ca cb _ _ w hA hB).mono fun _ _ ⟨he, d, hd⟩ => ⟨he, by rw [hd]; exact below_drewN (Below.refl _ _) d⟩

set_option maxRecDepth 100000 in
set_option maxHeartbeats 4000000 in
theorem steps_law (w : World) (cap : Int) (Q : List (List Int)) (v : Value) (hC : ChanAt w w.heap.size v cap Q) (hcp : CapOk v) (q : List Int) (Ai : Option Addr) (ci : Nat) (_hm : q.length ≤ 9223372036854775807) (hi : Reads w w.heap.size 1 Ai q.length (q.map Iz)) (_hz : ∀ z ∈ q, (Lit.int .i64 z).wf = true) (a : Int) (_ha : -9223372036854775808 ≤ a ∧ a ≤ 9223372036854775807) :
    Calls Try.prog 3 #[v, .slice Ai q.length ci, .int .i64 a] w fun e w' => e = .returned (.bool true) ∧ Below w.heap.size w w' := by
  have HC := Lib.hid hC
  have HCP := Lib.hid hcp
  have HI := Lib.hid hi
  obtain ⟨A, c, rfl⟩ := chan_form hC
  clear hC hcp hi
  have hb0 := (Below.refl w.heap.size w).alloc (Nat.le_refl _) (.cells #[.int .i64 cap, .slice A Q.length c] 24)
  have HB0 := Lib.hid hb0
  clear hb0
  by_cases hlg : largeB Q = true ∨ 100 < q.length
  · cases hl : largeB Q
    · have hq : 100 < q.length := by rcases hlg with h | h; rw [hl] at h; cases h; exact h
      have H1 := Lib.hid hl
      clear hl hlg
      go_enter Try.func3, Try.ntmps3
      go_wp2_with fail
      refine (large_is cap Q _ false H1.out _ (HC.out.go HB0.out)).mono ?_
      rintro e w1 ⟨rfl, hb1⟩
      have HB1 := Lib.hid (below_end hb1 HB0.out)
      clear hb1
      go_wp2_with fail
      refine (known_any _).mono ?_
      rintro e w2 ⟨rfl, hb2⟩
      go_wp2
      go_ret
      exact ⟨rfl, below_end hb2 HB1.out⟩
    · have H1 := Lib.hid hl
      clear hl hlg
      go_enter Try.func3, Try.ntmps3
      go_wp2_with fail
      refine (large_is cap Q _ true H1.out _ (HC.out.go HB0.out)).mono ?_
      rintro e w1 ⟨rfl, hb1⟩
      have HB1 := Lib.hid (below_end hb1 HB0.out)
      clear hb1
      go_wp2_with fail
      refine (known_any _).mono ?_
      rintro e w2 ⟨rfl, hb2⟩
      go_wp2
      go_ret
      exact ⟨rfl, below_end hb2 HB1.out⟩
  · have H1 := Lib.hid (show largeB Q = false from Bool.eq_false_iff.2 fun h => hlg (.inl h))
    have hq : ¬ 100 < q.length := fun h => hlg (.inr h)
    have hq' : q.length ≤ 100 := by omega
    have hQl : Q.length ≤ 30 := (large_parts H1.out).1
    clear hlg
    have HS1 := Lib.hid (sml_send (cap := cap) H1.out hq')
    have HS2 := Lib.hid (sml_recv (cap := cap) H1.out)
    have HS3 := Lib.hid (sml_lose (cap := cap) (a := a) H1.out)
    have C1 := Lib.hid (send_w cap Q q (.agg #[.int .i64 cap, .slice A Q.length c]) Ai ci)
    have C2 := Lib.hid (rsend_w cap Q q (.agg #[.int .i64 cap, .slice A Q.length c]) Ai ci HCP.out)
    have C3 := Lib.hid (recv_w cap Q (.agg #[.int .i64 cap, .slice A Q.length c]))
    have C4 := Lib.hid (rrecv_w cap Q (.agg #[.int .i64 cap, .slice A Q.length c]) HCP.out)
    have C5 := Lib.hid (lose_w cap Q a (.agg #[.int .i64 cap, .slice A Q.length c]))
    have C6 := Lib.hid (rlose_w cap Q a (.agg #[.int .i64 cap, .slice A Q.length c]) HCP.out)
    generalize sendQ cap Q q = s1 at *
    obtain ⟨cp1, Q1, ok1⟩ := s1
    generalize recvQ cap Q = s2 at *
    obtain ⟨cp2, Q2, q2, ok2⟩ := s2
    generalize loseQ cap Q a = s3 at *
    obtain ⟨cp3, Q3, ok3⟩ := s3
    dsimp only at HS1 HS2 HS3
    go_enter Try.func3, Try.ntmps3
    go_wp2_with fail
    refine (large_is cap Q _ false H1.out _ (HC.out.go HB0.out)).mono ?_
    rintro e w1 ⟨rfl, hb1⟩
    have HB1 := Lib.hid (below_end hb1 HB0.out)
    have bs := (Blk.new w 24 #[.int .i64 cap, .slice A Q.length c]).below hb1 (by simp)
    clear hb1
    obtain ⟨p0, p1, pf⟩ := blk2 bs
    have BS := Lib.hid bs
    clear bs
    go_wp2_with fail
    refine (C1.out _ (HC.out.go HB1.out) (HI.out.go HB1.out)).mono ?_
    rintro e x1 ⟨A1, c1, rfl, hc, hb⟩
    dsimp only
    have bs := BS.out.below hb BS.out.lt
    have HBy1 := Lib.hid (below_end hb HB1.out)
    have HC1 := Lib.hid hc
    clear hc hb BS HB1 C1 p0 p1 pf
    obtain ⟨p0, p1, pf⟩ := blk2 bs
    have BS := Lib.hid bs
    have lz1 := bs.lt
    clear bs
    go_wp2_with fail
    generalize hW : World.alloc _ _ = W1
    have hbw : Below x1.heap.size x1 W1 := by rw [← hW]; exact (Below.refl _ _).alloc (Nat.le_refl _) _
    have bn : Blk W1 x1.heap.size 24 #[.int .i64 cp1, .slice A1 Q1.length c1] := by rw [← hW]; exact Blk.new _ _ _
    have BN1 := Lib.hid bn
    have hsz1 : x1.heap.size < W1.heap.size := bn.lt
    have BSx := Lib.hid (BS.out.below hbw BS.out.lt)
    have HBx := Lib.hid (below_end hbw HBy1.out)
    have HCx1 := Lib.hid (HC1.out.go hbw)
    clear hW hbw bn BS HBy1 HC1 p0 p1 pf
    refine (C2.out _ (HC.out.go HBx.out) (HI.out.go HBx.out)).mono ?_
    rintro e x2 ⟨A2, c2, rfl, hc, hb⟩
    dsimp only
    have bs := BSx.out.below hb BSx.out.lt
    have HBy2 := Lib.hid (below_end hb HBx.out)
    have HC2 := Lib.hid hc
    have BN1 := Lib.hid (BN1.out.below hb BN1.out.lt)
    have HC1 := Lib.hid (HCx1.out.go hb)
    clear hc hb BSx HBx C2 HCx1
    obtain ⟨p0, p1, pf⟩ := blk2 bs
    have BS := Lib.hid bs
    have lz2 := bs.lt
    clear bs
    go_wp2_with fail
    generalize hW : World.alloc _ _ = W2
    have hbw : Below x2.heap.size x2 W2 := by rw [← hW]; exact (Below.refl _ _).alloc (Nat.le_refl _) _
    have bn : Blk W2 x2.heap.size 24 #[.int .i64 cp1, .slice A2 Q1.length c2] := by rw [← hW]; exact Blk.new _ _ _
    have BN2 := Lib.hid bn
    have hsz2 : x2.heap.size < W2.heap.size := bn.lt
    have BSx := Lib.hid (BS.out.below hbw BS.out.lt)
    have HBx := Lib.hid (below_end hbw HBy2.out)
    have BNx1 := Lib.hid (BN1.out.below hbw BN1.out.lt)
    have HCx1 := Lib.hid (HC1.out.go hbw)
    have HCx2 := Lib.hid (HC2.out.go hbw)
    clear hW hbw bn BS HBy2 BN1 HC1 HC2 p0 p1 pf
    refine (C3.out _ (HC.out.go HBx.out)).mono ?_
    rintro e x3 ⟨A3, B3, c3, d3, rfl, hc, hr, hb⟩
    dsimp only
    have bs := BSx.out.below hb BSx.out.lt
    have HBy3 := Lib.hid (below_end hb HBx.out)
    have HC3 := Lib.hid hc
    have HR3 := Lib.hid hr
    have BN2 := Lib.hid (BN2.out.below hb BN2.out.lt)
    have BN1 := Lib.hid (BNx1.out.below hb BNx1.out.lt)
    have HC1 := Lib.hid (HCx1.out.go hb)
    have HC2 := Lib.hid (HCx2.out.go hb)
    clear hc hb hr BSx HBx C3 BNx1 HCx1 HCx2
    obtain ⟨p0, p1, pf⟩ := blk2 bs
    have BS := Lib.hid bs
    have lz3 := bs.lt
    clear bs
    go_wp2_with fail
    generalize hW : World.alloc _ _ = W3
    have hbw : Below x3.heap.size x3 W3 := by rw [← hW]; exact (Below.refl _ _).alloc (Nat.le_refl _) _
    have bn : Blk W3 x3.heap.size 24 #[.int .i64 cp2, .slice A3 Q2.length c3] := by rw [← hW]; exact Blk.new _ _ _
    have BN3 := Lib.hid bn
    have hsz3 : x3.heap.size < W3.heap.size := bn.lt
    have BSx := Lib.hid (BS.out.below hbw BS.out.lt)
    have HBx := Lib.hid (below_end hbw HBy3.out)
    have BNx1 := Lib.hid (BN1.out.below hbw BN1.out.lt)
    have BNx2 := Lib.hid (BN2.out.below hbw BN2.out.lt)
    have HCx1 := Lib.hid (HC1.out.go hbw)
    have HCx2 := Lib.hid (HC2.out.go hbw)
    have HCx3 := Lib.hid (HC3.out.go hbw)
    have HRx3 := Lib.hid (HR3.out.go hbw)
    clear hW hbw bn BS HBy3 BN1 BN2 HC1 HC2 HC3 HR3 p0 p1 pf
    refine (C4.out _ (HC.out.go HBx.out)).mono ?_
    rintro e x4 ⟨A4, B4, c4, d4, rfl, hc, hr, hb⟩
    dsimp only
    have bs := BSx.out.below hb BSx.out.lt
    have HBy4 := Lib.hid (below_end hb HBx.out)
    have HC4 := Lib.hid hc
    have HR4 := Lib.hid hr
    have BN3 := Lib.hid (BN3.out.below hb BN3.out.lt)
    have BN1 := Lib.hid (BNx1.out.below hb BNx1.out.lt)
    have BN2 := Lib.hid (BNx2.out.below hb BNx2.out.lt)
    have HC1 := Lib.hid (HCx1.out.go hb)
    have HC2 := Lib.hid (HCx2.out.go hb)
    have HC3 := Lib.hid (HCx3.out.go hb)
    have HR3 := Lib.hid (HRx3.out.go hb)
    clear hc hb hr BSx HBx C4 BNx1 BNx2 HCx1 HCx2 HCx3 HRx3
    obtain ⟨p0, p1, pf⟩ := blk2 bs
    have BS := Lib.hid bs
    have lz4 := bs.lt
    clear bs
    go_wp2_with fail
    generalize hW : World.alloc _ _ = W4
    have hbw : Below x4.heap.size x4 W4 := by rw [← hW]; exact (Below.refl _ _).alloc (Nat.le_refl _) _
    have bn : Blk W4 x4.heap.size 24 #[.int .i64 cp2, .slice A4 Q2.length c4] := by rw [← hW]; exact Blk.new _ _ _
    have BN4 := Lib.hid bn
    have hsz4 : x4.heap.size < W4.heap.size := bn.lt
    have BSx := Lib.hid (BS.out.below hbw BS.out.lt)
    have HBx := Lib.hid (below_end hbw HBy4.out)
    have BNx1 := Lib.hid (BN1.out.below hbw BN1.out.lt)
    have BNx2 := Lib.hid (BN2.out.below hbw BN2.out.lt)
    have BNx3 := Lib.hid (BN3.out.below hbw BN3.out.lt)
    have HCx1 := Lib.hid (HC1.out.go hbw)
    have HCx2 := Lib.hid (HC2.out.go hbw)
    have HCx3 := Lib.hid (HC3.out.go hbw)
    have HCx4 := Lib.hid (HC4.out.go hbw)
    have HRx3 := Lib.hid (HR3.out.go hbw)
    have HRx4 := Lib.hid (HR4.out.go hbw)
    clear hW hbw bn BS HBy4 BN1 BN2 BN3 HC1 HC2 HC3 HC4 HR3 HR4 p0 p1 pf
    refine (C5.out _ (HC.out.go HBx.out)).mono ?_
    rintro e x5 ⟨A5, c5, rfl, hc, hb⟩
    dsimp only
    have bs := BSx.out.below hb BSx.out.lt
    have HBy5 := Lib.hid (below_end hb HBx.out)
    have HC5 := Lib.hid hc
    have BN4 := Lib.hid (BN4.out.below hb BN4.out.lt)
    have BN1 := Lib.hid (BNx1.out.below hb BNx1.out.lt)
    have BN2 := Lib.hid (BNx2.out.below hb BNx2.out.lt)
    have BN3 := Lib.hid (BNx3.out.below hb BNx3.out.lt)
    have HC1 := Lib.hid (HCx1.out.go hb)
    have HC2 := Lib.hid (HCx2.out.go hb)
    have HC3 := Lib.hid (HCx3.out.go hb)
    have HC4 := Lib.hid (HCx4.out.go hb)
    have HR3 := Lib.hid (HRx3.out.go hb)
    have HR4 := Lib.hid (HRx4.out.go hb)
    clear hc hb BSx HBx C5 BNx1 BNx2 BNx3 HCx1 HCx2 HCx3 HCx4 HRx3 HRx4
    obtain ⟨p0, p1, pf⟩ := blk2 bs
    have BS := Lib.hid bs
    have lz5 := bs.lt
    clear bs
    go_wp2_with fail
    generalize hW : World.alloc _ _ = W5
    have hbw : Below x5.heap.size x5 W5 := by rw [← hW]; exact (Below.refl _ _).alloc (Nat.le_refl _) _
    have bn : Blk W5 x5.heap.size 24 #[.int .i64 cp3, .slice A5 Q3.length c5] := by rw [← hW]; exact Blk.new _ _ _
    have BN5 := Lib.hid bn
    have hsz5 : x5.heap.size < W5.heap.size := bn.lt
    have BSx := Lib.hid (BS.out.below hbw BS.out.lt)
    have HBx := Lib.hid (below_end hbw HBy5.out)
    have BNx1 := Lib.hid (BN1.out.below hbw BN1.out.lt)
    have BNx2 := Lib.hid (BN2.out.below hbw BN2.out.lt)
    have BNx3 := Lib.hid (BN3.out.below hbw BN3.out.lt)
    have BNx4 := Lib.hid (BN4.out.below hbw BN4.out.lt)
    have HCx1 := Lib.hid (HC1.out.go hbw)
    have HCx2 := Lib.hid (HC2.out.go hbw)
    have HCx3 := Lib.hid (HC3.out.go hbw)
    have HCx4 := Lib.hid (HC4.out.go hbw)
    have HCx5 := Lib.hid (HC5.out.go hbw)
    have HRx3 := Lib.hid (HR3.out.go hbw)
    have HRx4 := Lib.hid (HR4.out.go hbw)
    clear hW hbw bn BS HBy5 BN1 BN2 BN3 BN4 HC1 HC2 HC3 HC4 HC5 HR3 HR4 p0 p1 pf
    refine (C6.out _ (HC.out.go HBx.out)).mono ?_
    rintro e x6 ⟨A6, c6, rfl, hc, hb⟩
    dsimp only
    have bs := BSx.out.below hb BSx.out.lt
    have HBy6 := Lib.hid (below_end hb HBx.out)
    have HC6 := Lib.hid hc
    have BN5 := Lib.hid (BN5.out.below hb BN5.out.lt)
    have BN1 := Lib.hid (BNx1.out.below hb BNx1.out.lt)
    have BN2 := Lib.hid (BNx2.out.below hb BNx2.out.lt)
    have BN3 := Lib.hid (BNx3.out.below hb BNx3.out.lt)
    have BN4 := Lib.hid (BNx4.out.below hb BNx4.out.lt)
    have HC1 := Lib.hid (HCx1.out.go hb)
    have HC2 := Lib.hid (HCx2.out.go hb)
    have HC3 := Lib.hid (HCx3.out.go hb)
    have HC4 := Lib.hid (HCx4.out.go hb)
    have HC5 := Lib.hid (HCx5.out.go hb)
    have HR3 := Lib.hid (HRx3.out.go hb)
    have HR4 := Lib.hid (HRx4.out.go hb)
    clear hc hb BSx HBx C6 BNx1 BNx2 BNx3 BNx4 HCx1 HCx2 HCx3 HCx4 HCx5 HRx3 HRx4
    obtain ⟨p0, p1, pf⟩ := blk2 bs
    have BS := Lib.hid bs
    have lz6 := bs.lt
    clear bs
    go_upto_region 9 with fail
    generalize hW : World.alloc _ _ = W0
    have hbw : Below x6.heap.size x6 W0 := by rw [← hW]; exact (Below.refl _ _).alloc (Nat.le_refl _) _
    have b6 : Blk W0 x6.heap.size 24 #[.int .i64 cp3, .slice A6 Q3.length c6] := by rw [← hW]; exact Blk.new _ _ _
    have bs := BS.out.below hbw BS.out.lt
    have b1 := BN1.out.below hbw BN1.out.lt
    have b2 := BN2.out.below hbw BN2.out.lt
    have b3 := BN3.out.below hbw BN3.out.lt
    have b4 := BN4.out.below hbw BN4.out.lt
    have b5 := BN5.out.below hbw BN5.out.lt
    have HCz1 := Lib.hid (HC1.out.go hbw)
    have HCz2 := Lib.hid (HC2.out.go hbw)
    have HCz3 := Lib.hid (HC3.out.go hbw)
    have HCz4 := Lib.hid (HC4.out.go hbw)
    have HCz5 := Lib.hid (HC5.out.go hbw)
    have HCz6 := Lib.hid (HC6.out.go hbw)
    have HRz3 := Lib.hid (HR3.out.go hbw)
    have HRz4 := Lib.hid (HR4.out.go hbw)
    have HBz := Lib.hid (below_end hbw HBy6.out)
    clear hW hbw p0 p1 pf BS HBy6 BN1 HC1 BN2 HC2 BN3 HC3 BN4 HC4 BN5 HC5 HC6 HR3 HR4
    obtain ⟨p0, p1, pf⟩ := blk2 bs
    have ls := bs.lt
    obtain ⟨y1, z1, f1⟩ := blk2 b1
    have l1 := b1.lt
    obtain ⟨y2, z2, f2⟩ := blk2 b2
    have l2 := b2.lt
    obtain ⟨y3, z3, f3⟩ := blk2 b3
    have l3 := b3.lt
    obtain ⟨y4, z4, f4⟩ := blk2 b4
    have l4 := b4.lt
    obtain ⟨y5, z5, f5⟩ := blk2 b5
    have l5 := b5.lt
    obtain ⟨y6, z6, f6⟩ := blk2 b6
    have l6 := b6.lt
    have rule := below_rule W0
    clear bs b1 b2 b3 b4 b5 b6
    have HCX := Lib.hid (fun X (h : Below W0.heap.size W0 X) => HC.out.go (below_end h HBz.out))
    cases hvv : vldC cap Q
    all_goals
      have HVV := Lib.hid hvv
      clear hvv
      go_region_held3 (fun x => Below W0.heap.size W0 x) (first | exact Below.refl _ _ | exact Below.drew (Below.refl _ _) | assumption | exact below_step (by assumption) (by assumption))
        (first
          | (go_at_call 8; refine (known_any _).mono ?_; rintro e u0 ⟨rfl, hu0⟩)
          | (go_at_call 15; refine (cvalid_is cap Q _ _ HVV.out _ (HCX.out _ (by first | exact Below.refl _ _ | exact Below.drew (Below.refl _ _) | assumption | exact Below.drew (by assumption)))).mono ?_; rintro e u1 ⟨rfl, hu1⟩)
          | (go_at_call 16; refine (crvalid_is cap Q _ _ HVV.out _ (HCX.out _ (by first | exact Below.refl _ _ | exact Below.drew (Below.refl _ _) | assumption | exact Below.drew (by assumption)))).mono ?_; rintro e u2 ⟨rfl, hu2⟩)
          | (go_at_call 17; (with_reducible refine (same_s (cap := cp1) HS1.out ?_ ?_).mono ?_); (exact HCz1.out.go (by first | exact Below.refl _ _ | exact Below.drew (Below.refl _ _) | assumption | exact Below.drew (by assumption))); (exact HCz2.out.go (by first | exact Below.refl _ _ | exact Below.drew (Below.refl _ _) | assumption | exact Below.drew (by assumption))); rintro e v1 ⟨rfl, hv1⟩)
          | (go_at_call 17; (with_reducible refine (same_s (cap := cp2) HS2.out.1 ?_ ?_).mono ?_); (exact HCz3.out.go (by first | exact Below.refl _ _ | exact Below.drew (Below.refl _ _) | assumption | exact Below.drew (by assumption))); (exact HCz4.out.go (by first | exact Below.refl _ _ | exact Below.drew (Below.refl _ _) | assumption | exact Below.drew (by assumption))); rintro e v3 ⟨rfl, hv3⟩)
          | (go_at_call 17; (with_reducible refine (same_s (cap := cp3) HS3.out ?_ ?_).mono ?_); (exact HCz5.out.go (by first | exact Below.refl _ _ | exact Below.drew (Below.refl _ _) | assumption | exact Below.drew (by assumption))); (exact HCz6.out.go (by first | exact Below.refl _ _ | exact Below.drew (Below.refl _ _) | assumption | exact Below.drew (by assumption))); rintro e v5 ⟨rfl, hv5⟩)
          | (go_at_call 18; (with_reducible refine (sameInts_b HS2.out.2 ?_ ?_).mono ?_); (exact HRz3.out.go (by first | exact Below.refl _ _ | exact Below.drew (Below.refl _ _) | assumption | exact Below.drew (by assumption))); (exact HRz4.out.go (by first | exact Below.refl _ _ | exact Below.drew (Below.refl _ _) | assumption | exact Below.drew (by assumption))); rintro e u7 ⟨rfl, hu7⟩))
      go_wp2
      go_ret
      refine ⟨rfl, below_end ?_ HBz.out⟩
      assumption
end Go.Proofs.Ytpfhnpmcfjfmiaa
