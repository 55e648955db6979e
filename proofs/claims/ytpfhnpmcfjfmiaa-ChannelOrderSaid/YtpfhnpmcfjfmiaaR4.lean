/- ref41.Receive. -/
import Derived.Test.YtpfhnpmcfjfmiaaR3
namespace Go.Proofs.Ytpfhnpmcfjfmiaa
open Go.RowKit

/-- a channel that may share memory with the old one, an item, and a bool -/
def RefRecv (N : Nat → Prop) (w : World) (cap : Int) (Q : List (List Int)) (q : List Int) (b : Bool) (e : Ending) (w' : World) : Prop :=
  ∃ v u, e = .returned (.tuple #[v, u, .bool b]) ∧ ChanOff N w' v cap Q ∧ CapOk v ∧ IntsOff N w' u q ∧ Below w.heap.size w w'
theorem ints_nil (N : Nat → Prop) (w : World) : IntsOff N w (.slice none 0 0) [] := ⟨none, 0, rfl, Reads.none_, fun _ ad e => by cases e⟩
theorem rlose0 (N : Nat → Prop) (cap : Int) (Q : List (List Int)) (hv : vldC cap Q = true) (ha : 0 < Q.length) (v : Value) (w : World) (hN : ∀ b, N b → b < w.heap.size) (hC : ChanOff N w v cap Q) (hcp : CapOk v) :
    Calls Try.prog 14 #[v, .int .i64 0] w (RefPost N w cap (Q.eraseIdx 0) true) := rlose_ok N cap Q hv 0 ha v w hN hC hcp

set_option maxHeartbeats 1000000 in
theorem rrecv_bad (N : Nat → Prop) (cap : Int) (Q : List (List Int)) (hv : vldC cap Q = false) (v : Value) (w : World) (hO : ChanOff N w v cap Q) :
    Calls Try.prog 12 #[v] w (RefRecv N w 0 [] [] false) := by
  have hC := hO.at
  clear hO
  have HC := Lib.hid hC
  obtain ⟨vq, rfl, A, c, rows, rfl, hr, hk⟩ := hC
  have HV := Lib.hid hv
  clear hr hk hv
  obtain ⟨b0, b1, hB0⟩ := two_new w 24 24 #[.int .i64 cap, .slice A Q.length c] #[.int .i64 0, .slice none 0 0]
  have HB0 := Lib.hid hB0
  clear hB0
  go_enter Try.func12, Try.ntmps12
  go_wp2_with fail
  refine (crvalid_is cap Q _ false HV.out _ (HC.out.go HB0.out)).mono ?_
  rintro e w1 ⟨rfl, hb1⟩
  have HB1 := Lib.hid (below_end hb1 HB0.out)
  have b11 := b1.below hb1 b1.lt
  obtain ⟨q0, q1, qf⟩ := blk2 b11
  clear hb1 b0 b1 b11
  go_wp2
  refine bodyPost_ret (v := .tuple #[.agg #[.int .i64 0, .slice none 0 0], .slice none 0 0, .bool false]) ?_ rfl ⟨_, _, rfl, coff_nil, CapOk.mk (Nat.le_refl _), ints_nil _ _, ?_⟩
  · simp [results, Try.results12, go_sem, q0, q1]
  · exact (HB1.out.setCell (by simp) _).setCell (by simp) _

set_option maxHeartbeats 1000000 in
theorem rrecv_none (N : Nat → Prop) (cap : Int) (hv : vldC cap [] = true) (v : Value) (w : World) (hO : ChanOff N w v cap []) (hcp : CapOk v) :
    Calls Try.prog 12 #[v] w (RefRecv N w cap [] [] false) := by
  have HO := Lib.hid hO
  have hC := hO.at
  clear hO
  have HC := Lib.hid hC
  obtain ⟨vq, rfl, A, c, rows, rfl, hr, hk⟩ := hC
  have HV := Lib.hid hv
  have HCP := Lib.hid hcp
  clear hr hk hv hcp
  simp only [List.length_nil] at HC HO HCP ⊢
  obtain ⟨b0, b1, hB0⟩ := two_new w 24 24 #[.int .i64 cap, .slice A 0 c] #[.int .i64 0, .slice none 0 0]
  have HB0 := Lib.hid hB0
  clear hB0
  go_enter Try.func12, Try.ntmps12
  go_wp2_with fail
  refine (crvalid_is cap [] _ true HV.out _ (HC.out.go HB0.out)).mono ?_
  rintro e w1 ⟨rfl, hb1⟩
  have HB1 := Lib.hid (below_end hb1 HB0.out)
  have b01 := b0.below hb1 b0.lt
  have b11 := b1.below hb1 b1.lt
  obtain ⟨p0, p1, pf⟩ := blk2 b01
  obtain ⟨q0, q1, qf⟩ := blk2 b11
  have HB2 := Lib.hid ((HB1.out.setCell (p := ⟨w.heap.size + 1, 0, none⟩) (by simp) (.int .i64 cap)).setCell (p := ⟨w.heap.size + 1, 1, none⟩) (by simp) (.slice A 0 c))
  clear hb1 b0 b1 b11 b01
  go_wp2
  refine bodyPost_ret (v := .tuple #[.agg #[.int .i64 cap, .slice A 0 c], .slice none 0 0, .bool false]) ?_ rfl ⟨_, _, rfl, HO.out.go (.of_below HB2.out), HCP.out, ints_nil _ _, HB2.out⟩
  simp [results, Try.results12, go_sem, q0, q1]

theorem chan_form {w : World} {B : Nat} {v : Value} {cap : Int} {Q : List (List Int)} (h : ChanAt w B v cap Q) : ∃ (A : Option Addr) (c : Nat), v = .agg #[.int .i64 cap, .slice A Q.length c] := by
  obtain ⟨vi, rfl, A, c, rows, rfl, _⟩ := h
  exact ⟨A, c, rfl⟩

set_option maxHeartbeats 2000000 in
theorem rrecv_some (N : Nat → Prop) (cap : Int) (q : List Int) (Q' : List (List Int)) (hv : vldC cap (q :: Q') = true) (v : Value) (w : World) (hN : ∀ b, N b → b < w.heap.size) (hO : ChanOff N w v cap (q :: Q')) (hcp : CapOk v) :
    Calls Try.prog 12 #[v] w (RefRecv N w cap Q' q true) := by
  obtain ⟨Q, hQ⟩ : ∃ Q, Q = q :: Q' := ⟨_, rfl⟩
  rw [← hQ] at hv hO
  have h0 : 0 < Q.length := by rw [hQ]; simp
  have HE := Lib.hid (show Q.eraseIdx 0 = Q' by rw [hQ]; rfl)
  have HQ0 := Lib.hid (show Q[0]? = some q by rw [hQ]; rfl)
  have HQL := Lib.hid (show Q'.length = Q.length - 1 by rw [hQ]; rfl)
  clear hQ
  have HC := Lib.hid hO.at
  have HO := Lib.hid hO
  have HN := Lib.hid hN
  obtain ⟨vq, rfl, A, c, rows, rfl, hro, hko⟩ := hO
  have hr := hro.1
  have HV := Lib.hid hv
  have HCP := Lib.hid hcp
  obtain ⟨u, hu, hiu⟩ := hko 0 q HQ0.out
  have HIU := Lib.hid hiu
  obtain ⟨Ak, ck, rfl, -⟩ := hiu
  obtain ⟨ad, hA, hab, hcell⟩ := hr.2 h0
  subst hA
  have c0 := hcell 0 _ hu
  rw [show ad.add 0 = ad by cases ad; simp [Addr.add]] at c0
  have CZ := Lib.hid c0
  obtain ⟨v1, v2, v3, v4⟩ := vldC_parts hv
  clear hr hko hro hN hv hcp hcell hu v4 c0
  obtain ⟨b0, b1, hB0⟩ := two_new w 24 24 #[.int .i64 cap, .slice (some ad) Q.length c] #[.int .i64 0, .slice none 0 0]
  have HB0 := Lib.hid hB0
  clear hB0
  have t0 : ((Q.length : Int) == 0) = false := beq_eq_false_iff_ne.2 (by omega)
  go_enter Try.func12, Try.ntmps12
  go_wp2_with fail
  refine (crvalid_is cap Q _ true HV.out _ (HC.out.go HB0.out)).mono ?_
  rintro e w1 ⟨rfl, hb1⟩
  have HB1 := Lib.hid (below_end hb1 HB0.out)
  have b01 := b0.below hb1 b0.lt
  have b11 := b1.below hb1 b1.lt
  clear hb1 b0 b1
  obtain ⟨p0, p1, pf⟩ := blk2 b01
  go_wp2_with fail
  refine (rlose0 (fun b => N b ∨ b = w.heap.size + 1) cap Q HV.out h0 _ _ (fun b hb => by rcases hb with hb | hb; exact Nat.lt_of_lt_of_le (HN.out b hb) HB1.out.size; rw [hb]; exact b11.lt) ((HO.out.less fun b hb hn => by rcases hn with hn | hn; exact hn; omega).go (.of_below HB1.out)) HCP.out).mono ?_
  rw [HE.out]
  rintro e w2 ⟨vy, rfl, hcy, hpy, hb2⟩
  have HB2 := Lib.hid (below_end hb2 HB1.out)
  have b02 := b01.below hb2 b01.lt
  have b12 := b11.below hb2 b11.lt
  have HCY := Lib.hid hcy
  have HPY := Lib.hid hpy
  obtain ⟨Ay, cy, rfl⟩ := chan_form hcy.at
  clear hb2 p0 p1 pf b01 b11 hcy hpy
  go_upto_region 6 with fail
  generalize hW : World.alloc _ _ = W3
  have b03 : Blk W3 w.heap.size 24 #[.int .i64 cap, .slice (some ad) Q.length c] := by rw [← hW]; exact b02.alloc _
  have b13 : Blk W3 (w.heap.size + 1) 24 #[.int .i64 0, .slice none 0 0] := by rw [← hW]; exact b12.alloc _
  have by3 : Blk W3 w2.heap.size 24 #[.int .i64 cap, .slice Ay Q'.length cy] := by rw [← hW]; exact Blk.new _ _ _
  have HB3 := Lib.hid (show Below w.heap.size w W3 by rw [← hW]; exact HB2.out.alloc HB2.out.size _)
  have hs3 : w.heap.size + 1 < w2.heap.size := b12.lt
  clear b02 b12
  have HK3 := Lib.hid (show Kept (fun b => N b ∨ b = w.heap.size + 1) w2 W3 by rw [← hW]; exact .of_below ((Below.refl _ _).alloc (Nat.le_refl _) _))
  clear hW
  obtain ⟨p0, p1, pf⟩ := blk2 b03
  obtain ⟨q0, q1, qf⟩ := blk2 b13
  obtain ⟨y0, y1, yf⟩ := blk2 by3
  have cz := (HB3.out.cell hab).trans CZ.out
  have l0 := b03.lt
  have l1 := b13.lt
  have l2 := by3.lt
  have l3 : ad.block ≠ w.heap.size + 1 := by omega
  have l4 : w.heap.size ≠ w.heap.size + 1 := by omega
  have l5 : w2.heap.size ≠ w.heap.size + 1 := by omega
  have l6 : ad.block < W3.heap.size := by omega
  have rule := grown_rule W3 (w.heap.size + 1)
  have rule2 := grown_rule2 W3 (w.heap.size + 1)
  have z0 : (0 : Int) < (Q.length : Int) := by omega
  have B13 := Lib.hid b13
  have BY3 := Lib.hid by3
  clear b03 b13 by3
  go_region_held3 (fun x => W3.grownBy x (some (w.heap.size + 1))) (first | exact World.grownBy.refl _ _ | exact grown_drw (World.grownBy.refl _ _) | assumption | exact grown_put (grown_put (by assumption) _ _) _ _) (first | fail)
  clear rule rule2
  have HF := Lib.hid (show RefRecv N w cap Q' q true (.returned (.tuple #[.agg #[.int .i64 cap, .slice Ay Q'.length cy], .slice Ak q.length ck, .bool true])) ((W3.setCell ⟨w.heap.size + 1, 0, none⟩ (.int .i64 cap)).setCell ⟨w.heap.size + 1, 1, none⟩ (.slice Ay Q'.length cy)).drew from by
    have hBF : Below w.heap.size w ((W3.setCell ⟨w.heap.size + 1, 0, none⟩ (.int .i64 cap)).setCell ⟨w.heap.size + 1, 1, none⟩ (.slice Ay Q'.length cy)).drew := ((HB3.out.setCell (by simp) _).setCell (by simp) _).drew
    refine ⟨_, _, rfl, (HCY.out.go ?_).less (fun b _ hb => .inl hb), HPY.out, HIU.out.go (.of_below hBF), hBF⟩
    exact (HK3.out.set (.inl (.inr rfl)) _).set (.inl (.inr rfl)) _)
  go_wp2
  refine bodyPost_ret (v := .tuple #[.agg #[.int .i64 cap, .slice Ay Q'.length cy], .slice Ak q.length ck, .bool true]) ?_ rfl HF.out
  simp [results, Try.results12, go_sem, q0, q1]
end Go.Proofs.Ytpfhnpmcfjfmiaa
