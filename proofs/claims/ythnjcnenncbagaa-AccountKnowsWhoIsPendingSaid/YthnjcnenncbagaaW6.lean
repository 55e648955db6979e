/- Add and Valid, each under one name for every input; the sanity check of law 16. -/
import Derived.Test.YthnjcnenncbagaaW4
import Derived.Test.YthnjcnenncbagaaW5
namespace Go.Proofs.Ythnjcnenncbagaa
open Go.RowKit

/-- what Add returns -/
def addV (s m r b : Int) (p ch af : Nat) : Value :=
  if Pl.valid s m r b p = false then .tuple #[cnt 0 0 0 0 0, .int .i64 7]
  else if ch = 0 ∨ ¬ (ch < 16777216 ∧ af < 16777216) then .tuple #[cnt 0 0 0 0 0, .int .i64 11]
  else if s = 4096 then .tuple #[cnt 0 0 0 0 0, .int .i64 3]
  else if Pl.rest p ch af = 0 then .tuple #[cnt (s + 1) (m + Pl.pop ch) (r + 1) (r + 1) af, .int .i64 0]
  else .tuple #[cnt (s + 1) (m + Pl.pop ch) r (r + 1) (Pl.rest p ch af), .int .i64 0]

theorem valid_any (s m r b : Int) (p : Nat) (hp : p < 4294967296) (w : World) :
    Calls Try.prog 11 #[cnt s m r b p] w fun e w' => e = .returned (.bool (Pl.valid s m r b p)) ∧ Below w.heap.size w w' := by
  cases h : Pl.valid s m r b p
  · exact valid_no s m r b p hp h w
  · exact valid_yes s m r b p hp h w
theorem rvalid_any (s m r b : Int) (p : Nat) (hp : p < 4294967296) (hb : b ≤ 9223372036854775807) (w : World) :
    Calls Try.prog 12 #[cnt s m r b p] w fun e w' => e = .returned (.bool (Pl.valid s m r b p)) ∧ Below w.heap.size w w' := by
  cases h : Pl.valid s m r b p
  · exact rvalid_no s m r b p hp hb h w
  · exact rvalid_yes s m r b p hp h w
theorem add_any (s m r b : Int) (p ch af : Nat) (hp : p < 4294967296) (hc : ch < 4294967296) (ha : af < 4294967296) (w : World) :
    Calls Try.prog 8 #[cnt s m r b p, .int .u32 ch, .int .u32 af] w fun e w' => e = .returned (addV s m r b p ch af) ∧ Below w.heap.size w w' := by
  unfold addV
  split
  · exact add_form s m r b p ch af hp ‹_› w
  · have hv : Pl.valid s m r b p = true := by simpa using ‹¬ Pl.valid s m r b p = false›
    have hv' := (Pl.valid_true hv).2.2.2.2.1
    split
    · by_cases h0 : ch = 0
      · exact add_none s m r b p ch af hp hv h0 w
      · exact add_wide s m r b p ch af hp hv (by omega) hc ha (by omega) w
    · split
      · exact add_limit s m r b p ch af hp hv (by omega) (by omega) (by omega) ‹_› w
      · split
        · exact add_done s m r b p ch af hp hv (by omega) (by omega) (by omega) (by omega) ‹_› w
        · exact add_more s m r b p ch af hp hv (by omega) (by omega) (by omega) (by omega) ‹_› w
theorem radd_any (s m r b : Int) (p ch af : Nat) (hp : p < 4294967296) (hb : b ≤ 9223372036854775807) (hc : ch < 4294967296) (ha : af < 4294967296) (w : World) :
    Calls Try.prog 9 #[cnt s m r b p, .int .u32 ch, .int .u32 af] w fun e w' => e = .returned (addV s m r b p ch af) ∧ Below w.heap.size w w' := by
  unfold addV
  split
  · exact radd_form s m r b p ch af hp hb ‹_› w
  · have hv : Pl.valid s m r b p = true := by simpa using ‹¬ Pl.valid s m r b p = false›
    have hv' := (Pl.valid_true hv).2.2.2.2.1
    split
    · by_cases h0 : ch = 0
      · exact radd_none s m r b p ch af hp hv h0 w
      · exact radd_wide s m r b p ch af hp hv (by omega) hc ha (by omega) w
    · split
      · exact radd_limit s m r b p ch af hp hv (by omega) (by omega) (by omega) ‹_› w
      · split
        · exact radd_done s m r b p ch af hp hv (by omega) (by omega) (by omega) (by omega) ‹_› w
        · exact radd_more s m r b p ch af hp hv (by omega) (by omega) (by omega) (by omega) ‹_› w

theorem below_step {W0 W w' : World} (h2 : Below W.heap.size W w') (h1 : Below W0.heap.size W0 W) : Below W0.heap.size W0 w' := h1.trans (h2.mono h1.size)
theorem below_rule (W0 : World) : ∀ x, Below W0.heap.size W0 x → ∀ b o, b < W0.heap.size → x.cell? ⟨b, o, none⟩ = W0.cell? ⟨b, o, none⟩ :=
  fun _ h b o hb => h.cell (p := ⟨b, o, none⟩) hb

set_option maxHeartbeats 4000000 in
theorem awake_any (w : World) : Calls Try.prog 10 #[] w fun e w' => e = .returned (.bool true) ∧ Below w.heap.size w w' := by
  have a1 : addV 0 0 0 0 3 1 2 = .tuple #[cnt 1 1 0 1 2, .int .i64 0] := by
    unfold addV
    rw [if_neg (by decide +kernel), if_neg (by decide), if_neg (by decide), if_neg (by decide +kernel)]
    rfl
  have a2 : addV 1 1 0 1 2 2 0 = .tuple #[cnt 2 2 1 1 0, .int .i64 0] := by
    unfold addV
    rw [if_neg (by decide +kernel), if_neg (by decide), if_neg (by decide), if_pos (by decide +kernel)]
    rfl
  have A1 := Lib.hid a1
  have A2 := Lib.hid a2
  clear a1 a2
  go_enter Try.func10, Try.ntmps10
  go_wp2_with fail
  refine (begin_any 3 (by decide) _).mono ?_
  rintro e w1 ⟨rfl, hb1⟩
  go_wp2_with fail
  refine (add_any 0 0 0 0 3 1 2 (by decide) (by decide) (by decide) _).mono ?_
  rintro e w2 ⟨rfl, hb2⟩
  rw [A1.out]
  unfold cnt
  go_wp2_with fail
  refine (add_any 1 1 0 1 2 2 0 (by decide) (by decide) (by decide) _).mono ?_
  rintro e w3 ⟨rfl, hb3⟩
  rw [A2.out]
  unfold cnt
  have bp := (Blk.new _ _ _).below hb3 (by simp)
  obtain ⟨p0, p1, p2, p3, p4, pf⟩ := blk5 bp
  have hn := bp.lt
  have hB := Lib.hid (below_step (below_step hb2 hb1) (Below.refl _ _) |>.alloc (Nat.le_trans hb1.size hb2.size) _ |>.trans (hb3.mono (by simp only [World.size_alloc]; have := Nat.le_trans hb1.size hb2.size; omega)))
  have hz := Nat.le_trans (Nat.le_trans hb1.size hb2.size) (Nat.le_of_lt hn)
  clear hb1 hb2 hb3
  go_wp2
  go_ret
  refine ⟨rfl, ?_⟩
  have hBo := hB.out
  exact hBo.alloc hz _
end Go.Proofs.Ythnjcnenncbagaa
