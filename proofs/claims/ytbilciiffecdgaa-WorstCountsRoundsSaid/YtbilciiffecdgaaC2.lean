/- ref18.arcs: the walk over one state's arcs, as the reference has it. -/
import Derived.Test.YtbilciiffecdgaaC1
namespace Go.Proofs.Ytbilciiffecdgaa
open Go.RowKit

/-- the set of the arc before place k -/
def prevSet (l : List Arc) : Nat → Nat
  | 0 => 0
  | k + 1 => (l.getD k (0, 0)).1

theorem iff_beq (en m : Nat) : (!decide (0 < m) == ((en : Int) != 0)) = !decide (en ≠ 0 ↔ 0 < m) := by
  by_cases h1 : en = 0 <;> by_cases h2 : 0 < m
  · simp [h1, h2]
  · simp [h1, h2]
  · have h3 : ((en : Int) != 0) = true := by rw [bne_iff_ne]; omega
    simp [h1, h2, h3]
  · have h3 : ((en : Int) != 0) = true := by rw [bne_iff_ne]; omega
    simp [h1, h2, h3]

theorem rowOk_no (en n b : Nat) (l : List Arc) (k : Nat) (h : k < l.length) (hno : ¬ (b < l[k].1 ∧ l[k].1 &&& (4294967295 - en) = 0 ∧ 0 ≤ l[k].2 ∧ l[k].2 < n)) : PlS.rowOk en n b (l.drop k) = false := by
  rw [PlS.rowOk_drop en n b l k h, decide_eq_false hno]; rfl
theorem rowOk_yes (en n b : Nat) (l : List Arc) (k : Nat) (h : k < l.length) (hy : b < l[k].1 ∧ l[k].1 &&& (4294967295 - en) = 0 ∧ 0 ≤ l[k].2 ∧ l[k].2 < n) : PlS.rowOk en n b (l.drop k) = PlS.rowOk en n l[k].1 (l.drop (k + 1)) := by
  rw [PlS.rowOk_drop en n b l k h, decide_eq_true hy]; rfl

theorem in_is (x a b : Int) (v : Bool) (h : (decide (a ≤ x) && decide (x ≤ b)) = v) (w : World) : Calls Try.prog 44 #[.int .i64 x, .int .i64 a, .int .i64 b] w fun e w' => e = .returned (.bool v) ∧ w = w' := by
  rw [← h]; exact in_any x a b w

set_option maxHeartbeats 2000000 in
theorem rarcs_any (en n : Nat) (hen : en < 4294967296) (hn : n ≤ 1000000) (l : List Arc) (hl : l.length ≤ 1000000) (hs : ∀ k (h : k < l.length), l[k].1 < 4294967296) (A : Option Addr) (c : Nat) (w : World) (hr : Reads w w.heap.size 2 A l.length (l.flatMap arcCells)) :
    Calls Try.prog 47 #[.slice A l.length c, .int .u32 en, .int .i64 n] w fun e w' => e = .returned (.bool (decide (en ≠ 0 ↔ 0 < l.length) && PlS.rowOk en n 0 l)) ∧ ∃ d, w' = w.drewN d := by
  have HR := Lib.hid hr
  have HS := Lib.hid hs
  clear hr hs
  have HI := Lib.hid (iff_beq en l.length)
  by_cases h2 : (en ≠ 0 ↔ 0 < l.length)
  · have t0 : (!decide (0 < l.length) == ((en : Int) != 0)) = false := by rw [HI.out, decide_eq_true h2]; rfl
    have HF := Lib.hid (show (decide (en ≠ 0 ↔ 0 < l.length) && PlS.rowOk en n 0 l) = PlS.rowOk en n 0 l by rw [decide_eq_true h2]; rfl)
    clear h2
    go_enter Try.func47, Try.ntmps47
    go_wp2
    go_loopw [7] (fun i wr => ∃ k d : Nat, k ≤ l.length ∧ i = .int .i64 k ∧ PlS.rowOk en n (prevSet l k) (l.drop k) = PlS.rowOk en n 0 l ∧ wr = w.drewN d) (fun i _ => l.length - (intOf i).toNat)
    case atStart => exact ⟨0, 0, Nat.zero_le _, rfl, rfl, rfl⟩
    case round =>
      obtain ⟨k, d, hk, rfl, hq, rfl⟩ := hrel
      have HQ := Lib.hid hq
      clear hq t0
      by_cases hlt : k < l.length
      · obtain ⟨ad, rfl, hblk, c0, c1⟩ := arc_at HR.out hlt
        have hx := HS.out k hlt
        have HN := Lib.hid (rowOk_no en n (prevSet l k) l k hlt)
        have HY := Lib.hid (rowOk_yes en n (prevSet l k) l k hlt)
        have HPS := Lib.hid (show prevSet l (k + 1) = l[k].1 by simp [prevSet, List.getD_eq_getElem?_getD, List.getElem?_eq_getElem hlt])
        generalize l[k] = x at *
        obtain ⟨xs, xt⟩ := x
        dsimp only at c0 c1 hx HN HY HPS
        have ea := u32_andNot_nat xs en hx hen
        have k0 : (0 : Int) ≤ (k : Int) := by omega
        have k1 : (k : Int) < (l.length : Int) := by omega
        have n1 := IntWalk.i64_in ((n : Int) - 1) (by omega)
        generalize hq : xs &&& (4294967295 - en) = q at *
        clear hq
        by_cases z1 : xs = 0
        · have t1 : ((xs : Int) == 0) = true := by simp [z1]
          have HN' := Lib.hid (HN.out (by omega))
          go_wp2_with fail
          go_quiet (fail)
          go_wp2
          go_ret
          exact ⟨ret_bool (by rw [HF.out, ← HQ.out, HN'.out]), d + nq, by first | rfl | rw [World.drewN_drewN]⟩
        · have t1 : ((xs : Int) == 0) = false := beq_eq_false_iff_ne.2 (by omega)
          by_cases z2 : q = 0
          · have t2 : ((q : Int) != 0) = false := by simp [z2]
            have HQZ := Lib.hid z2
            clear z2
            rcases Nat.eq_zero_or_pos k with z3 | z3
            case' inl =>
              have t3 : decide ((0 : Int) < (k : Int)) = false := by simp; omega
              have t3' : decide (0 < k) = false := by simp; omega
              have hb : prevSet l k < xs := by rw [z3]; show 0 < xs; omega
              clear z3
            case' inr =>
              have t3 : decide ((0 : Int) < (k : Int)) = true := by simp; omega
              have t3' : decide (0 < k) = true := by simp; omega
              have hps : prevSet l k = l[k - 1].1 := by
                obtain ⟨j, rfl⟩ : ∃ j, k = j + 1 := ⟨k - 1, by omega⟩
                simp [prevSet, List.getD_eq_getElem?_getD, List.getElem?_eq_getElem (show j < l.length by omega)]
              obtain ⟨ad', hA, -, c2, -⟩ := arc_at HR.out (show k - 1 < l.length by omega)
              obtain rfl : ad = ad' := by injection hA
              clear hA
              have hx' := HS.out (k - 1) (by omega)
              generalize l[k - 1] = y at *
              obtain ⟨ys, yt⟩ := y
              dsimp only at c2 hx' hps
              have kk1 := IntWalk.i64_in ((k : Int) - 1) (by omega)
              have kk2 : (0 : Int) ≤ (k : Int) - 1 := by omega
              have kk3 : (k : Int) - 1 < (l.length : Int) := by omega
              have kk4 : ((k : Int) - 1).toNat = k - 1 := by omega
              have kk5 : (1 : Int) ≤ (k : Int) := by omega
              have kk6 : 1 ≤ k := by omega
              have HPP := Lib.hid hps
              clear hps
              by_cases z4 : xs ≤ ys
              · have t4 : decide ((xs : Int) ≤ (ys : Int)) = true := by simp; omega
                have t4' : decide (xs ≤ ys) = true := by simp; omega
                have HN' := Lib.hid (HN.out (by rw [HPP.out]; omega))
                go_wp2_with fail
                go_quiet (fail)
                go_wp2
                go_ret
                exact ⟨ret_bool (by rw [HF.out, ← HQ.out, HN'.out]), d + nq, by first | rfl | rw [World.drewN_drewN]⟩
              have t4 : decide ((xs : Int) ≤ (ys : Int)) = false := by simp; omega
              have t4' : decide (xs ≤ ys) = false := by simp; omega
              have hb : prevSet l k < xs := by rw [HPP.out]; omega
              clear HPP
            all_goals
              have HB := Lib.hid hb
              clear hb
              cases z5 : (decide ((0 : Int) ≤ xt) && decide (xt ≤ (n : Int) - 1))
              · have HN' := Lib.hid (HN.out (by rintro ⟨-, -, a3, a4⟩; rw [decide_eq_true a3, decide_eq_true (show xt ≤ (n : Int) - 1 by omega)] at z5; cases z5))
                have HZ := Lib.hid z5
                clear z5
                go_wp2_with fail
                go_quiet ((go_at_call 44; with_reducible exact quiet_add_left (in_is _ _ _ _ HZ.out _)))
                go_wp2
                go_ret
                exact ⟨ret_bool (by rw [HF.out, ← HQ.out, HN'.out]), d + nq, by first | rfl | rw [World.drewN_drewN]⟩
              · have HY' := Lib.hid (HY.out (by simp at z5; exact ⟨HB.out, HQZ.out, by omega, by omega⟩))
                have HZ := Lib.hid z5
                clear z5
                go_wp2_with fail
                go_quiet ((go_at_call 44; with_reducible exact quiet_add_left (in_is _ _ _ _ HZ.out _)))
                go_wp2
                refine ⟨⟨k + 1, d + nq, by omega, by go_num, by rw [HPS.out, ← HQ.out, HY'.out], by first | rfl | rw [World.drewN_drewN]⟩, by simp [intOf]; omega⟩
          · have t2 : ((q : Int) != 0) = true := by rw [bne_iff_ne]; omega
            have HN' := Lib.hid (HN.out (by omega))
            go_wp2_with fail
            go_quiet (fail)
            go_wp2
            go_ret
            exact ⟨ret_bool (by rw [HF.out, ← HQ.out, HN'.out]), d + nq, by first | rfl | rw [World.drewN_drewN]⟩
      · go_wp2
        go_ret
        refine ⟨ret_bool ?_, _, rfl⟩
        rw [HF.out, ← HQ.out, List.drop_of_length_le (by omega)]
        rfl
  · have t0 : (!decide (0 < l.length) == ((en : Int) != 0)) = true := by rw [HI.out, decide_eq_false h2]; rfl
    have HF := Lib.hid (show (decide (en ≠ 0 ↔ 0 < l.length) && PlS.rowOk en n 0 l) = false by rw [decide_eq_false h2]; rfl)
    clear h2
    go_enter Try.func47, Try.ntmps47
    go_wp2
    go_ret
    exact ⟨ret_bool HF.out.symm, 0, rfl⟩
end Go.Proofs.Ytbilciiffecdgaa
