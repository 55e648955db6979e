/- In, and the walks over one state's arcs: space.valid, ref18.arcs. -/
import Derived.Test.YtbilciiffecdgaaS
import Derived.Test.YtbilciiffecdgaaPlS
import Derived.Test.YtbilciiffecdgaaRows
namespace Go.Proofs.Ytbilciiffecdgaa
open Go.RowKit

set_option maxHeartbeats 400000 in
theorem in_any (x a b : Int) (w : World) : Calls Try.prog 44 #[.int .i64 x, .int .i64 a, .int .i64 b] w fun e w' => e = .returned (.bool (decide (a ≤ x) && decide (x ≤ b))) ∧ w = w' := by
  go_enter Try.func44, Try.ntmps44
  go_wp2
  all_goals (go_ret; exact ⟨ret_bool (by simp; omega), rfl⟩)

set_option maxHeartbeats 2000000 in
theorem svalid_any (en n : Nat) (hen : en < 4294967296) (_hn : n ≤ 1000000) (l : List Arc) (hl : l.length ≤ 1000000) (hs : ∀ k (h : k < l.length), l[k].1 < 4294967296) (A : Option Addr) (c : Nat) (w : World) (hr : Reads w w.heap.size 2 A l.length (l.flatMap arcCells)) :
    Calls Try.prog 60 #[.int .u32 en, .slice A l.length c, .int .i64 n] w fun e w' => e = .returned (.bool (PlS.stateOk en n l)) ∧ Below w.heap.size w w' := by
  have HR := Lib.hid hr
  have HS := Lib.hid hs
  clear hr hs
  by_cases h1 : en < 16777216
  · have d1 : (en : Int) / 16777216 = 0 := by omega
    by_cases h2 : (en ≠ 0 ↔ 0 < l.length)
    · have e1 : (!((en : Int) != 0) == decide (0 < l.length)) = false := by
        rcases Nat.eq_zero_or_pos en with h | h
        · have h3 : ¬ 0 < l.length := by rw [← h2]; simp [h]
          simp [h, h3]
        · have h3 : 0 < l.length := h2.1 (by omega)
          have h4 : ((en : Int) != 0) = true := by rw [bne_iff_ne]; omega
          simp [h3, h4]
      have HF := Lib.hid (show PlS.stateOk en n l = PlS.rowOk en n 0 l by unfold PlS.stateOk; rw [decide_eq_true ⟨h1, h2⟩]; rfl)
      clear h2
      go_enter Try.func60, Try.ntmps60
      go_wp2
      go_loopw [7, 23] (fun bs i wr => ∃ (k b : Nat), k ≤ l.length ∧ b < 4294967296 ∧ bs = .int .u32 b ∧ i = .int .i64 k ∧ PlS.rowOk en n b (l.drop k) = PlS.rowOk en n 0 l ∧ Below w.heap.size w wr) (fun _ i _ => l.length - (intOf i).toNat)
      case atStart => exact ⟨0, 0, Nat.zero_le _, by decide, rfl, rfl, rfl, Below.refl _ _⟩
      case round =>
        obtain ⟨k, b, hk, hb, rfl, rfl, hq, hB⟩ := hrel
        have HQ := Lib.hid hq
        have HB := Lib.hid hB
        have hsz := hB.size
        clear hq hB
        by_cases hlt : k < l.length
        · obtain ⟨ad, rfl, hblk, c0, c1⟩ := arc_at (HR.out.below HB.out) hlt
          have hx := HS.out k hlt
          have HD := Lib.hid (PlS.rowOk_drop en n b l k hlt)
          generalize l[k] = x at *
          obtain ⟨xs, xt⟩ := x
          dsimp only at c0 c1 hx
          have ea := u32_andNot_nat xs en hx hen
          have k0 : (0 : Int) ≤ (k : Int) := by omega
          have k1 : (k : Int) < (l.length : Int) := by omega
          go_wp2
          case roundEnd =>
            have hc : b < xs ∧ xs &&& (4294967295 - en) = 0 ∧ 0 ≤ xt ∧ xt < n := ⟨by omega, by assumption, by omega, by omega⟩
            refine ⟨⟨k + 1, xs, by omega, hx, rfl, by go_num, ?_, HB.out.alloc hsz _⟩, by simp [intOf]; omega⟩
            rw [← HQ.out, HD.out, decide_eq_true hc]
            rfl
          all_goals
            go_ret
            refine ⟨ret_bool ?_, HB.out.alloc hsz _⟩
            rw [HF.out, ← HQ.out, HD.out, decide_eq_false (by rintro ⟨a1, a2, a3, a4⟩; first | omega | contradiction)]
            rfl
        · go_wp2
          go_ret
          refine ⟨ret_bool ?_, HB.out⟩
          rw [HF.out, ← HQ.out, List.drop_of_length_le (by omega)]
          rfl
    · have e1 : (!((en : Int) != 0) == decide (0 < l.length)) = true := by
        rcases Nat.eq_zero_or_pos en with h | h
        · have h3 : 0 < l.length := by
            rcases Nat.eq_zero_or_pos l.length with h' | h'
            · exact absurd (by simp [h, h']) h2
            · exact h'
          simp [h, h3]
        · have h3 : ¬ 0 < l.length := fun h' => h2 ⟨fun _ => h', fun _ => by omega⟩
          have h4 : ((en : Int) != 0) = true := by rw [bne_iff_ne]; omega
          simp [h3, h4]
      have HF := Lib.hid (show PlS.stateOk en n l = false by unfold PlS.stateOk; rw [decide_eq_false (fun h => h2 h.2)]; rfl)
      clear h2
      go_enter Try.func60, Try.ntmps60
      go_wp2
      go_ret
      exact ⟨ret_bool HF.out.symm, Below.refl _ _⟩
  · have d1 : ((en : Int) / 16777216 != 0) = true := by rw [bne_iff_ne]; omega
    have HF := Lib.hid (show PlS.stateOk en n l = false by unfold PlS.stateOk; rw [decide_eq_false (fun h => h1 h.1)]; rfl)
    go_enter Try.func60, Try.ntmps60
    go_wp2
    go_ret
    exact ⟨ret_bool HF.out.symm, Below.refl _ _⟩
end Go.Proofs.Ytbilciiffecdgaa
