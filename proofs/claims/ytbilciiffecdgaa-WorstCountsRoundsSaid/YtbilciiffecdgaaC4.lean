/- space.Valid: it answers spaceOk. -/
import Derived.Test.YtbilciiffecdgaaC3
import Derived.Deep.RegionHeld3
namespace Go.Proofs.Ytbilciiffecdgaa
open Go.RowKit

theorem svalid_is (en n : Nat) (hen : en < 4294967296) (hn : n ≤ 1000000) (l : List Arc) (hl : l.length ≤ 1000000) (hs : ∀ k (h : k < l.length), l[k].1 < 4294967296) (A : Option Addr) (c : Nat) (b : Bool) (h : PlS.stateOk en n l = b) (w : World) (hr : Reads w w.heap.size 2 A l.length (l.flatMap arcCells)) :
    Calls Try.prog 60 #[.int .u32 en, .slice A l.length c, .int .i64 n] w fun e w' => e = .returned (.bool b) ∧ Below w.heap.size w w' := by
  rw [← h]; exact svalid_any en n hen hn l hl hs A c w hr

set_option maxHeartbeats 2000000 in
theorem valid_any (E : List Nat) (L : List (List Arc)) (v : Value) (hE : WfE E) (hL : WfL L) (w : World) (hS : SpaceAt w w.heap.size v E L) :
    Calls Try.prog 58 #[v] w fun e w' => e = .returned (.bool (PlS.spaceOk E L)) ∧ Below w.heap.size w w' := by
  obtain ⟨ve, va, rfl, ⟨Ae, ce, rfl, re⟩, ⟨Aa, ca, rows, rfl, ra, hk⟩⟩ := hS
  have RE := Lib.hid re
  have RA := Lib.hid ra
  have HK := Lib.hid hk
  have HE := Lib.hid hE
  have HL := Lib.hid hL
  clear re ra hk hE hL
  have HNo := Lib.hid (spaceOk_not E L)
  have HYes := Lib.hid (spaceOk_yes E L)
  by_cases h1 : 1 ≤ E.length ∧ E.length ≤ 32768
  · obtain ⟨h1a, h1b⟩ := h1
    have i1 : decide ((E.length : Int) < 1) = false := by simp; omega
    have i2 : decide ((32768 : Int) < (E.length : Int)) = false := by simp; omega
    by_cases h2 : L.length = E.length
    · have HF := Lib.hid (HYes.out ⟨h1a, h1b, h2⟩)
      have H2 := Lib.hid h2
      have h2' : ((L.length : Int) != (E.length : Int)) = false := by simp [h2]
      clear h2
      go_enter Try.func58, Try.ntmps58
      go_wp2
      generalize hW : World.alloc _ _ = W
      have bs : Blk W w.heap.size 25 #[.slice Ae E.length ce, .slice Aa L.length ca] := by rw [← hW]; exact Blk.new _ _ _
      have hB : Below w.heap.size w W := by rw [← hW]; exact (Below.refl _ _).alloc (Nat.le_refl _) _
      clear hW h2' i1 i2
      go_loopw [4, 23] (fun t i wr => ∃ k tt : Nat, k ≤ E.length ∧ tt ≤ 262144 ∧ i = .int .i64 k ∧ t = .int .i64 tt ∧ PlS.allOk E.length tt (E.drop k) (L.drop k) = PlS.allOk E.length 0 E L ∧
        Blk wr w.heap.size 25 #[.slice Ae E.length ce, .slice Aa L.length ca] ∧ Below w.heap.size w wr) (fun _ i _ => E.length - (intOf i).toNat)
      case atStart => exact ⟨0, 0, Nat.zero_le _, by decide, rfl, rfl, rfl, bs, hB⟩
      case round =>
        clear bs hB
        obtain ⟨k, tt, hk, htt, rfl, rfl, hq, bs, hB⟩ := hrel
        have HQ := Lib.hid hq
        clear hq
        by_cases hlt : k < E.length
        · have hlt' : k < L.length := by have := H2.out; omega
          obtain ⟨ad, Ak, c, rfl, hbl, cr, rk⟩ := row_at (RA.out.below hB) (fun k l hl => let ⟨u, hu, ha⟩ := HK.out k l hl; (⟨u, hu, ha.below hB⟩ : ∃ u, rows[k]? = some u ∧ ArcsAt wr w.heap.size u l)) hlt'
          obtain ⟨ad2, rfl, hbl2, cs⟩ := set_at (RE.out.below hB) hlt
          have HB := Lib.hid hB
          have hsz := bs.lt
          clear hB
          obtain ⟨p0, p1, pf⟩ := blk2 bs
          have rule := below_rule wr
          have rule2 := below_addr wr
          have hb1 : (ad.add k).block < wr.heap.size := by rw [block_of_add]; omega
          have hb2 : (ad2.add k).block < wr.heap.size := by rw [block_of_add]; omega
          have hen := HE.out k hlt
          obtain ⟨hll, hls⟩ := HL.out k hlt'
          have HD := Lib.hid (allOk_drop E.length tt E L k hlt hlt')
          generalize E[k] = en at *
          generalize L[k] = l at *
          have RK := Lib.hid rk
          have HLS := Lib.hid hls
          clear rk hls
          have k0 : (0 : Int) ≤ (k : Int) := by omega
          have k1 : (k : Int) < (E.length : Int) := by omega
          have k2 : (k : Int) < (L.length : Int) := by omega
          by_cases z1 : tt + l.length ≤ 262144
          · have t1 : decide ((262144 : Int) < (tt : Int) + (l.length : Int)) = false := by simp; omega
            have hd1 := HD.out
            rw [decide_eq_true z1, Bool.true_and] at hd1
            cases z3 : PlS.stateOk en E.length l
            · have hd2 := hd1
              rw [z3, Bool.false_and] at hd2
              have HD2 := Lib.hid hd2
              have HZ3 := Lib.hid z3
              clear hd1 hd2 HD z3
              go_wp2_with fail
              go_region_held3 (fun x => Below wr.heap.size wr x) (first | exact Below.refl _ _ | exact Below.drew (Below.refl _ _) | assumption | exact below_step (by assumption) (by assumption))
                ((go_at_call 60; (with_reducible refine (svalid_is en E.length hen (by omega) l (by omega) HLS.out Ak c _ HZ3.out _ ?_).mono ?_); (exact (RK.out.more (Nat.le_of_lt hsz))); rintro e x1 ⟨rfl, hx1⟩))
              go_wp2
              go_ret
              exact ⟨ret_bool (by rw [HF.out, ← HQ.out, HD2.out]), below_end (by assumption) HB.out⟩
            · have hd2 := hd1
              rw [z3, Bool.true_and] at hd2
              have HD2 := Lib.hid hd2
              have HZ3 := Lib.hid z3
              clear hd1 hd2 HD z3
              go_wp2_with fail
              go_region_held3 (fun x => Below wr.heap.size wr x) (first | exact Below.refl _ _ | exact Below.drew (Below.refl _ _) | assumption | exact below_step (by assumption) (by assumption))
                ((go_at_call 60; (with_reducible refine (svalid_is en E.length hen (by omega) l (by omega) HLS.out Ak c _ HZ3.out _ ?_).mono ?_); (exact (RK.out.more (Nat.le_of_lt hsz))); rintro e x1 ⟨rfl, hx1⟩))
              go_wp2
              refine ⟨⟨k + 1, tt + l.length, by omega, z1, by go_num, by go_num, by rw [← HD2.out, HQ.out], ?_, below_end (by assumption) HB.out⟩, by simp [intOf]; omega⟩
              exact bs.below (by assumption) bs.lt
          · have t1 : decide ((262144 : Int) < (tt : Int) + (l.length : Int)) = true := by simp; omega
            have hd1 := HD.out
            rw [decide_eq_false z1, Bool.false_and] at hd1
            have HD1 := Lib.hid hd1
            clear hd1 HD
            go_wp2_with fail
            go_quiet (fail)
            go_wp2
            go_ret
            exact ⟨ret_bool (by rw [HF.out, ← HQ.out, HD1.out]), by repeat (first | exact HB.out | refine below_drewN ?_ _)⟩
        · obtain rfl : k = E.length := by omega
          go_wp2
          go_ret
          refine ⟨ret_bool ?_, hB⟩
          rw [HF.out, ← HQ.out, List.drop_of_length_le (Nat.le_refl _)]
          simp [PlS.allOk]
    · have HF := Lib.hid (HNo.out (by omega))
      have h2' : ((L.length : Int) != (E.length : Int)) = true := by rw [bne_iff_ne]; omega
      go_enter Try.func58, Try.ntmps58
      go_wp2
      go_ret
      exact ⟨ret_bool HF.out.symm, (Below.refl _ _).alloc (Nat.le_refl _) _⟩
  · have HF := Lib.hid (HNo.out (by omega))
    go_enter Try.func58, Try.ntmps58
    go_wp2
    all_goals
      go_ret
      exact ⟨ret_bool HF.out.symm, (Below.refl _ _).alloc (Nat.le_refl _) _⟩
end Go.Proofs.Ytbilciiffecdgaa
