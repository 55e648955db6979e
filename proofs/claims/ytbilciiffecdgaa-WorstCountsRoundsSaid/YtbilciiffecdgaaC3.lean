/- ref18.Valid: it answers spaceOk. -/
import Derived.Test.YtbilciiffecdgaaC2
import Derived.Test.YtbilciiffecdgaaA24
namespace Go.Proofs.Ytbilciiffecdgaa
open Go.RowKit

def WfE (E : List Nat) : Prop := ∀ k (h : k < E.length), E[k] < 4294967296
def WfL (L : List (List Arc)) : Prop := ∀ k (h : k < L.length), L[k].length ≤ 1000000 ∧ ∀ j (h' : j < L[k].length), L[k][j].1 < 4294967296

theorem SpaceAt.go {w w' : World} {v : Value} {E : List Nat} {L : List (List Arc)} (h : SpaceAt w w.heap.size v E L) (hb : Below w.heap.size w w') : SpaceAt w' w'.heap.size v E L := (h.below hb).more hb.size
theorem ArcsAt.go {w w' : World} {v : Value} {l : List Arc} (h : ArcsAt w w.heap.size v l) (hb : Below w.heap.size w w') : ArcsAt w' w'.heap.size v l := (h.below hb).more hb.size
theorem BoolsAt.go {w w' : World} {v : Value} {l : List Bool} (h : BoolsAt w w.heap.size v l) (hb : Below w.heap.size w w') : BoolsAt w' w'.heap.size v l := (h.below hb).more hb.size
theorem Reads.go {w w' : World} {size : Nat} {A : Option Addr} {n : Nat} {xs : List Value} (h : Reads w w.heap.size size A n xs) (hb : Below w.heap.size w w') : Reads w' w'.heap.size size A n xs := (h.below hb).more hb.size

theorem allOk_drop (n t : Nat) (E : List Nat) (L : List (List Arc)) (k : Nat) (h1 : k < E.length) (h2 : k < L.length) :
    PlS.allOk n t (E.drop k) (L.drop k) = (decide (t + L[k].length ≤ 262144) && (PlS.stateOk E[k] n L[k] && PlS.allOk n (t + L[k].length) (E.drop (k + 1)) (L.drop (k + 1)))) := by
  rw [List.drop_eq_getElem_cons h1, List.drop_eq_getElem_cons h2]; rfl
theorem spaceOk_not (E : List Nat) (L : List (List Arc)) (h : ¬ (1 ≤ E.length ∧ E.length ≤ 32768 ∧ L.length = E.length)) : PlS.spaceOk E L = false := by
  unfold PlS.spaceOk; rw [decide_eq_false h]; rfl
theorem spaceOk_yes (E : List Nat) (L : List (List Arc)) (h : 1 ≤ E.length ∧ E.length ≤ 32768 ∧ L.length = E.length) : PlS.spaceOk E L = PlS.allOk E.length 0 E L := by
  unfold PlS.spaceOk; rw [decide_eq_true h]; rfl
theorem stateOk_eq (en n : Nat) (l : List Arc) : PlS.stateOk en n l = (decide (en < 16777216) && (decide (en ≠ 0 ↔ 0 < l.length) && PlS.rowOk en n 0 l)) := by
  unfold PlS.stateOk
  by_cases h1 : en < 16777216 <;> by_cases h2 : (en ≠ 0 ↔ 0 < l.length) <;> simp [h1, h2]

theorem rarcs_is (en n : Nat) (hen : en < 4294967296) (hn : n ≤ 1000000) (l : List Arc) (hl : l.length ≤ 1000000) (hs : ∀ k (h : k < l.length), l[k].1 < 4294967296) (A : Option Addr) (c : Nat) (b : Bool) (h : (decide (en ≠ 0 ↔ 0 < l.length) && PlS.rowOk en n 0 l) = b) (w : World) (hr : Reads w w.heap.size 2 A l.length (l.flatMap arcCells)) :
    Calls Try.prog 47 #[.slice A l.length c, .int .u32 en, .int .i64 n] w fun e w' => e = .returned (.bool b) ∧ ∃ d, w' = w.drewN d := by
  rw [← h]; exact rarcs_any en n hen hn l hl hs A c w hr

set_option maxHeartbeats 2000000 in
theorem rvalid_any (E : List Nat) (L : List (List Arc)) (v : Value) (hE : WfE E) (hL : WfL L) (w : World) (hS : SpaceAt w w.heap.size v E L) :
    Calls Try.prog 27 #[v] w fun e w' => e = .returned (.bool (PlS.spaceOk E L)) ∧ Below w.heap.size w w' := by
  obtain ⟨ve, va, rfl, ⟨Ae, ce, rfl, re⟩, ⟨Aa, ca, rows, rfl, ra, hk⟩⟩ := hS
  have RE := Lib.hid re
  have RA := Lib.hid ra
  have HK := Lib.hid hk
  have HE := Lib.hid hE
  have HL := Lib.hid hL
  clear re ra hk hE hL
  have HNo := Lib.hid (spaceOk_not E L)
  have HYes := Lib.hid (spaceOk_yes E L)
  by_cases h1 : 1 ≤ E.length ∧ E.length ≤ 32768
  · obtain ⟨h1a, h1b⟩ := h1
    have i1 : (decide ((1 : Int) ≤ (E.length : Int)) && decide ((E.length : Int) ≤ 32768)) = true := by simp; omega
    have I1 := Lib.hid i1
    clear i1
    by_cases h2 : L.length = E.length
    · have HF := Lib.hid (HYes.out ⟨h1a, h1b, h2⟩)
      have H2 := Lib.hid h2
      have h2' : ((L.length : Int) != (E.length : Int)) = false := by simp [h2]
      clear h2
      go_enter Try.func27, Try.ntmps27
      go_wp2_with (go_at_call 44; refine (in_is _ _ _ _ I1.out _).mono ?_; rintro e w' ⟨rfl, rfl⟩)
      generalize hW : World.alloc _ _ = W
      have bs : Blk W w.heap.size 25 #[.slice Ae E.length ce, .slice Aa L.length ca] := by rw [← hW]; exact Blk.new _ _ _
      have hB : Below w.heap.size w W := by rw [← hW]; exact (Below.refl _ _).alloc (Nat.le_refl _) _
      have HB := Lib.hid hB
      have REW := Lib.hid (RE.out.below hB)
      have RAW := Lib.hid (RA.out.below hB)
      have HKW := Lib.hid (fun k l hl => let ⟨u, hu, ha⟩ := HK.out k l hl; (⟨u, hu, ha.below hB⟩ : ∃ u, rows[k]? = some u ∧ ArcsAt W w.heap.size u l))
      have hsz := bs.lt
      clear hW hB RE RA HK h2'
      obtain ⟨p0, p1, pf⟩ := blk2 bs
      go_loopw [4, 5] (fun t i wr => ∃ k tt d : Nat, k ≤ E.length ∧ tt ≤ 262144 ∧ i = .int .i64 k ∧ t = .int .i64 tt ∧ PlS.allOk E.length tt (E.drop k) (L.drop k) = PlS.allOk E.length 0 E L ∧ wr = W.drewN d) (fun _ i _ => E.length - (intOf i).toNat)
      case atStart => exact ⟨0, 0, 0, Nat.zero_le _, by decide, rfl, rfl, rfl, rfl⟩
      case round =>
        obtain ⟨k, tt, d, hk, htt, rfl, rfl, hq, rfl⟩ := hrel
        have HQ := Lib.hid hq
        clear hq
        by_cases hlt : k < E.length
        · have hlt' : k < L.length := by have := H2.out; omega
          obtain ⟨ad, Ak, c, rfl, hbl, cr, rk⟩ := row_at RAW.out HKW.out hlt'
          obtain ⟨ad2, rfl, hbl2, cs⟩ := set_at REW.out hlt
          have hen := HE.out k hlt
          obtain ⟨hll, hls⟩ := HL.out k hlt'
          have HD := Lib.hid (allOk_drop E.length tt E L k hlt hlt')
          generalize E[k] = en at *
          generalize L[k] = l at *
          have RK := Lib.hid rk
          have HLS := Lib.hid hls
          have HST := Lib.hid (stateOk_eq en E.length l)
          clear rk hls
          have ea := Pl.andNot24 en hen
          have k0 : (0 : Int) ≤ (k : Int) := by omega
          have k1 : (k : Int) < (E.length : Int) := by omega
          have k2 : (k : Int) < (L.length : Int) := by omega
          by_cases z1 : tt + l.length ≤ 262144
          · have t1 : decide ((262144 : Int) < (tt : Int) + (l.length : Int)) = false := by simp; omega
            have hd1 := HD.out
            rw [decide_eq_true z1, Bool.true_and, HST.out] at hd1
            have HD1 := Lib.hid hd1
            clear hd1 HD HST
            by_cases z2 : en < 16777216
            · have e0 : en / 16777216 * 16777216 = 0 := by omega
              rw [e0] at ea
              cases z3 : (decide (en ≠ 0 ↔ 0 < l.length) && PlS.rowOk en E.length 0 l)
              · have hd2 := HD1.out
                rw [decide_eq_true z2, z3, Bool.true_and, Bool.false_and] at hd2
                have HD2 := Lib.hid hd2
                have HZ3 := Lib.hid z3
                clear hd2 HD1 z3 e0
                go_wp2_with fail
                go_quiet (first | (go_at_call 46; with_reducible exact quiet_add_left (all24 _)) | (go_at_call 47; (with_reducible refine quiet_add (rarcs_is en E.length hen (by omega) l (by omega) HLS.out Ak c _ HZ3.out _ ?_)); exact ((RK.out.more (Nat.le_of_lt hsz)).drewN _)))
                go_wp2
                go_ret
                exact ⟨ret_bool (by rw [HF.out, ← HQ.out, HD2.out]), by repeat (first | exact HB.out | refine below_drewN ?_ _)⟩
              · have hd2 := HD1.out
                rw [decide_eq_true z2, z3, Bool.true_and, Bool.true_and] at hd2
                have HD2 := Lib.hid hd2
                have HZ3 := Lib.hid z3
                clear hd2 HD1 z3 e0
                go_wp2_with fail
                go_quiet (first | (go_at_call 46; with_reducible exact quiet_add_left (all24 _)) | (go_at_call 47; (with_reducible refine quiet_add (rarcs_is en E.length hen (by omega) l (by omega) HLS.out Ak c _ HZ3.out _ ?_)); exact ((RK.out.more (Nat.le_of_lt hsz)).drewN _)))
                go_wp2
                refine ⟨⟨k + 1, tt + l.length, d + nq, by omega, z1, by go_num, by go_num, by rw [← HD2.out, HQ.out], by first | rfl | rw [World.drewN_drewN]⟩, by simp [intOf]; omega⟩
            · have t2 : (bits .andNot .u32 (en : Int) 16777215 != 0) = true := by rw [ea, bne_iff_ne]; omega
              have hd2 := HD1.out
              rw [decide_eq_false z2, Bool.false_and, Bool.false_and] at hd2
              have HD2 := Lib.hid hd2
              clear hd2 HD1 ea
              go_wp2_with fail
              go_quiet (first | (go_at_call 46; with_reducible exact quiet_add_left (all24 _)))
              go_wp2
              go_ret
              exact ⟨ret_bool (by rw [HF.out, ← HQ.out, HD2.out]), by repeat (first | exact HB.out | refine below_drewN ?_ _)⟩
          · have t1 : decide ((262144 : Int) < (tt : Int) + (l.length : Int)) = true := by simp; omega
            have hd1 := HD.out
            rw [decide_eq_false z1, Bool.false_and] at hd1
            have HD1 := Lib.hid hd1
            clear hd1 HD
            go_wp2_with fail
            go_quiet (fail)
            go_wp2
            go_ret
            exact ⟨ret_bool (by rw [HF.out, ← HQ.out, HD1.out]), by repeat (first | exact HB.out | refine below_drewN ?_ _)⟩
        · obtain rfl : k = E.length := by omega
          go_wp2
          go_ret
          refine ⟨ret_bool ?_, by repeat (first | exact HB.out | refine below_drewN ?_ _)⟩
          rw [HF.out, ← HQ.out, List.drop_of_length_le (Nat.le_refl _)]
          simp [PlS.allOk]
    · have HF := Lib.hid (HNo.out (by omega))
      have h2' : ((L.length : Int) != (E.length : Int)) = true := by rw [bne_iff_ne]; omega
      go_enter Try.func27, Try.ntmps27
      go_wp2_with (go_at_call 44; refine (in_is _ _ _ _ I1.out _).mono ?_; rintro e w' ⟨rfl, rfl⟩)
      go_ret
      exact ⟨ret_bool HF.out.symm, (Below.refl _ _).alloc (Nat.le_refl _) _⟩
  · have i1 : (decide ((1 : Int) ≤ (E.length : Int)) && decide ((E.length : Int) ≤ 32768)) = false := by simp; omega
    have I1 := Lib.hid i1
    clear i1
    have HF := Lib.hid (HNo.out (by omega))
    go_enter Try.func27, Try.ntmps27
    go_wp2_with (go_at_call 44; refine (in_is _ _ _ _ I1.out _).mono ?_; rintro e w' ⟨rfl, rfl⟩)
    go_ret
    exact ⟨ret_bool HF.out.symm, (Below.refl _ _).alloc (Nat.le_refl _) _⟩
end Go.Proofs.Ytbilciiffecdgaa
