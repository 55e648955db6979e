/- The walk of AccountCountsRounds. -/
import Derived.Test.YthnjcnenncbagaaL4
namespace Go.Proofs.Ythnjcnenncbagaa
open Go.RowKit

theorem sets_at {w : World} {A : Option Addr} {C : List Nat} {i : Nat} (h : Reads w w.heap.size 1 A C.length (C.map U)) (hi : i < C.length) :
    ∃ ad, A = some ad ∧ ad.block < w.heap.size ∧ w.cell? (ad.add i) = some (.int .u32 (C.getD i 0 : Nat)) := by
  obtain ⟨ad, e, hb, hc⟩ := h.2 (by omega)
  refine ⟨ad, e, hb, hc i _ ?_⟩
  rw [List.getElem?_map, List.getD_eq_getElem?_getD, List.getElem?_eq_getElem hi]
  rfl

theorem st_succ (C E : List Nat) (k f r b : Nat) (h : Pl3.st C E k = (f, r, b)) :
    Pl3.st C E (k + 1) = if Pl3.pend C E f (k + 1 - f) = 0 then (k + 1, r + 1, if k = f then b + 1 else b) else (f, r, if k = f then b + 1 else b) := by
  simp only [Pl3.st, h]
theorem served_succ (C E : List Nat) (f m : Nat) (h : f ≤ m) :
    Pl3.served C E f (m + 1 - f) = Pl3.served C E f (m - f) ||| (C.getD m 0 ||| (4294967295 - E.getD (m + 1) 0)) := by
  rw [show m + 1 - f = (m - f) + 1 from by omega, Pl3.served, show f + (m - f) = m from by omega]
theorem or_not (x y z : Nat) (hx : x < 16777216) (hy : y < 16777216) (hz : z < 4294967296) :
    bits .or .u32 (z : Int) (bits .or .u32 (x : Int) (bits .xor .u32 (if IntKind.u32.signed = true then -1 else IntKind.u32.max) (y : Int))) = ((z ||| (x ||| (4294967295 - y)) : Nat) : Int) := by
  have e0 : (if IntKind.u32.signed = true then -1 else IntKind.u32.max) = ((4294967295 : Nat) : Int) := by decide
  have e1 : 4294967295 ^^^ y = 4294967295 - y := by
    apply Nat.eq_of_testBit_eq
    intro i
    rw [Pl3.testBit_not y i (by omega), Nat.testBit_xor, show (4294967295 : Nat) = 4294967295 - 0 from rfl, Pl3.testBit_not 0 i (by decide)]
    by_cases hi : i < 32
    · simp [hi]
    · have : y.testBit i = false := by
        cases hb : y.testBit i
        · rfl
        · exact absurd (Pl3.lt32 y i (by omega) hb) hi
      simp [hi, this]
  rw [e0, u32_xor_nat _ _ (by decide) (by omega), e1, u32_or_nat _ _ (by omega) (by omega), u32_or_nat _ _ hz (Nat.or_lt_two_pow (n := 32) (by omega) (by omega))]

set_option maxHeartbeats 1000000 in
theorem counts_long (first : Nat) (A : Option Addr) (n c : Nat) (hn : 100 < n) (hm : n ≤ 9223372036854775807) (w : World) :
    Calls Try.prog 5 #[.int .u32 first, .slice A n c] w fun e w' => e = .returned (.bool true) ∧ Below w.heap.size w w' := by
  go_enter Try.func5, Try.ntmps5
  go_wp2_with fail
  refine (awake_any _).mono ?_
  rintro e w1 ⟨rfl, hb⟩
  go_wp2
  go_ret
  exact ⟨rfl, hb⟩

set_option maxHeartbeats 1000000 in
theorem counts_short (first : Nat) (hf : first < 4294967296) (A : Option Addr) (n c : Nat) (hn : n ≤ 100) (zs : List (Nat × Nat)) (hz : ∀ k (h : k < zs.length), zs[k].1 < 4294967296 ∧ zs[k].2 < 4294967296) (w : World)
    (hr : Reads w w.heap.size 2 A n (zs.flatMap fun z => [U z.1, U z.2])) :
    Calls Try.prog 5 #[.int .u32 first, .slice A n c] w fun e w' => e = .returned (.bool true) ∧ Below w.heap.size w w' := by
  have HR := Lib.hid hr
  have HZ := Lib.hid hz
  clear hr hz
  have d17 : decide (100 < (n : Int)) = false := by simp; omega
  go_enter Try.func5, Try.ntmps5
  go_wp2_with fail
  refine (run_any first hf A n c hn zs HZ.out _ HR.out).mono ?_
  rintro e w1 ⟨C, E, v1, v2, M, hCn, hEC, hC, hE, rfl, ⟨A1, c1, rfl, r1⟩, ⟨A2, c2, rfl, r2⟩, hB⟩
  rw [hEC] at r2 ⊢
  have HEC := Lib.hid hEC
  have HC := Lib.hid hC
  have HE := Lib.hid hE
  have HB := Lib.hid hB
  have hBs := hB.size
  have R1 := Lib.hid r1
  have R2 := Lib.hid r2
  clear hEC hC hE hB r1 r2
  unfold CntOf cnt
  have HA := Lib.hid (Pl3.acc_st C E C.length)
  go_wp2_with fail
  generalize hW : World.alloc _ _ = W
  have bk : Blk W w1.heap.size 24 #[.int .i64 C.length, .int .i64 M, .int .i64 (Pl3.acc C E C.length).1, .int .i64 (Pl3.acc C E C.length).2.1, .int .u32 (Pl3.acc C E C.length).2.2] := by rw [← hW]; exact Blk.new _ _ _
  have R1W : Hid (Reads W W.heap.size 1 A1 C.length (C.map U)) := by rw [← hW]; exact ((R1.out.alloc (Nat.le_refl _) _).more (by simp))
  have R2W : Hid (Reads W W.heap.size 1 A2 (C.length + 1) (E.map U)) := by rw [← hW]; exact ((R2.out.alloc (Nat.le_refl _) _).more (by simp))
  have HBW : Hid (Below w.heap.size w W) := by rw [← hW]; exact HB.out.alloc hBs _
  clear hW R1 R2 HB
  go_loopw [9, 10, 11, 12] (fun rd bg fr i wr => ∃ k d : Nat, k ≤ C.length ∧ i = .int .i64 k ∧ fr = .int .i64 (Pl3.st C E k).1 ∧ rd = .int .i64 (Pl3.st C E k).2.1 ∧ bg = .int .i64 (Pl3.st C E k).2.2 ∧ wr = W.drewN d) (fun _ _ _ i _ => C.length - (intOf i).toNat)
  case atStart => exact ⟨0, 0, Nat.zero_le _, rfl, rfl, rfl, rfl, rfl⟩
  case round =>
    obtain ⟨k, d, hk, rfl, rfl, rfl, rfl, rfl⟩ := hrel
    by_cases hlt : k < C.length
    · obtain ⟨hf1, hf2, hf3⟩ := Pl3.st_le C E k
      generalize hst : Pl3.st C E k = s0 at *
      obtain ⟨f, r, b⟩ := s0
      have HST := Lib.hid (st_succ C E k f r b hst)
      clear hst
      dsimp only at *
      by_cases hfk : k = f
      case' pos =>
        have nfk : ((k : Int) == (f : Int)) = true := by simp [hfk]
        have HFK := Lib.hid hfk
        clear hfk
        go_wp2_with fail
        generalize hbb : (b : Int) + 1 = bb
        have HBB := Lib.hid (show bb = ((if k = f then b + 1 else b : Nat) : Int) by rw [if_pos HFK.out]; omega)
        clear hbb nfk
      case' neg =>
        have nfk : ((k : Int) == (f : Int)) = false := beq_eq_false_iff_ne.2 (by omega)
        go_wp2_with fail
        generalize hbb : Value.int .i64 (b : Int) = bb0
        obtain ⟨bb, rfl⟩ : ∃ bb : Int, bb0 = .int .i64 bb := ⟨_, hbb.symm⟩
        have HBB := Lib.hid (show bb = ((if k = f then b + 1 else b : Nat) : Int) by rw [if_neg hfk]; injection hbb with _ h; exact h.symm)
        clear hbb nfk hfk
      all_goals
        go_loopw [13, 14] (fun sv j wr => ∃ m e : Nat, f ≤ m ∧ m ≤ k + 1 ∧ j = .int .i64 m ∧ sv = .int .u32 (Pl3.served C E f (m - f)) ∧ wr = W.drewN e) (fun _ j _ => k + 1 - (intOf j).toNat)
        case atStart => exact ⟨f, d, Nat.le_refl _, by omega, rfl, by simp [Pl3.served], rfl⟩
        case round =>
          obtain ⟨m, e, hm1, hm2, rfl, rfl, rfl⟩ := hrel
          by_cases hmk : m ≤ k
          · obtain ⟨ad1, hA1, hbl1, cc1⟩ := sets_at R1W.out (show m < C.length by omega)
            have hEl : E.length = C.length + 1 := HEC.out
            obtain ⟨ad2, hA2, hbl2, cc2⟩ := sets_at (C := E) (i := m + 1) (by rw [hEl]; exact R2W.out) (by omega)
            subst hA1 hA2
            have m0 : (0 : Int) ≤ (m : Int) := by omega
            have m1 : (m : Int) < (C.length : Int) := by omega
            have m2 : (m : Int) + 1 < (C.length : Int) + 1 := by omega
            have m3 := IntWalk.i64_in ((m : Int) + 1) (by omega)
            have m4 : (0 : Int) ≤ (m : Int) + 1 := by omega
            have m5 : ((m : Int) + 1).toNat = m + 1 := by omega
            have m6 : (m : Int) + 1 < ((C.length + 1 : Nat) : Int) := by omega
            have cl := HC.out m
            have el := HE.out (m + 1)
            have sl := Pl3.served_lt C E (fun i => Nat.lt_trans (HC.out i) (by decide)) f (m - f)
            have HSV := Lib.hid (served_succ C E f m hm1)
            generalize C.getD m 0 = x at *
            generalize E.getD (m + 1) 0 = y at *
            generalize Pl3.served C E f (m - f) = z at *
            clear hEl
            have cc3 : W.cell? ⟨ad2.block, ad2.off + (m + 1), none⟩ = some (.int .u32 (y : Int)) := by rw [← cc2]; rfl
            go_wp2_with fail
            go_quiet (fail)
            go_wp2
            refine ⟨⟨m + 1, e + nq, by omega, by omega, by go_num, ?_, rfl⟩, by simp [intOf]; omega⟩
            rw [HSV.out, or_not x y z cl el sl]
          · obtain rfl : m = k + 1 := by omega
            have hEl : E.length = C.length + 1 := HEC.out
            obtain ⟨ad2, hA2, hbl2, cc2⟩ := sets_at (C := E) (i := f) (by rw [hEl]; exact R2W.out) (by omega)
            subst hA2
            have m0 : (0 : Int) ≤ (f : Int) := by omega
            have m2 : (f : Int) < (C.length : Int) + 1 := by omega
            have el := HE.out f
            have sl := Pl3.served_lt C E (fun i => Nat.lt_trans (HC.out i) (by decide)) f (k + 1 - f)
            have HP := Lib.hid (Pl3.pend_served C E (fun i => Nat.lt_trans (HC.out i) (by decide)) (fun i => Nat.lt_trans (HE.out i) (by decide)) f (k + 1 - f))
            generalize Pl3.served C E f (k + 1 - f) = z at *
            generalize E.getD f 0 = y at *
            have ea := u32_andNot_nat y z (by omega) sl
            clear hEl
            by_cases hz : y &&& (4294967295 - z) = 0
            · have hst1 := HST.out
              rw [HP.out, if_pos hz] at hst1
              have HS1 := Lib.hid hst1
              clear hst1
              generalize y &&& (4294967295 - z) = q at *
              subst hz
              go_wp2
              refine ⟨⟨k + 1, e, by omega, by go_num, by rw [HS1.out]; go_num, by rw [HS1.out]; go_num, by rw [HS1.out, HBB.out], rfl⟩, by simp [intOf]; omega⟩
            · have hst1 := HST.out
              rw [HP.out, if_neg hz] at hst1
              have HS1 := Lib.hid hst1
              clear hst1
              generalize y &&& (4294967295 - z) = q at *
              have hq : ((q : Int) == 0) = false := beq_eq_false_iff_ne.2 (by omega)
              go_wp2
              refine ⟨⟨k + 1, e, by omega, by go_num, by rw [HS1.out], by rw [HS1.out], by rw [HS1.out, HBB.out], rfl⟩, by simp [intOf]; omega⟩
    · obtain rfl : k = C.length := by omega
      go_wp2_with fail
      refine (awake_any _).mono ?_
      rintro e w2 ⟨rfl, hb2⟩
      have b2 := (bk.drewN d).below hb2 (bk.drewN d).lt
      obtain ⟨ha1, ha2, -, -⟩ := HA.out
      rw [ha1, ha2] at b2
      have HB2 := Lib.hid (below_end hb2 (below_drewN HBW.out d))
      clear ha1 ha2 hb2 bk
      obtain ⟨p0, p1, p2, p3, p4, pf⟩ := blk5 b2
      go_wp2
      go_ret
      exact ⟨rfl, HB2.out⟩
end Go.Proofs.Ythnjcnenncbagaa
