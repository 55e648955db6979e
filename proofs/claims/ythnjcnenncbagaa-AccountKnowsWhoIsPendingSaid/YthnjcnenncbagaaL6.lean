/- The walk of AccountKnowsWhoIsPending. -/
import Derived.Test.YthnjcnenncbagaaL5
namespace Go.Proofs.Ythnjcnenncbagaa
open Go.RowKit

theorem pend_succ (C E : List Nat) (f m : Nat) (h : f ≤ m) :
    Pl3.pend C E f (m + 1 - f) = Pl.rest (Pl3.pend C E f (m - f)) (C.getD m 0) (E.getD (m + 1) 0) := by
  rw [show m + 1 - f = (m - f) + 1 from by omega, Pl3.pend, show f + (m - f) = m from by omega]
theorem pend_lt (C E : List Nat) (hC : ∀ i, C.getD i 0 < 16777216) (hE : ∀ i, E.getD i 0 < 16777216) (f d : Nat) : Pl3.pend C E f d < 16777216 := by
  rw [Pl3.pend_served C E (fun i => Nat.lt_trans (hC i) (by decide)) (fun i => Nat.lt_trans (hE i) (by decide))]
  exact Nat.lt_of_le_of_lt Nat.and_le_left (hE f)
theorem rest_bits (p c e : Nat) (hp : p < 16777216) (hc : c < 16777216) (he : e < 16777216) :
    bits .and .u32 (bits .andNot .u32 (p : Int) (c : Int)) (e : Int) = ((Pl.rest p c e : Nat) : Int) := by
  have : p &&& (4294967295 - c) ≤ p := Nat.and_le_left
  rw [u32_andNot_nat _ _ (by omega) (by omega), u32_and_nat _ _ (by omega) (by omega)]
  rfl

set_option maxHeartbeats 1000000 in
theorem pends_long (first : Nat) (A : Option Addr) (n c : Nat) (hn : 100 < n) (hm : n ≤ 9223372036854775807) (w : World) :
    Calls Try.prog 6 #[.int .u32 first, .slice A n c] w fun e w' => e = .returned (.bool true) ∧ Below w.heap.size w w' := by
  go_enter Try.func6, Try.ntmps6
  go_wp2_with fail
  refine (awake_any _).mono ?_
  rintro e w1 ⟨rfl, hb⟩
  go_wp2
  go_ret
  exact ⟨rfl, hb⟩

set_option maxHeartbeats 1000000 in
theorem pends_short (first : Nat) (hf : first < 4294967296) (A : Option Addr) (n c : Nat) (hn : n ≤ 100) (zs : List (Nat × Nat)) (hz : ∀ k (h : k < zs.length), zs[k].1 < 4294967296 ∧ zs[k].2 < 4294967296) (w : World)
    (hr : Reads w w.heap.size 2 A n (zs.flatMap fun z => [U z.1, U z.2])) :
    Calls Try.prog 6 #[.int .u32 first, .slice A n c] w fun e w' => e = .returned (.bool true) ∧ Below w.heap.size w w' := by
  have HR := Lib.hid hr
  have HZ := Lib.hid hz
  clear hr hz
  have d17 : decide (100 < (n : Int)) = false := by simp; omega
  go_enter Try.func6, Try.ntmps6
  go_wp2_with fail
  refine (run_any first hf A n c hn zs HZ.out _ HR.out).mono ?_
  rintro e w1 ⟨C, E, v1, v2, M, hCn, hEC, hC, hE, rfl, ⟨A1, c1, rfl, r1⟩, ⟨A2, c2, rfl, r2⟩, hB⟩
  rw [hEC] at r2 ⊢
  have HEC := Lib.hid hEC
  have HC := Lib.hid hC
  have HE := Lib.hid hE
  have HB := Lib.hid hB
  have hBs := hB.size
  have R1 := Lib.hid r1
  have R2 := Lib.hid r2
  clear hEC hC hE hB r1 r2
  unfold CntOf cnt
  have HA := Lib.hid (Pl3.acc_st C E C.length)
  have hEl : E.length = C.length + 1 := HEC.out
  obtain ⟨ad2, hA2, hbl2, cc2⟩ := sets_at (C := E) (i := 0) (by rw [hEl]; exact R2.out) (by omega)
  subst hA2
  have cc0 : w1.cell? ad2 = some (.int .u32 (E.getD 0 0 : Nat)) := cc2
  clear hEl cc2
  generalize hE0 : E.getD 0 0 = e0 at *
  have HE0 := Lib.hid hE0
  clear hE0
  have z1 : (0 : Int) < (C.length : Int) + 1 := by omega
  have z2 : 0 < C.length + 1 := by omega
  go_wp2_with fail
  generalize hW : World.alloc _ _ = W
  have bk : Blk W w1.heap.size 24 #[.int .i64 C.length, .int .i64 M, .int .i64 (Pl3.acc C E C.length).1, .int .i64 (Pl3.acc C E C.length).2.1, .int .u32 (Pl3.acc C E C.length).2.2] := by rw [← hW]; exact Blk.new _ _ _
  have R1W : Hid (Reads W W.heap.size 1 A1 C.length (C.map U)) := by rw [← hW]; exact ((R1.out.alloc (Nat.le_refl _) _).more (by simp))
  have R2W : Hid (Reads W W.heap.size 1 (some ad2) (C.length + 1) (E.map U)) := by rw [← hW]; exact ((R2.out.alloc (Nat.le_refl _) _).more (by simp))
  have HBW : Hid (Below w.heap.size w W) := by rw [← hW]; exact HB.out.alloc hBs _
  clear hW R1 R2 HB
  clear z1 z2 cc0
  clear hbl2
  go_loopw [9, 10, 11] (fun fr pd i wr => ∃ k d : Nat, k ≤ C.length ∧ i = .int .i64 k ∧ fr = .int .i64 (Pl3.st C E k).1 ∧ pd = .int .u32 (Pl3.pend C E (Pl3.st C E k).1 (k - (Pl3.st C E k).1)) ∧ wr = W.drewN d) (fun _ _ i _ => C.length - (intOf i).toNat)
  case atStart => exact ⟨0, 0, Nat.zero_le _, rfl, rfl, by rw [← HE0.out]; rfl, rfl⟩
  case round =>
    obtain ⟨k, d, hk, rfl, rfl, rfl, rfl⟩ := hrel
    by_cases hlt : k < C.length
    · obtain ⟨hf1, -, -⟩ := Pl3.st_le C E k
      generalize hst : Pl3.st C E k = s0 at *
      obtain ⟨f, r, b⟩ := s0
      have HST := Lib.hid (st_succ C E k f r b hst)
      clear hst
      dsimp only at *
      have hEl : E.length = C.length + 1 := HEC.out
      obtain ⟨ad3, hA3, -, cc2⟩ := sets_at (C := E) (i := f) (by rw [hEl]; exact R2W.out) (by omega)
      obtain rfl : ad2 = ad3 := by injection hA3
      clear hA3 hEl
      have m0 : (0 : Int) ≤ (f : Int) := by omega
      have m2 : (f : Int) < (C.length : Int) + 1 := by omega
      generalize hy : E.getD f 0 = y at *
      have HY := Lib.hid hy
      clear hy
      go_wp2_with fail
      go_loopw [10, 12] (fun pd j wr => ∃ m e : Nat, f ≤ m ∧ m ≤ k + 1 ∧ j = .int .i64 m ∧ pd = .int .u32 (Pl3.pend C E f (m - f)) ∧ wr = W.drewN e) (fun _ j _ => k + 1 - (intOf j).toNat)
      case atStart => exact ⟨f, d, Nat.le_refl _, by omega, rfl, by rw [Nat.sub_self, ← HY.out]; rfl, rfl⟩
      case round =>
        obtain ⟨m, e, hm1, hm2, rfl, rfl, rfl⟩ := hrel
        clear cc2 HY m0 m2
        by_cases hmk : m ≤ k
        · obtain ⟨ad1, hA1, hbl1, cc1⟩ := sets_at R1W.out (show m < C.length by omega)
          have hEl : E.length = C.length + 1 := HEC.out
          obtain ⟨ad3, hA3, -, cc2⟩ := sets_at (C := E) (i := m + 1) (by rw [hEl]; exact R2W.out) (by omega)
          obtain rfl : ad2 = ad3 := by injection hA3
          clear hA3 hEl
          subst hA1
          have m0 : (0 : Int) ≤ (m : Int) := by omega
          have m1 : (m : Int) < (C.length : Int) := by omega
          have m2 : (m : Int) + 1 < (C.length : Int) + 1 := by omega
          have m3 := IntWalk.i64_in ((m : Int) + 1) (by omega)
          have m4 : (0 : Int) ≤ (m : Int) + 1 := by omega
          have m5 : ((m : Int) + 1).toNat = m + 1 := by omega
          have m6 : (m : Int) + 1 < ((C.length + 1 : Nat) : Int) := by omega
          have cl := HC.out m
          have el := HE.out (m + 1)
          have sl := pend_lt C E HC.out HE.out f (m - f)
          have HSV := Lib.hid (pend_succ C E f m hm1)
          generalize C.getD m 0 = x at *
          generalize E.getD (m + 1) 0 = y at *
          generalize Pl3.pend C E f (m - f) = z at *
          have cc3 : W.cell? ⟨ad2.block, ad2.off + (m + 1), none⟩ = some (.int .u32 (y : Int)) := by rw [← cc2]; rfl
          go_wp2_with fail
          go_quiet (fail)
          go_wp2
          refine ⟨⟨m + 1, e + nq, by omega, by omega, by go_num, ?_, rfl⟩, by simp [intOf]; omega⟩
          rw [HSV.out, rest_bits z x y sl cl el]
        · obtain rfl : m = k + 1 := by omega
          have sl := pend_lt C E HC.out HE.out f (k + 1 - f)
          have HP := Lib.hid (show Pl3.pend C E (k + 1) (k + 1 - (k + 1)) = E.getD (k + 1) 0 by rw [Nat.sub_self]; rfl)
          by_cases hz : Pl3.pend C E f (k + 1 - f) = 0
          · have hst1 := HST.out
            rw [if_pos hz] at hst1
            have HS1 := Lib.hid hst1
            clear hst1
            have hEl : E.length = C.length + 1 := HEC.out
            obtain ⟨ad3, hA3, -, cc2⟩ := sets_at (C := E) (i := k + 1) (by rw [hEl]; exact R2W.out) (by omega)
            obtain rfl : ad2 = ad3 := by injection hA3
            clear hA3 hEl
            generalize Pl3.pend C E f (k + 1 - f) = q at *
            subst hz
            have el := HE.out (k + 1)
            generalize E.getD (k + 1) 0 = y at *
            have m0 : (0 : Int) ≤ (k : Int) := by omega
            have m2 : (k : Int) + 1 < (C.length : Int) + 1 := by omega
            have m3 := IntWalk.i64_in ((k : Int) + 1) (by omega)
            have m4 : (0 : Int) ≤ (k : Int) + 1 := by omega
            have m5 : ((k : Int) + 1).toNat = k + 1 := by omega
            have m6 : (k : Int) + 1 < ((C.length + 1 : Nat) : Int) := by omega
            have cc3 : W.cell? ⟨ad2.block, ad2.off + (k + 1), none⟩ = some (.int .u32 (y : Int)) := by rw [← cc2]; rfl
            go_wp2_with fail
            go_quiet (fail)
            go_wp2
            refine ⟨⟨k + 1, e + nq, by omega, by go_num, by rw [HS1.out]; go_num, by rw [HS1.out]; exact val_int (by rw [HP.out]), rfl⟩, by simp [intOf]; omega⟩
          · have hst1 := HST.out
            rw [if_neg hz] at hst1
            have HS1 := Lib.hid hst1
            clear hst1
            generalize hq0 : Pl3.pend C E f (k + 1 - f) = q at *
            have HQ0 := Lib.hid hq0
            clear hq0
            have hq : ((q : Int) == 0) = false := beq_eq_false_iff_ne.2 (by omega)
            go_wp2
            refine ⟨⟨k + 1, e, by omega, by go_num, by rw [HS1.out], by rw [HS1.out]; exact val_int (by rw [HQ0.out]), rfl⟩, by simp [intOf]; omega⟩
    · obtain rfl : k = C.length := by omega
      go_wp2_with fail
      refine (awake_any _).mono ?_
      rintro e w2 ⟨rfl, hb2⟩
      have b2 := (bk.drewN d).below hb2 (bk.drewN d).lt
      obtain ⟨-, -, ha3, -⟩ := HA.out
      rw [ha3] at b2
      have hEl : E.length = C.length + 1 := HEC.out
      obtain ⟨ad3, hA3, hbl3, cc2⟩ := sets_at (C := E) (i := C.length) (by rw [hEl]; exact R2W.out) (by omega)
      obtain rfl : ad2 = ad3 := by injection hA3
      have cc3 := (hb2.cell (p := ad2.add C.length) (by rw [block_of_add]; exact hbl3)).trans cc2
      have HB2 := Lib.hid (below_end hb2 (below_drewN HBW.out d))
      have hf1 := (Pl3.st_le C E C.length).1
      have hsub := Pl3.pend_sub C E (fun i => Nat.lt_trans (HE.out i) (by decide)) (Pl3.st C E C.length).1 (C.length - (Pl3.st C E C.length).1)
      rw [show (Pl3.st C E C.length).1 + (C.length - (Pl3.st C E C.length).1) = C.length by omega] at hsub
      have sl := pend_lt C E HC.out HE.out (Pl3.st C E C.length).1 (C.length - (Pl3.st C E C.length).1)
      have el := HE.out C.length
      clear ha3 hb2 bk hA3 hEl cc2
      generalize Pl3.pend C E (Pl3.st C E C.length).1 (C.length - (Pl3.st C E C.length).1) = q at *
      generalize E.getD C.length 0 = y at *
      have ea := u32_andNot_nat q y (by omega) (by omega)
      rw [hsub] at ea
      clear hsub
      obtain ⟨p0, p1, p2, p3, p4, pf⟩ := blk5 b2
      go_wp2
      go_ret
      exact ⟨rfl, HB2.out⟩
end Go.Proofs.Ythnjcnenncbagaa
