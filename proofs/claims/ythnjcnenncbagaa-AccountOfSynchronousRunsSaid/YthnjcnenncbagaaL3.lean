/- The walk of AccountOfSynchronousRuns. -/
import Derived.Test.YthnjcnenncbagaaL2
namespace Go.Proofs.Ythnjcnenncbagaa
open Go.RowKit

theorem rest_self (n af : Nat) (hn : n < 4294967296) : Pl.rest n n af = 0 := by
  unfold Pl.rest
  apply Nat.eq_of_testBit_eq
  intro i
  rw [Nat.zero_testBit, Nat.testBit_and, Nat.testBit_and]
  have e : (4294967295 - n).testBit i = (decide (i < 32) && !n.testBit i) := by
    have := Nat.testBit_two_pow_sub_succ (n := 32) (x := n) (by simpa using hn) i
    simpa using this
  rw [e]
  cases n.testBit i <;> simp

theorem sync_step (i M : Int) (n af : Nat) (h0 : 0 ≤ i) (h1 : i < 4096) (h2 : i ≤ M) (h3 : M ≤ 24 * i) (hn0 : 0 < n) (hn : n < 16777216) (ha : af < 16777216) :
    addV i M i i n n af = .tuple #[cnt (i + 1) (M + Pl.pop n) (i + 1) (i + 1) af, .int .i64 0] ∧ i + 1 ≤ M + Pl.pop n ∧ M + Pl.pop n ≤ 24 * (i + 1) := by
  have hp := Pl.pop_le24 n hn
  have hp' := Pl.pop_pos n (by omega) (by omega)
  have hv : Pl.valid i M i i n = true := decide_eq_true (by omega)
  refine ⟨?_, by omega, by omega⟩
  unfold addV
  rw [if_neg (by rw [hv]; decide), if_neg (by omega), if_neg (by omega), if_pos (rest_self n af (by omega))]

set_option maxHeartbeats 4000000 in
theorem sync_long (first : Nat) (hf : first < 4294967296) (A : Option Addr) (n c : Nat) (hn : 100 < n) (hm : n ≤ 9223372036854775807) (w : World) :
    Calls Try.prog 7 #[.int .u32 first, .slice A n c] w fun e w' => e = .returned (.bool true) ∧ Below w.heap.size w w' := by
  go_enter Try.func7, Try.ntmps7
  go_wp2_with fail
  refine (awake_any _).mono ?_
  rintro e w1 ⟨rfl, hb⟩
  go_wp2
  go_ret
  exact ⟨rfl, hb⟩

set_option maxHeartbeats 4000000 in
theorem sync_short (first : Nat) (hf : first < 4294967296) (A : Option Addr) (n c : Nat) (hn : n ≤ 100) (zs : List Nat) (hz : ∀ k (h : k < zs.length), zs[k] < 4294967296) (w : World)
    (hr : Reads w w.heap.size 1 A n (zs.map fun z : Nat => Value.int .u32 (z : Int))) :
    Calls Try.prog 7 #[.int .u32 first, .slice A n c] w fun e w' => e = .returned (.bool true) ∧ Below w.heap.size w w' := by
  have m1 := Pl.and24 first hf
  have cl : first % 16777216 < 16777216 := Nat.mod_lt _ (by decide)
  have mm := Lib.hid (Nat.mod_mod first 16777216)
  generalize first % 16777216 = f0 at *
  have HR := Lib.hid hr
  have HZ := Lib.hid hz
  clear hr hz
  go_enter Try.func7, Try.ntmps7
  go_wp2_with fail
  refine (all24 _).mono ?_
  rintro e w1 ⟨rfl, rfl⟩
  go_wp2_with fail
  refine (begin_any f0 (by omega) _).mono ?_
  rintro e w1 ⟨rfl, hb1⟩
  rw [mm.out]
  unfold cnt
  have HB1 := Lib.hid hb1
  have hs1 := hb1.size
  clear hb1
  go_wp2_with fail
  go_loopw [5, 7] (fun now i wr => ∃ (k f : Nat) (M : Int), k ≤ n ∧ f < 16777216 ∧ (k : Int) ≤ M ∧ M ≤ 24 * (k : Int) ∧ now = .int .u32 f ∧ i = .int .i64 k ∧
      Blk wr w1.heap.size 24 #[.int .i64 k, .int .i64 M, .int .i64 k, .int .i64 k, .int .u32 f] ∧ Below w.heap.size w wr) (fun _ i _ => n - (intOf i).toNat)
  case atStart => exact ⟨0, f0, 0, Nat.zero_le _, cl, by omega, by omega, rfl, rfl, Blk.new _ _ _, HB1.out.alloc hs1 _⟩
  case round =>
    obtain ⟨k, f, M, hk, hfl, hM1, hM2, rfl, rfl, bk, hB⟩ := hrel
    have HB := Lib.hid hB
    have hBs := hB.size
    have hgr := bk.lt
    clear hB
    by_cases hlt : k < n
    · by_cases hf0 : f = 0
      · subst hf0
        go_wp2_with fail
        refine (awake_any _).mono ?_
        rintro e w2 ⟨rfl, hb2⟩
        go_wp2
        go_ret
        exact ⟨rfl, below_end hb2 HB.out⟩
      · have fz : ((f : Int) != 0) = true := by rw [bne_iff_ne]; omega
        obtain ⟨ad, u, rfl, hblk, hx, hc⟩ := (HR.out.below HB.out).at_ hlt
        have hlz : k < zs.length := by have := HR.out.1; simp at this; omega
        have hz := HZ.out k hlz
        rw [List.getElem?_map, List.getElem?_eq_getElem hlz] at hx
        simp only [Option.map_some, Option.some.injEq] at hx
        rw [← hx] at hc
        clear hx
        generalize zs[k] = z at *
        have m2 := Pl.and24 z hz
        have zl : z % 16777216 < 16777216 := Nat.mod_lt _ (by decide)
        generalize z % 16777216 = a at *
        obtain ⟨hv, hM3, hM4⟩ := sync_step k M f a (by omega) (by omega) hM1 hM2 (by omega) hfl zl
        have HV := Lib.hid hv
        clear hv
        have k0 : (0 : Int) ≤ (k : Int) := by omega
        have k1 : (k : Int) < (n : Int) := by omega
        obtain ⟨p0, p1, p2, p3, p4, pf⟩ := blk5 bk
        go_wp2_with fail
        go_quiet ((go_at_call 15; exact quiet_left (all24 _)))
        go_wp2_with fail
        refine (add_any k M k k f f a (by omega) (by omega) (by omega) _).mono ?_
        rintro e w2 ⟨rfl, hb2⟩
        rw [HV.out]
        unfold cnt
        have b2 := (bk.drewN nq).below hb2 (by simpa using hgr)
        have HB2 := Lib.hid (below_end hb2 (below_drewN HB.out nq))
        have hg2 := b2.lt
        have hs2 := HB2.out.size
        clear p0 p1 p2 p3 p4 pf hb2 bk HB hgr hBs hc
        obtain ⟨p0, p1, p2, p3, p4, pf⟩ := blk5 b2
        go_wp2
        go_roundw
        case rel =>
          have e1 : ((k + 1 : Nat) : Int) = (k : Int) + 1 := by omega
          have hBo := HB2.out
          refine ⟨k + 1, a, M + Pl.pop f, by omega, zl, by omega, by omega, rfl, by rw [e1], ?_, ?_⟩
          · rw [e1]
            exact (((((b2.set_ 0 _).set_ 1 _).set_ 2 _).set_ 3 _).set_ 4 _).alloc _
          · exact (((((hBo.setCell hs1 _).setCell hs1 _).setCell hs1 _).setCell hs1 _).setCell hs1 _).alloc (by simpa using hs2) _
        case measure => simp [intOf]; omega
    · obtain rfl : k = n := by omega
      go_wp2_with fail
      refine (awake_any _).mono ?_
      rintro e w2 ⟨rfl, hb2⟩
      go_wp2
      go_ret
      exact ⟨rfl, below_end hb2 HB.out⟩
end Go.Proofs.Ythnjcnenncbagaa
