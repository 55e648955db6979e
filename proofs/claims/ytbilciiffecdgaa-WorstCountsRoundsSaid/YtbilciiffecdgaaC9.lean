/- The law's own light and fair. -/
import Derived.Test.YtbilciiffecdgaaC5
import Derived.Test.YtbilciiffecdgaaM1
namespace Go.Proofs.Ytbilciiffecdgaa
open Go.RowKit

def lightB (E : List Nat) (L : List (List Arc)) (m : Nat) : Bool := decide (E.length ≤ 120 ∧ L.length ≤ 120 ∧ m ≤ 130) && L.all (fun l => decide (l.length ≤ 40))
def WfV (L : List (List Arc)) : Prop := ∀ k (h : k < L.length) j (h' : j < L[k].length), L[k][j].1 < 4294967296

theorem light_parts {E : List Nat} {L : List (List Arc)} {m : Nat} (h : lightB E L m = true) : E.length ≤ 120 ∧ L.length ≤ 120 ∧ m ≤ 130 ∧ ∀ k (h : k < L.length), L[k].length ≤ 40 := by
  simp only [lightB, Bool.and_eq_true, decide_eq_true_eq, List.all_eq_true] at h
  exact ⟨h.1.1, h.1.2.1, h.1.2.2, fun k hk => h.2 _ (List.getElem_mem _)⟩
theorem wfl_light {E : List Nat} {L : List (List Arc)} {m : Nat} (hv : WfV L) (h : lightB E L m = true) : WfL L := fun k hk =>
  ⟨by have := (light_parts h).2.2.2 k hk; omega, fun j hj => hv k hk j hj⟩

theorem all_take_no {L : List (List Arc)} {k : Nat} (h : k < L.length) (hno : ¬ L[k].length ≤ 40) : L.all (fun l => decide (l.length ≤ 40)) = false :=
  List.all_eq_false.2 ⟨L[k], List.getElem_mem _, by simpa using hno⟩
theorem all_take_step {L : List (List Arc)} {k : Nat} (h : k < L.length) (hy : L[k].length ≤ 40) (ha : (L.take k).all (fun l => decide (l.length ≤ 40)) = true) : (L.take (k + 1)).all (fun l => decide (l.length ≤ 40)) = true := by
  rw [List.take_succ_eq_append_getElem h, List.all_append, ha]; simp [hy]

set_option maxHeartbeats 1000000 in
theorem light_any (E : List Nat) (L : List (List Arc)) (v : Value) (A : Option Addr) (m c : Nat) (w : World) (hS : SpaceAt w w.heap.size v E L) :
    Calls Try.prog 11 #[v, .slice A m c] w fun e w' => e = .returned (.bool (lightB E L m)) ∧ Below w.heap.size w w' := by
  obtain ⟨ve, va, rfl, ⟨Ae, ce, rfl, re⟩, ⟨Aa, ca, rows, rfl, ra, hk⟩⟩ := hS
  have RA := Lib.hid ra
  have HK := Lib.hid hk
  clear re ra hk
  have hb0 := (Below.refl w.heap.size w).alloc (Nat.le_refl _) (.cells #[.slice Ae E.length ce, .slice Aa L.length ca] 25)
  have HB0 := Lib.hid hb0
  clear hb0
  by_cases h1 : E.length ≤ 120
  · by_cases h2 : L.length ≤ 120
    · by_cases h3 : m ≤ 130
      · have HF := Lib.hid (show lightB E L m = L.all (fun l => decide (l.length ≤ 40)) by unfold lightB; rw [decide_eq_true ⟨h1, h2, h3⟩]; rfl)
        go_enter Try.func11, Try.ntmps11
        go_wp2
        generalize hW : World.alloc _ _ = W
        have bs : Blk W w.heap.size 25 #[.slice Ae E.length ce, .slice Aa L.length ca] := by rw [← hW]; exact Blk.new _ _ _
        have hB : Below w.heap.size w W := by rw [← hW]; exact HB0.out
        have HB := Lib.hid hB
        obtain ⟨p0, p1, pf⟩ := blk2 bs
        have RAW := Lib.hid (RA.out.below hB)
        have HKW := Lib.hid (fun k l hl => let ⟨u, hu, ha⟩ := HK.out k l hl; (⟨u, hu, ha.below hB⟩ : ∃ u, rows[k]? = some u ∧ ArcsAt W w.heap.size u l))
        clear hW hB HB0 RA HK
        go_loop [5] (fun i => ∃ k : Nat, k ≤ L.length ∧ i = .int .i64 k ∧ (L.take k).all (fun l => decide (l.length ≤ 40)) = true) (fun i => L.length - (intOf i).toNat)
        case atStart => exact ⟨0, Nat.zero_le _, rfl, rfl⟩
        case round =>
          obtain ⟨k, hk, rfl, ha⟩ := hrel
          have HA := Lib.hid ha
          clear ha
          by_cases hlt : k < L.length
          · obtain ⟨ad, Ak, ck, rfl, hbl, cr, -⟩ := row_at RAW.out HKW.out hlt
            have HNO := Lib.hid (all_take_no hlt)
            have HYES := Lib.hid (all_take_step hlt)
            generalize L[k].length = ll at *
            have k0 : (0 : Int) ≤ (k : Int) := by omega
            have k1 : (k : Int) < (L.length : Int) := by omega
            by_cases h4 : ll ≤ 40
            · go_wp2
              exact ⟨⟨k + 1, by omega, by go_num, HYES.out h4 HA.out⟩, by simp [intOf]; omega⟩
            · go_wp2
              go_ret
              exact ⟨ret_bool (by rw [HF.out, HNO.out h4]), HB.out⟩
          · go_wp2
            go_ret
            refine ⟨ret_bool ?_, HB.out⟩
            rw [HF.out, ← HA.out, List.take_of_length_le (by omega)]
      · have HF := Lib.hid (show lightB E L m = false by unfold lightB; rw [decide_eq_false (fun h => h3 h.2.2)]; rfl)
        go_enter Try.func11, Try.ntmps11
        go_wp2
        go_ret
        exact ⟨ret_bool HF.out.symm, HB0.out⟩
    · have HF := Lib.hid (show lightB E L m = false by unfold lightB; rw [decide_eq_false (fun h => h2 h.2.1)]; rfl)
      go_enter Try.func11, Try.ntmps11
      go_wp2
      go_ret
      exact ⟨ret_bool HF.out.symm, HB0.out⟩
  · have HF := Lib.hid (show lightB E L m = false by unfold lightB; rw [decide_eq_false (fun h => h1 h.1)]; rfl)
    go_enter Try.func11, Try.ntmps11
    go_wp2
    go_ret
    exact ⟨ret_bool HF.out.symm, HB0.out⟩

theorem light_is (E : List Nat) (L : List (List Arc)) (v : Value) (A : Option Addr) (m c : Nat) (b : Bool) (h : lightB E L m = b) (w : World) (hS : SpaceAt w w.heap.size v E L) :
    Calls Try.prog 11 #[v, .slice A m c] w fun e w' => e = .returned (.bool b) ∧ Below w.heap.size w w' := by rw [← h]; exact light_any E L v A m c w hS
end Go.Proofs.Ytbilciiffecdgaa
