/- ref19.into: how many arcs of a list lead into a set. -/
import Derived.Test.YtbilciiffecdgaaMK
import Derived.Test.YtbilciiffecdgaaC7
import Derived.Test.YtbilciiffecdgaaPlF
namespace Go.Proofs.Ytbilciiffecdgaa
open Go.RowKit

theorem countP_step' {l : List Nat} {f : Nat → Bool} {j t : Nat} (h : l[j]? = some t) : (l.take (j + 1)).countP f = (l.take j).countP f + (f t).toNat := by
  rw [List.take_add_one, h, List.countP_append]
  cases hf : f t <;> simp [hf]

set_option maxHeartbeats 400000 in
theorem into_any (l : List Arc) (hl : l.length ≤ 1000000) (n : Nat) (f : Nat → Bool) (hto : ∀ x ∈ l, 0 ≤ x.2 ∧ x.2 < n) (A B : Option Addr) (ca cb B1 B2 : Nat) (w : World) (hr : Reads w B1 2 A l.length (l.flatMap arcCells)) (hs : Reads w B2 1 B n ((marks n f).map Value.bool)) :
    Calls Try.prog 49 #[.slice A l.length ca, .slice B n cb] w fun e w' => e = .returned (.int .i64 ((l.map fun x => x.2.toNat).countP f : Nat)) ∧ w = w' := by
  have RA := Lib.hid hr
  have RB := Lib.hid hs
  have HT := Lib.hid hto
  clear hr hs hto
  go_enter Try.func49, Try.ntmps49
  go_wp2
  go_loop [5, 6] (fun s i => ∃ k : Nat, k ≤ l.length ∧ i = .int .i64 k ∧ s = .int .i64 (((l.map fun x => x.2.toNat).take k).countP f : Nat)) (fun _ i => l.length - (intOf i).toNat)
  case atStart => exact ⟨0, Nat.zero_le _, rfl, rfl⟩
  case round =>
    obtain ⟨k, hk, rfl, rfl⟩ := hrel
    have hcl : ((l.map fun x => x.2.toNat).take k).countP f ≤ k := Nat.le_trans List.countP_le_length (List.length_take_le _ _)
    by_cases hlt : k < l.length
    · obtain ⟨ad, rfl, -, c0, c1⟩ := arc_at RA.out hlt
      have hx := HT.out l[k] (List.getElem_mem _)
      have hg : (l.map fun x => x.2.toNat)[k]? = some l[k].2.toNat := by rw [List.getElem?_map, List.getElem?_eq_getElem hlt]; rfl
      generalize l[k] = x at *
      obtain ⟨xs, xt⟩ := x
      dsimp only at c0 c1 hx hg
      obtain ⟨t, rfl⟩ : ∃ t : Nat, xt = (t : Int) := ⟨xt.toNat, by omega⟩
      rw [Int.toNat_natCast] at hg
      have htn : t < n := by omega
      have hb := bool_at (l := marks n f) (k := t) (by rw [marks_len]; exact RB.out) (by rw [marks_len]; exact htn)
      obtain ⟨bd, rfl, -, c2⟩ := hb
      rw [marks_get] at c2
      have HCS := Lib.hid (countP_step' (f := f) hg)
      generalize ((l.map fun x => x.2.toNat).take k).countP f = q at *
      have k0 : (0 : Int) ≤ (k : Int) := by omega
      have k1 : (k : Int) < (l.length : Int) := by omega
      have t0 : (0 : Int) ≤ (t : Int) := by omega
      have t1 : (t : Int) < (n : Int) := by omega
      clear hx hg
      cases hft : f t
      all_goals
        rw [hft] at c2 HCS
        clear hft
        go_wp2
        refine ⟨⟨k + 1, by omega, by go_num, ?_⟩, by simp [intOf]; omega⟩
        rw [HCS.out]
        first | rfl | go_num
    · have htk : (l.map fun x => x.2.toNat).take k = l.map fun x => x.2.toNat := List.take_of_length_le (by simp; omega)
      rw [htk]
      clear htk
      go_wp2
      go_ret
      exact ⟨rfl, rfl⟩
theorem into_is (l : List Arc) (hl : l.length ≤ 1000000) (n : Nat) (f : Nat → Bool) (hto : ∀ x ∈ l, 0 ≤ x.2 ∧ x.2 < n) (q : Nat) (hq : (l.map fun x => x.2.toNat).countP f = q) (A B : Option Addr) (ca cb B1 B2 : Nat) (w : World) (hr : Reads w B1 2 A l.length (l.flatMap arcCells)) (hs : Reads w B2 1 B n ((marks n f).map Value.bool)) :
    Calls Try.prog 49 #[.slice A l.length ca, .slice B n cb] w fun e w' => e = .returned (.int .i64 q) ∧ w = w' := by
  rw [← hq]; exact into_any l hl n f hto A B ca cb B1 B2 w hr hs
end Go.Proofs.Ytbilciiffecdgaa
