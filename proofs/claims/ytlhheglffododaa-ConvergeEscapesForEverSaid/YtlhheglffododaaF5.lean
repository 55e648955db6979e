/- ref19.follow, ref19.find. -/
import Derived.Test.YtlhheglffododaaC8
import Derived.Test.YtlhheglffododaaPlE
namespace Go.Proofs.Ytlhheglffododaa
open Go.RowKit

theorem find_hit {l : List Nat} {f : Nat → Bool} {k t : Nat} (h : l[k]? = some t) (hf : f t = true) : (l.drop k).find? f = some t := by
  obtain ⟨hk, rfl⟩ := List.getElem?_eq_some_iff.1 h
  rw [List.drop_eq_getElem_cons hk, List.find?_cons_of_pos hf]
theorem find_pass {l : List Nat} {f : Nat → Bool} {k t : Nat} (h : l[k]? = some t) (hf : f t = false) : (l.drop (k + 1)).find? f = (l.drop k).find? f := by
  obtain ⟨hk, rfl⟩ := List.getElem?_eq_some_iff.1 h
  rw [List.drop_eq_getElem_cons hk, List.find?_cons_of_neg (by rw [hf]; exact Bool.false_ne_true)]

set_option maxHeartbeats 400000 in
theorem follow_any (l : List Arc) (hl : l.length ≤ 1000000) (n : Nat) (f : Nat → Bool) (hto : ∀ x ∈ l, 0 ≤ x.2 ∧ x.2 < n) (r : Option Nat) (hq : (l.map fun x => x.2.toNat).find? f = r) (A B : Option Addr) (ca cb B1 B2 : Nat) (w : World) (hr : Reads w B1 2 A l.length (l.flatMap arcCells)) (hs : Reads w B2 1 B n ((marks n f).map Value.bool)) :
    Calls Try.prog 32 #[.slice A l.length ca, .slice B n cb] w fun e w' => e = .returned (.int .i64 (PlE.opt r)) ∧ w = w' := by
  have RA := Lib.hid hr
  have RB := Lib.hid hs
  have HT := Lib.hid hto
  have HQ := Lib.hid hq
  clear hr hs hto hq
  go_enter Try.func32, Try.ntmps32
  go_wp2
  go_loop [5] (fun i => ∃ k : Nat, k ≤ l.length ∧ i = .int .i64 k ∧ ((l.map fun x => x.2.toNat).drop k).find? f = r) (fun i => l.length - (intOf i).toNat)
  case atStart => exact ⟨0, Nat.zero_le _, rfl, HQ.out⟩
  case round =>
    clear HQ
    obtain ⟨k, hk, rfl, hq⟩ := hrel
    have HQ := Lib.hid hq
    clear hq
    by_cases hlt : k < l.length
    · obtain ⟨ad, rfl, -, c0, c1⟩ := arc_at RA.out hlt
      have hx := HT.out l[k] (List.getElem_mem _)
      have hg : (l.map fun x => x.2.toNat)[k]? = some l[k].2.toNat := by rw [List.getElem?_map, List.getElem?_eq_getElem hlt]; rfl
      generalize l[k] = x at *
      obtain ⟨xs, xt⟩ := x
      dsimp only at c0 c1 hx hg
      obtain ⟨t, rfl⟩ : ∃ t : Nat, xt = (t : Int) := ⟨xt.toNat, by omega⟩
      rw [Int.toNat_natCast] at hg
      have htn : t < n := by omega
      have hb := bool_at (l := marks n f) (k := t) (by rw [marks_len]; exact RB.out) (by rw [marks_len]; exact htn)
      obtain ⟨bd, rfl, -, c2⟩ := hb
      rw [marks_get] at c2
      have HP := Lib.hid (find_pass (f := f) hg)
      have HH := Lib.hid (find_hit (f := f) hg)
      have k0 : (0 : Int) ≤ (k : Int) := by omega
      have k1 : (k : Int) < (l.length : Int) := by omega
      have t0 : (0 : Int) ≤ (t : Int) := by omega
      have t1 : (t : Int) < (n : Int) := by omega
      clear hx hg
      cases hft : f t
      · rw [hft] at c2
        have HQ1 := Lib.hid ((HP.out hft).trans HQ.out)
        clear hft HP HH
        go_wp2
        exact ⟨⟨k + 1, by omega, by go_num, HQ1.out⟩, by simp [intOf]; omega⟩
      · rw [hft] at c2
        obtain rfl := (HH.out hft).symm.trans HQ.out
        clear hft HP HH
        go_wp2
        go_ret
        exact ⟨rfl, rfl⟩
    · obtain rfl : r = none := by rw [← HQ.out, List.drop_eq_nil_of_le (by simp; omega)]; rfl
      go_wp2
      go_ret
      exact ⟨rfl, rfl⟩

set_option maxHeartbeats 400000 in
theorem find_any (O : List Nat) (hl : O.length ≤ 1000000) (x : Nat) (z : Int) (hz : PlE.fnd O x = z) (A : Option Addr) (c B1 : Nat) (w : World) (hr : Reads w B1 1 A O.length (O.map I)) :
    Calls Try.prog 33 #[.slice A O.length c, .int .i64 x] w fun e w' => e = .returned (.int .i64 z) ∧ w = w' := by
  have RA := Lib.hid hr
  have HZ := Lib.hid hz
  clear hr hz
  go_enter Try.func33, Try.ntmps33
  go_wp2
  go_loop [5] (fun i => ∃ k : Nat, k ≤ O.length ∧ i = .int .i64 k ∧ x ∉ O.take k) (fun i => O.length - (intOf i).toNat)
  case atStart => exact ⟨0, Nat.zero_le _, rfl, by simp⟩
  case round =>
    obtain ⟨k, hk, rfl, hq⟩ := hrel
    have HQ := Lib.hid hq
    clear hq
    by_cases hlt : k < O.length
    · obtain ⟨ad, rfl, -, hc⟩ := RA.out.2 (by omega)
      have c0 := hc k (I O[k]) (by rw [List.getElem?_map, List.getElem?_eq_getElem hlt]; rfl)
      have HH := Lib.hid (PlE.fnd_hit hlt)
      have HM := Lib.hid (PlE.mem_take_succ' hlt x)
      clear hc
      unfold I at c0
      generalize O[k] = y at *
      have k0 : (0 : Int) ≤ (k : Int) := by omega
      have k1 : (k : Int) < (O.length : Int) := by omega
      by_cases hxy : y = x
      · subst hxy
        obtain rfl := (HH.out HQ.out).symm.trans HZ.out
        have e1 : ((y : Int) == (y : Int)) = true := beq_self_eq_true _
        go_wp2
        go_ret
        exact ⟨rfl, rfl⟩
      · have e1 : ((y : Int) == (x : Int)) = false := beq_eq_false_iff_ne.2 (by omega)
        have e2 : (y == x) = false := beq_eq_false_iff_ne.2 hxy
        have HQ1 := Lib.hid (show x ∉ O.take (k + 1) from fun h => by rcases HM.out.1 h with h | h; exact HQ.out h; exact hxy h.symm)
        go_wp2
        exact ⟨⟨k + 1, by omega, by go_num, HQ1.out⟩, by simp [intOf]; omega⟩
    · obtain rfl : k = O.length := by omega
      have hn : x ∉ O := by have := HQ.out; rwa [List.take_length] at this
      obtain rfl := (PlE.fnd_miss hn).symm.trans HZ.out
      go_wp2
      go_ret
      exact ⟨rfl, rfl⟩
end Go.Proofs.Ytlhheglffododaa
