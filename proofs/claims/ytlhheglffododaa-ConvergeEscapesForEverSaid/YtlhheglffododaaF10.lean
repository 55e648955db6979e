/- law.leads: an arc leads from one state to another. -/
import Derived.Test.YtlhheglffododaaC8
namespace Go.Proofs.Ytlhheglffododaa
open Go.RowKit

set_option maxHeartbeats 1000000 in
theorem leads_yes (E : List Nat) (L : List (List Arc)) (v : Value) (hL : WfL L) (hto : ∀ k (hk : k < L.length), ∀ x ∈ L[k], 0 ≤ x.2 ∧ x.2 < (L.length : Int)) (k t : Nat) (hk : k < L.length) (_hn : L.length ≤ 32768) (ht : t ∈ PlG.tg L k) (w : World) (hS : SpaceAt w w.heap.size v E L) :
    Calls Try.prog 24 #[v, .int .i64 k, .int .i64 t] w fun e w' => e = .returned (.bool true) ∧ Below w.heap.size w w' := by
  obtain ⟨ve, va, rfl, ⟨Ae, ce, rfl, re⟩, ⟨Aa, ca, rows, rfl, ra, hkk⟩⟩ := hS
  have HB0 := Lib.hid ((Below.refl w.heap.size w).alloc (Nat.le_refl _) (.cells #[.slice Ae E.length ce, .slice Aa L.length ca] 25))
  obtain ⟨ad, Ak, ck, rfl, hbl, cr, rk⟩ := row_at (ra.below HB0.out) (fun k l hl => let ⟨u, hu, ha⟩ := hkk k l hl; (⟨u, hu, ha.below HB0.out⟩ : ∃ u, rows[k]? = some u ∧ ArcsAt _ w.heap.size u l)) hk
  obtain ⟨p0, p1, pf⟩ := blk2 (Blk.new w 25 #[.slice Ae E.length ce, .slice (some ad) L.length ca])
  have hll := (hL k hk).1
  have HTG := Lib.hid (PlG.tg_get L k · hk)
  have HTL := Lib.hid (PlG.tg_len L k hk)
  have HTO := Lib.hid (hto k hk)
  obtain ⟨j0, hj0⟩ := List.getElem?_of_mem ht
  have hj1 : j0 < L[k].length := by rw [← HTL.out]; exact (List.getElem?_eq_some_iff.1 hj0).1
  have HJ := Lib.hid hj0
  have RK := Lib.hid rk
  have k0 : (0 : Int) ≤ (k : Int) := by omega
  have k1 : (k : Int) < (L.length : Int) := by omega
  clear re ra hkk hL hto ht hj0 rk
  generalize L[k] = l at *
  generalize hW : w.alloc (.cells #[.slice Ae E.length ce, .slice (some ad) L.length ca] 25) = w1 at *
  go_enter Try.func24, Try.ntmps24
  go_wp2_with fail
  try rw [hW]
  clear hW
  go_loop [7] (fun i => ∃ j : Nat, j ≤ j0 ∧ i = .int .i64 j) (fun i => j0 + 1 - (intOf i).toNat)
  case atStart => exact ⟨0, Nat.zero_le _, rfl⟩
  case round =>
    obtain ⟨j, hj, rfl⟩ := hrel
    have hlt : j < l.length := by omega
    obtain ⟨bd, hA, -, c0, c1⟩ := arc_at RK.out hlt
    subst hA
    have htg := HTG.out j hlt
    have hx := HTO.out l[j] (List.getElem_mem _)
    have HE := Lib.hid (fun (e : j = j0) => (by subst e; rw [HJ.out] at htg; injection htg : t = l[j].2.toNat))
    clear htg
    generalize l[j] = x at *
    obtain ⟨xs, xt⟩ := x
    dsimp only at c0 c1 hx HE
    obtain ⟨y, rfl⟩ : ∃ y : Nat, xt = (y : Int) := ⟨xt.toNat, by omega⟩
    rw [Int.toNat_natCast] at HE
    have j0' : (0 : Int) ≤ (j : Int) := by omega
    have j1 : (j : Int) < (l.length : Int) := by omega
    by_cases hyt : y = t
    · subst hyt
      have e1 : ((y : Int) == (y : Int)) = true := beq_self_eq_true _
      clear HE hx
      go_wp2
      go_ret
      exact ⟨rfl, HB0.out⟩
    · have e1 : ((y : Int) == (t : Int)) = false := beq_eq_false_iff_ne.2 (by omega)
      have e2 : (y == t) = false := beq_eq_false_iff_ne.2 hyt
      have hne : j ≠ j0 := fun e => hyt (HE.out e).symm
      clear HE hx
      go_wp2
      exact ⟨⟨j + 1, by omega, by go_num⟩, by simp [intOf]; omega⟩
end Go.Proofs.Ytlhheglffododaa
