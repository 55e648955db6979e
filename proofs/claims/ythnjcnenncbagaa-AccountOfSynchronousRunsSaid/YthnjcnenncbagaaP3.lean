/- PROVED: AccountOfSynchronousRuns returns true for every input. No condition. -/
import Derived.Test.YthnjcnenncbagaaL3
import Derived.Test.YthnjcnenncbagaaKO
import Derived.Test.YthnjcnenncbagaaPB
import Derived.ProofKit
namespace Go.Proofs.Ythnjcnenncbagaa
open Go.ChangeShapes Go.WideShapes Go.ChangeAt Go.RowKit

theorem pb_cellsU32 : Try.prog.cellsOf 22 = 1 := by kernel_rfl

theorem sync_law (first : Nat) (hf : first < 4294967296) (A : Option Addr) (n c : Nat) (zs : List Nat) (hm : n ≤ 9223372036854775807) (hz : ∀ k (h : k < zs.length), zs[k] < 4294967296) (w : World)
    (hr : Reads w w.heap.size 1 A n (zs.map fun z : Nat => Value.int .u32 (z : Int))) :
    Calls Try.prog 7 #[.int .u32 first, .slice A n c] w fun e w' => e = .returned (.bool true) ∧ Below w.heap.size w w' := by
  rcases Nat.lt_or_ge 100 n with h | h
  · exact sync_long first hf A n c h hm w
  · exact sync_short first hf A n c h zs hz w hr

set_option maxRecDepth 100000 in
theorem sync_lifted (os : Os) (started : os.Started) (H : Type) (enc : TypeId × Value → H) :
    ReturnsInHanded {} Try.checked os 7 .any (Rows.accountOfSynchronousRunsSpec.pre6 enc Try.prog Try.f7 Rows.accountOfSynchronousRunsRow.domain false) (Rows.accountOfSynchronousRunsSpec.post enc Try.prog Try.f7 false true false false) := by
  refine returnsInHanded_of_change (C := Try.checked) pb_own started (by kernel_rfl) Try.func7
    (ChangeSpec.witness6 (enc := enc) (C := Try.checked) false ⟨#[], #[.int .u32 0, .slice none 0 0], []⟩ 8 (by kernel_rfl) (by kernel_rfl) (by kernel_rfl) (by kernel_rfl)) ?_
  intro W base args ds gs before hval0 hW hcnd _
  have hval : ∀ (j : Nat) t v, Try.f7.params[j]? = some t → args[j]? = some v → Value.okWide Try.prog W .any base t v := hval0
  have hW' := hW
  obtain ⟨p, q, hA0, hV, rfl, hfz, hnd⟩ := hW
  have hA : DataW.TrodAll enc Try.prog W 0 (fun _ => true) true Try.f7.params.toList args.toList ds p := hA0
  rw [Try.params7] at hA hval
  obtain ⟨v0, v1, d0, d1, p0, p1, rfl, rfl, rfl, h0, h1⟩ := trodAll_two hA
  obtain ⟨rfl, rfl⟩ := trodVars_none hV
  obtain ⟨x0, rfl, rfl, rfl, w0⟩ := open_int Try.underlying22 (hval 0 22 v0 rfl rfl) h0
  obtain ⟨A, n, c, zs, rfl, hn, hnc, hzl, hwz, hr⟩ := open_ints_list Try.underlying35 Try.underlying22 pb_cellsU32 (hval 1 35 v1 rfl rfl) h1
  obtain ⟨ns, rfl, hns⟩ := nats_of_u32 zs hwz
  rw [List.map_map] at hr
  obtain ⟨x0, rfl, hx0⟩ := pb_u32 w0
  clear hA0 hval0
  simp only [List.append_nil] at hW'
  refine (sync_law x0 hx0 A n c ns (by unfold maxLen at hn; omega) hns W hr).mono fun e W' ⟨he, hg⟩ => ?_
  subst he
  exact ⟨_, rfl, post_below pb_laidOut (of_decide_eq_true (by kernel_rfl)) Try.underlying4 rfl rfl hW' rfl rfl rfl hg⟩

theorem accountOfSynchronousRuns_holds : Rows.AccountOfSynchronousRunsSaid :=
  OpenClaim.holds_of_wide 7 Try.f7 rfl rfl rfl rfl rfl rfl rfl ⟨rfl, rfl, rfl, rfl, rfl⟩ rfl rfl rfl rfl rfl (by kernel_rfl) Try.func7 (by kernel_rfl)
    (of_decide_eq_true (by kernel_rfl)) (by unfold Func.isWrapper; first | (rw [if_pos (by decide +kernel)]; kernel_rfl) | (rw [if_neg (by decide +kernel)]; exact ⟨rfl, rfl⟩))
    (fun os started H enc _ => sync_lifted os started H enc)
#print axioms accountOfSynchronousRuns_holds
end Go.Proofs.Ythnjcnenncbagaa
