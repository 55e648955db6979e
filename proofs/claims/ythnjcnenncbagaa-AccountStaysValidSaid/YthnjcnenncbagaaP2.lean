/- PROVED: AccountStaysValid returns true for every input. No condition. -/
import Derived.Test.YthnjcnenncbagaaL2
import Derived.Test.YthnjcnenncbagaaO5
import Derived.Test.YthnjcnenncbagaaPB
import Derived.ProofKit
namespace Go.Proofs.Ythnjcnenncbagaa
open Go.ChangeShapes Go.WideShapes Go.ChangeAt Go.RowKit Go.Joins Go.Deep

theorem pb_cellsCount : Try.prog.cellsOf 24 = 5 := by kernel_rfl

theorem stays_law (s m r b : Int) (p ch af : Nat) (hp : p < 4294967296) (hb : b ≤ 9223372036854775807) (hc : ch < 4294967296) (ha : af < 4294967296) (w : World) :
    Calls Try.prog 4 #[cnt s m r b p, .int .u32 ch, .int .u32 af] w fun e w' => e = .returned (.bool true) ∧ Below w.heap.size w w' := by
  cases h : Pl.valid s m r b p
  · exact stays_skip s m r b p ch af hp hb hc ha (.inl h) w
  · by_cases hz : ch % 16777216 = 0
    · exact stays_skip s m r b p ch af hp hb hc ha (.inr (.inl ⟨h, hz⟩)) w
    · by_cases hs : s = 4096
      · exact stays_skip s m r b p ch af hp hb hc ha (.inr (.inr ⟨h, hz, hs⟩)) w
      · exact stays_go s m r b p ch af hp hc ha h hz hs w

set_option maxRecDepth 100000 in
theorem stays_lifted (os : Os) (started : os.Started) (H : Type) (enc : TypeId × Value → H) :
    ReturnsInHanded {} Try.checked os 4 .any (Rows.accountStaysValidSpec.pre6 enc Try.prog Try.f4 Rows.accountStaysValidRow.domain false) (Rows.accountStaysValidSpec.post enc Try.prog Try.f4 false true false false) := by
  refine returnsInHanded_of_change (C := Try.checked) pb_own started (by kernel_rfl) Try.func4
    (ChangeSpec.witness6 (enc := enc) (C := Try.checked) false ⟨#[], #[.agg #[.int .i64 0, .int .i64 0, .int .i64 0, .int .i64 0, .int .u32 0], .int .u32 0, .int .u32 0], []⟩ 8 (by kernel_rfl) (by kernel_rfl) (by kernel_rfl) (by kernel_rfl)) ?_
  intro W base args ds gs before hval0 hW hcnd _
  have hval : ∀ (j : Nat) t v, Try.f4.params[j]? = some t → args[j]? = some v → Value.okWide Try.prog W .any base t v := hval0
  have hW' := hW
  obtain ⟨p, q, hA0, hV, rfl, hfz, hnd⟩ := hW
  have hA : DataW.TrodAll enc Try.prog W 0 (fun _ => true) true Try.f4.params.toList args.toList ds p := hA0
  rw [Try.params4] at hA hval
  obtain ⟨v0, v1, v2, d0, d1, d2, p0, p1, p2, rfl, rfl, rfl, h0, h1, h2⟩ := trodAll_three hA
  obtain ⟨rfl, rfl⟩ := trodVars_none hV
  obtain ⟨c0, c1, c2, c3, c4, y0, y1, y2, y3, y4, fu, rfl, rfl, rfl, g0, g1, g2, g3, g4⟩ := open_agg5 Try.underlying24 (by kernel_rfl) pb_cellsCount (hval 0 24 v0 rfl rfl) h0
  obtain ⟨s, e0, rfl, ws⟩ := DataW.trod_int Try.underlying3 g0
  obtain ⟨m, e1, rfl, wm⟩ := DataW.trod_int Try.underlying3 g1
  obtain ⟨r, e2, rfl, wr⟩ := DataW.trod_int Try.underlying3 g2
  obtain ⟨b, e3, rfl, wb⟩ := DataW.trod_int Try.underlying3 g3
  obtain ⟨n, e4, rfl, wn⟩ := DataW.trod_int Try.underlying22 g4
  simp at e0 e1 e2 e3 e4
  subst e0 e1 e2 e3 e4
  obtain ⟨ch, rfl, rfl, rfl, wc⟩ := open_int Try.underlying22 (hval 1 22 v1 rfl rfl) h1
  obtain ⟨af, rfl, rfl, rfl, wa⟩ := open_int Try.underlying22 (hval 2 22 v2 rfl rfl) h2
  obtain ⟨n, rfl, hn⟩ := pb_u32 wn
  obtain ⟨ch, rfl, hc⟩ := pb_u32 wc
  obtain ⟨af, rfl, ha⟩ := pb_u32 wa
  clear hA0 hval0
  simp only [List.append_nil] at hW'
  refine (stays_law s m r b n ch af hn (pb_i64 wb).2 hc ha W).mono fun e W' ⟨he, hg⟩ => ?_
  subst he
  exact ⟨_, rfl, post_below pb_laidOut (of_decide_eq_true (by kernel_rfl)) Try.underlying4 rfl rfl hW' rfl rfl rfl hg⟩

theorem accountStaysValid_holds : Rows.AccountStaysValidSaid :=
  OpenClaim.holds_of_wide 4 Try.f4 rfl rfl rfl rfl rfl rfl rfl ⟨rfl, rfl, rfl, rfl, rfl⟩ rfl rfl rfl rfl rfl (by kernel_rfl) Try.func4 (by kernel_rfl)
    (of_decide_eq_true (by kernel_rfl)) (by unfold Func.isWrapper; first | (rw [if_pos (by decide +kernel)]; kernel_rfl) | (rw [if_neg (by decide +kernel)]; exact ⟨rfl, rfl⟩))
    (fun os started H enc _ => stays_lifted os started H enc)
#print axioms accountStaysValid_holds
end Go.Proofs.Ythnjcnenncbagaa
