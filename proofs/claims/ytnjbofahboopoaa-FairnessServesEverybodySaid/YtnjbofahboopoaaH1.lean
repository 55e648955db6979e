/- The example of law 21 and its sanity check. -/
import Derived.Test.YtnjbofahboopoaaG9
import Derived.Test.YtnjbofahboopoaaC10
import Derived.Test.YtnjbofahboopoaaN0
namespace Go.Proofs.Ytnjbofahboopoaa
open Go.RowKit

def exE : List Nat := [0, 3]
def exL : List (List Arc) := [[], [(1, 1), (2, 0)]]

theorem ex_space {w : World} {B g1 g2 g3 : Nat} (h1 : Blk w g1 39 #[.int .u32 0, .int .u32 3]) (h2 : Blk w g2 41 #[.int .u32 1, .int .i64 1, .int .u32 2, .int .i64 0])
    (h3 : Blk w g3 38 #[.slice none 0 0, .slice (some ⟨g2, 0, none⟩) 2 2]) (b1 : g1 < B) (b2 : g2 < B) (b3 : g3 < B) :
    SpaceAt w B (.agg #[.slice (some ⟨g1, 0, none⟩) 2 2, .slice (some ⟨g3, 0, none⟩) 2 2]) exE exL := by
  refine ⟨_, _, rfl, ⟨_, _, rfl, reads_blk (l := [.int .u32 0, .int .u32 3]) h1 b1 rfl⟩,
    ⟨_, _, [.slice none 0 0, .slice (some ⟨g2, 0, none⟩) 2 2], rfl, reads_blk (l := [.slice none 0 0, .slice (some ⟨g2, 0, none⟩) 2 2]) h3 b3 rfl, fun k l hl => ?_⟩⟩
  match k, hl with
  | 0, hl => injection hl with hl; subst hl; exact ⟨_, rfl, _, _, rfl, Reads.none_⟩
  | 1, hl => injection hl with hl; subst hl; exact ⟨_, rfl, _, _, rfl, reads_blk (l := [.int .u32 1, .int .i64 1, .int .u32 2, .int .i64 0]) h2 b2 rfl⟩
  | k + 2, hl => cases hl

def ExPost (w : World) (e : Ending) (w' : World) : Prop := ∃ v, e = .returned v ∧ SpaceAt w' w'.heap.size v exE exL ∧ Below w.heap.size w w'

set_option maxHeartbeats 1000000 in
theorem example_any (w : World) : Calls Try.prog 24 #[] w (ExPost w) := by
  go_enter Try.func24, Try.ntmps24
  go_wp2
  refine bodyPost_ret (v := .agg #[.slice (some ⟨w.heap.size + 1, 0, none⟩) 2 2, .slice (some ⟨w.heap.size + 3, 0, none⟩) 2 2]) ?_ rfl ⟨_, rfl, ?_, ?_⟩
  · simp [results, Try.results24, go_sem]
  · have a1 := Blk.new (w.alloc (.cells #[.slice (some ⟨w.heap.size + 1, 0, none⟩) 2 2, .slice (some ⟨w.heap.size + 1 + 1 + 1, 0, none⟩) 2 2] 25)) 39 #[.int .u32 0, .int .u32 3]
    have a2 := Blk.new ((w.alloc (.cells #[.slice (some ⟨w.heap.size + 1, 0, none⟩) 2 2, .slice (some ⟨w.heap.size + 1 + 1 + 1, 0, none⟩) 2 2] 25)).alloc (.cells #[.int .u32 0, .int .u32 3] 39)) 41 #[.int .u32 1, .int .i64 1, .int .u32 2, .int .i64 0]
    have a3 := Blk.new (((w.alloc (.cells #[.slice (some ⟨w.heap.size + 1, 0, none⟩) 2 2, .slice (some ⟨w.heap.size + 1 + 1 + 1, 0, none⟩) 2 2] 25)).alloc (.cells #[.int .u32 0, .int .u32 3] 39)).alloc (.cells #[.int .u32 1, .int .i64 1, .int .u32 2, .int .i64 0] 41)) 38 #[.slice none 0 0, .slice (some ⟨w.heap.size + 1 + 1, 0, none⟩) 2 2]
    simp only [World.size_alloc] at a1 a2 a3
    exact ex_space ((a1.alloc _).alloc _) (a2.alloc _) a3 (by simp only [World.size_alloc]; omega) (by simp only [World.size_alloc]; omega) (by simp only [World.size_alloc]; omega)
  · repeat (with_reducible first | exact Below.refl _ _ | refine Below.alloc ?_ (by first | exact Nat.le_refl _ | (simp only [World.size_alloc]; omega)) _)

theorem ex_wfE : WfE exE := fun k h => by
  have : ∀ x ∈ exE, x < 4294967296 := by decide
  exact this _ (List.getElem_mem _)
theorem ex_wfL : WfL exL := fun k h => by
  have : ∀ l ∈ exL, l.length ≤ 1000000 ∧ ∀ x ∈ l, x.1 < 4294967296 := by decide
  exact ⟨(this _ (List.getElem_mem _)).1, fun j hj => (this _ (List.getElem_mem _)).2 _ (List.getElem_mem _)⟩
theorem ex_ok : PlS.spaceOk exE exL = true := by decide +kernel

theorem ex_core : ¬ PlT.FCore 2 exE exL (isIn [true, false]) 1 := by
  have hsys : PlT.Sys 2 exE exL := sys_of ex_wfE ex_ok rfl
  rintro ⟨hs, y, hr, hg⟩
  have key : ∀ x y, PlT.Rch (PlG.tg exL) (isIn [true, false]) x y → x = 1 → y = 1 := by
    intro x y h
    induction h with
    | refl => exact id
    | step _ h1 h2 ih =>
      rename_i y z _
      intro hx
      have hy := ih hx
      subst hy
      have : z = 1 ∨ z = 0 := by simpa [PlG.tg, exL] using h1
      rcases this with rfl | rfl
      · rfl
      · cases h2
  obtain rfl := key 1 y hr rfl
  rcases (hsys.good (by decide) hs).1 hg with h | h
  · cases h
  · obtain ⟨x, hx, sx, -, hb⟩ := h.srv 1 (by decide)
    obtain rfl : x = 1 := by
      rcases x with _ | _ | x
      · cases sx
      · rfl
      · omega
    rcases hb with hb | ⟨a, ha, sa, -, hb⟩
    · cases hb
    · have : a = (1, 1) ∨ a = (2, 0) := by simpa [exL] using ha
      rcases this with rfl | rfl
      · cases hb
      · cases sa
theorem ex_num : PlT.num 2 (PlG.tg exL) (isIn [false, false]) 0 = 0 ∧ PlT.num 2 (PlG.tg exL) (isIn [false, false]) 1 = 1 := by
  have c0 := PlT.cnum_zero 2 (PlG.tg exL) (isIn [false, false])
  have h0 : PlT.num 2 (PlG.tg exL) (isIn [false, false]) 0 = 0 ∧ PlT.cnum 2 (PlG.tg exL) (isIn [false, false]) 1 = 1 := by
    rcases PlT.num_next (n := 2) (G := PlG.tg exL) (S := isIn [false, false]) (k := 0) (by decide) with ⟨h, _⟩ | ⟨_, h2, h3, _⟩ | ⟨_, h2, h3⟩
    · cases h
    · omega
    · exact ⟨by omega, h3.trans (by rw [c0])⟩
  refine ⟨h0.1, ?_⟩
  rcases PlT.num_next (n := 2) (G := PlG.tg exL) (S := isIn [false, false]) (k := 1) (by decide) with ⟨h, _⟩ | ⟨_, h2, h3, _⟩ | ⟨_, h2, h3⟩
  · cases h
  · have e : PlT.num 2 (PlG.tg exL) (isIn [false, false]) 0 = PlT.num 2 (PlG.tg exL) (isIn [false, false]) 1 := by omega
    have hm := (PlT.num_eq (n := 2) (x := 0) (y := 1) (by decide) (by decide) rfl rfl).1 e
    rcases hm.1.cases' with h | ⟨t, h, _⟩
    · cases h
    · cases h
  · omega

set_option maxHeartbeats 1000000 in
theorem awake_any (w : World) : Calls Try.prog 11 #[] w fun e w' => e = .returned (.bool true) ∧ Below w.heap.size w w' := by
  go_enter Try.func11, Try.ntmps11
  go_wp2_with fail
  refine (example_any _).mono ?_
  rintro e w1 ⟨v1, rfl, hS1, hb1⟩
  have HS1 := Lib.hid hS1
  have HB1 := Lib.hid hb1
  clear hS1 hb1
  have HBa := Lib.hid ((Below.refl w1.heap.size w1).alloc (Nat.le_refl _) (.cells #[.bool true, .bool false] 4))
  go_wp2_with fail
  refine (fcore_ok exE exL v1 ex_wfE ex_wfL ex_ok [true, false] rfl _ _ _ (HS1.out.go HBa.out) (reads_blk (l := [.bool true, .bool false]) (Blk.new w1 _ _) (by simp) rfl)).mono ?_
  rintro e w2 ⟨g, f, rfl, hg, bm, hf, hb2⟩
  have t3 : f 1 = false := by
    cases h : f 1
    · rfl
    · exact absurd ((hf 1 (by decide)).1 h) ex_core
  have m3 := mark_at bm (k := 1) (by decide)
  rw [t3] at m3
  have HB2 := Lib.hid (below_end hb2 (below_end HBa.out HB1.out))
  have hgl := bm.lt
  clear hb2 hf hg t3 HBa HB1 HS1 bm
  simp only [List.length_cons, List.length_nil, Nat.zero_add, Nat.reduceAdd] at *
  go_wp2_with fail
  refine (example_any _).mono ?_
  rintro e w3 ⟨v3, rfl, hS3, hb3⟩
  have m3' := (hb3.cell (p := ⟨g, 1, none⟩) hgl).trans m3
  have hgl3 : g < w3.heap.size := Nat.lt_of_lt_of_le hgl hb3.size
  have HS3 := Lib.hid hS3
  have HB3 := Lib.hid (below_end hb3 HB2.out)
  clear hS3 hb3 m3 HB2
  have HBa := Lib.hid ((Below.refl w3.heap.size w3).alloc (Nat.le_refl _) (.cells #[.bool false, .bool false] 4))
  go_wp2_with fail
  refine (comps_ok exE exL v3 ex_wfE ex_wfL ex_ok [false, false] rfl _ _ _ (HS3.out.go HBa.out) (reads_blk (l := [.bool false, .bool false]) (Blk.new w3 _ _) (by simp) rfl)).mono ?_
  rintro e w4 ⟨g', rfl, hg', bm', hb4⟩
  have hnn : nums 2 (PlT.num 2 (PlG.tg exL) (isIn [false, false])) = [0, 1].map (fun z => Value.int .i64 z) := by
    unfold nums
    show [_, _] = _
    simp [ex_num.1, ex_num.2]
  simp only [List.length_cons, List.length_nil, Nat.zero_add, Nat.reduceAdd] at bm' hb4 hg'
  rw [hnn] at bm'
  have m4 := (hb4.cell (p := ⟨g, 1, none⟩) (by simp; omega)).trans ((World.cell?_alloc_lt _ _ _ hgl3).trans m3')
  have HB4 := Lib.hid (below_end hb4 (below_end HBa.out HB3.out))
  have HBM := Lib.hid bm'
  have hgl4 : g < w4.heap.size := by have := hb4.size; simp at this; omega
  have m5 : (w4.alloc (.cells #[.int .i64 0, .int .i64 1] 3)).cell? ⟨g, 1, none⟩ = some (.bool false) := (World.cell?_alloc_lt _ _ _ hgl4).trans m4
  have HBb := Lib.hid ((Below.refl w4.heap.size w4).alloc (Nat.le_refl _) (.cells #[.int .i64 0, .int .i64 1] 3))
  clear hb4 hg' bm' m3' HBa HB3 hnn
  simp only [List.length_cons, List.length_nil, Nat.zero_add, Nat.reduceAdd] at *
  go_wp2_with fail
  refine (sameInts_eq [0, 1] (by decide) (some ⟨g', 0, none⟩) (some ⟨w4.heap.size, 0, none⟩) _ _ (w4.heap.size + 1) (w4.heap.size + 1) _ (reads_blk (HBM.out.alloc _) (by have := HBM.out.lt; omega) rfl) (reads_blk (l := [.int .i64 0, .int .i64 1]) (Blk.new w4 _ _) (by omega) rfl)).mono ?_
  rintro e w5 ⟨rfl, d, rfl⟩
  have HB5 := Lib.hid (below_drewN (below_end HBb.out HB4.out) d)
  clear HBb HB4 HBM m5
  go_wp2
  go_ret
  exact ⟨rfl, HB5.out⟩
end Go.Proofs.Ytnjbofahboopoaa
