/- The example of the law and its sanity check. -/
import Derived.Test.YtlhheglffododaaC8
import Derived.Test.YtlhheglffododaaC10
namespace Go.Proofs.Ytlhheglffododaa
open Go.RowKit

def exE : List Nat := [0, 2, 1, 3]
def exL : List (List Arc) := [[], [(2, 0)], [(1, 0)], [(1, 1), (2, 2), (3, 0)]]

theorem reads_blk {w : World} {g t B size n : Nat} {l : List Value} (h : Blk w g t l.toArray) (hB : g < B) (hl : l.length = n * size) : Reads w B size (some ⟨g, 0, none⟩) n l :=
  ⟨hl, fun _ => ⟨_, rfl, hB, fun j u hu => by
    have := h.cell j
    rw [List.getElem?_toArray, hu] at this
    unfold Addr.add
    split
    · rename_i h0; subst h0; exact this
    · simpa using this⟩⟩

theorem ex_space {w : World} {B g1 g2 g3 g4 g5 : Nat} (h1 : Blk w g1 35 #[.int .u32 0, .int .u32 2, .int .u32 1, .int .u32 3]) (h2 : Blk w g2 37 #[.int .u32 2, .int .i64 0]) (h3 : Blk w g3 37 #[.int .u32 1, .int .i64 0])
    (h4 : Blk w g4 37 #[.int .u32 1, .int .i64 1, .int .u32 2, .int .i64 2, .int .u32 3, .int .i64 0])
    (h5 : Blk w g5 34 #[.slice none 0 0, .slice (some ⟨g2, 0, none⟩) 1 1, .slice (some ⟨g3, 0, none⟩) 1 1, .slice (some ⟨g4, 0, none⟩) 3 3]) (b1 : g1 < B) (b2 : g2 < B) (b3 : g3 < B) (b4 : g4 < B) (b5 : g5 < B) :
    SpaceAt w B (.agg #[.slice (some ⟨g1, 0, none⟩) 4 4, .slice (some ⟨g5, 0, none⟩) 4 4]) exE exL := by
  refine ⟨_, _, rfl, ⟨_, _, rfl, reads_blk (l := [.int .u32 0, .int .u32 2, .int .u32 1, .int .u32 3]) h1 b1 rfl⟩,
    ⟨_, _, [.slice none 0 0, .slice (some ⟨g2, 0, none⟩) 1 1, .slice (some ⟨g3, 0, none⟩) 1 1, .slice (some ⟨g4, 0, none⟩) 3 3], rfl, reads_blk (l := [.slice none 0 0, .slice (some ⟨g2, 0, none⟩) 1 1, .slice (some ⟨g3, 0, none⟩) 1 1, .slice (some ⟨g4, 0, none⟩) 3 3]) h5 b5 rfl, fun k l hl => ?_⟩⟩
  match k, hl with
  | 0, hl => injection hl with hl; subst hl; exact ⟨_, rfl, _, _, rfl, Reads.none_⟩
  | 1, hl => injection hl with hl; subst hl; exact ⟨_, rfl, _, _, rfl, reads_blk (l := [.int .u32 2, .int .i64 0]) h2 b2 rfl⟩
  | 2, hl => injection hl with hl; subst hl; exact ⟨_, rfl, _, _, rfl, reads_blk (l := [.int .u32 1, .int .i64 0]) h3 b3 rfl⟩
  | 3, hl => injection hl with hl; subst hl; exact ⟨_, rfl, _, _, rfl, reads_blk (l := [.int .u32 1, .int .i64 1, .int .u32 2, .int .i64 2, .int .u32 3, .int .i64 0]) h4 b4 rfl⟩
  | k + 4, hl => cases hl

def ExPost (w : World) (e : Ending) (w' : World) : Prop := ∃ v, e = .returned v ∧ SpaceAt w' w'.heap.size v exE exL ∧ Below w.heap.size w w'

set_option maxHeartbeats 1000000 in
theorem example_any (w : World) : Calls Try.prog 26 #[] w (ExPost w) := by
  go_enter Try.func26, Try.ntmps26
  go_wp2
  refine bodyPost_ret (v := .agg #[.slice (some ⟨w.heap.size + 1, 0, none⟩) 4 4, .slice (some ⟨w.heap.size + 5, 0, none⟩) 4 4]) ?_ rfl ⟨_, rfl, ?_, ?_⟩
  · simp [results, Try.results26, go_sem]
  · have a1 := Blk.new (w.alloc (.cells #[.slice (some ⟨w.heap.size + 1, 0, none⟩) 4 4, .slice (some ⟨w.heap.size + 1 + 1 + 1 + 1 + 1, 0, none⟩) 4 4] 25)) 35 #[.int .u32 0, .int .u32 2, .int .u32 1, .int .u32 3]
    have a2 := Blk.new ((w.alloc (.cells #[.slice (some ⟨w.heap.size + 1, 0, none⟩) 4 4, .slice (some ⟨w.heap.size + 1 + 1 + 1 + 1 + 1, 0, none⟩) 4 4] 25)).alloc (.cells #[.int .u32 0, .int .u32 2, .int .u32 1, .int .u32 3] 35)) 37 #[.int .u32 2, .int .i64 0]
    have a3 := Blk.new _ 37 #[.int .u32 1, .int .i64 0] |> fun h => (h : Blk (World.alloc (((w.alloc (.cells #[.slice (some ⟨w.heap.size + 1, 0, none⟩) 4 4, .slice (some ⟨w.heap.size + 1 + 1 + 1 + 1 + 1, 0, none⟩) 4 4] 25)).alloc (.cells #[.int .u32 0, .int .u32 2, .int .u32 1, .int .u32 3] 35)).alloc (.cells #[.int .u32 2, .int .i64 0] 37)) (.cells #[.int .u32 1, .int .i64 0] 37)) _ _ _)
    have a4 := Blk.new ((((w.alloc (.cells #[.slice (some ⟨w.heap.size + 1, 0, none⟩) 4 4, .slice (some ⟨w.heap.size + 1 + 1 + 1 + 1 + 1, 0, none⟩) 4 4] 25)).alloc (.cells #[.int .u32 0, .int .u32 2, .int .u32 1, .int .u32 3] 35)).alloc (.cells #[.int .u32 2, .int .i64 0] 37)).alloc (.cells #[.int .u32 1, .int .i64 0] 37)) 37 #[.int .u32 1, .int .i64 1, .int .u32 2, .int .i64 2, .int .u32 3, .int .i64 0]
    have a5 := Blk.new (((((w.alloc (.cells #[.slice (some ⟨w.heap.size + 1, 0, none⟩) 4 4, .slice (some ⟨w.heap.size + 1 + 1 + 1 + 1 + 1, 0, none⟩) 4 4] 25)).alloc (.cells #[.int .u32 0, .int .u32 2, .int .u32 1, .int .u32 3] 35)).alloc (.cells #[.int .u32 2, .int .i64 0] 37)).alloc (.cells #[.int .u32 1, .int .i64 0] 37)).alloc (.cells #[.int .u32 1, .int .i64 1, .int .u32 2, .int .i64 2, .int .u32 3, .int .i64 0] 37)) 34 #[.slice none 0 0, .slice (some ⟨w.heap.size + 1 + 1, 0, none⟩) 1 1, .slice (some ⟨w.heap.size + 1 + 1 + 1, 0, none⟩) 1 1, .slice (some ⟨w.heap.size + 1 + 1 + 1 + 1, 0, none⟩) 3 3]
    simp only [World.size_alloc] at a1 a2 a3 a4 a5
    exact ex_space ((((a1.alloc _).alloc _).alloc _).alloc _) (((a2.alloc _).alloc _).alloc _) ((a3.alloc _).alloc _) (a4.alloc _) a5 (by simp only [World.size_alloc]; omega) (by simp only [World.size_alloc]; omega) (by simp only [World.size_alloc]; omega) (by simp only [World.size_alloc]; omega) (by simp only [World.size_alloc]; omega)
  · repeat (with_reducible first | exact Below.refl _ _ | refine Below.alloc ?_ (by first | exact Nat.le_refl _ | (simp only [World.size_alloc]; omega)) _)

theorem ex_wfE : WfE exE := fun k h => by
  have : ∀ x ∈ exE, x < 4294967296 := by decide
  exact this _ (List.getElem_mem _)
theorem ex_wfL : WfL exL := fun k h => by
  have : ∀ l ∈ exL, l.length ≤ 1000000 ∧ ∀ x ∈ l, x.1 < 4294967296 := by decide
  exact ⟨(this _ (List.getElem_mem _)).1, fun j hj => (this _ (List.getElem_mem _)).2 _ (List.getElem_mem _)⟩
theorem ex_ok : PlS.spaceOk exE exL = true := by decide +kernel

theorem ex_att3 : PlC.Att (PlG.tg exL) (isIn [true, false, false, false]) 3 := by
  have a0 : PlC.Att (PlG.tg exL) (isIn [true, false, false, false]) 0 := .base rfl
  have a1 : PlC.Att (PlG.tg exL) (isIn [true, false, false, false]) 1 := by
    refine PlC.Att.step (by decide) fun t ht => ?_
    have : t = 0 := by simpa [PlG.tg, exL] using ht
    subst this; exact a0
  have a2 : PlC.Att (PlG.tg exL) (isIn [true, false, false, false]) 2 := by
    refine PlC.Att.step (by decide) fun t ht => ?_
    have : t = 0 := by simpa [PlG.tg, exL] using ht
    subst this; exact a0
  refine PlC.Att.step (by decide) fun t ht => ?_
  have : t = 1 ∨ t = 2 ∨ t = 0 := by simpa [PlG.tg, exL] using ht
  rcases this with rfl | rfl | rfl
  · exact a1
  · exact a2
  · exact a0
theorem ex_no0 : ¬ PlC.Att (PlG.tg exL) (isIn [false, true, false, false]) 0 := fun h => by
  rcases h.cases with h | ⟨h, _⟩
  · cases h
  · exact h rfl
theorem ex_no2 : ¬ PlC.Att (PlG.tg exL) (isIn [false, true, false, false]) 2 := fun h => by
  rcases h.cases with h | ⟨_, h⟩
  · cases h
  · exact ex_no0 (h 0 (by decide))
theorem ex_att1 : PlC.Att (PlG.tg exL) (isIn [false, true, false, false]) 1 := .base rfl

set_option maxHeartbeats 1000000 in
theorem awake_any (w : World) : Calls Try.prog 11 #[] w fun e w' => e = .returned (.bool true) ∧ Below w.heap.size w w' := by
  go_enter Try.func11, Try.ntmps11
  go_wp2_with fail
  refine (example_any _).mono ?_
  rintro e w1 ⟨v1, rfl, hS1, hb1⟩
  have HS1 := Lib.hid hS1
  have HB1 := Lib.hid hb1
  clear hS1 hb1
  have HBa := Lib.hid ((Below.refl w1.heap.size w1).alloc (Nat.le_refl _) (.cells #[.bool true, .bool false, .bool false, .bool false] 4))
  go_wp2_with fail
  refine (attr_ok exE exL v1 ex_wfE ex_wfL ex_ok [true, false, false, false] rfl _ _ _ (HS1.out.go HBa.out) (reads_blk (l := [.bool true, .bool false, .bool false, .bool false]) (Blk.new w1 _ _) (by simp) rfl)).mono ?_
  rintro e w2 ⟨g, f, rfl, hg, bm, hf, hb2⟩
  have t3 : f 3 = true := (hf.iff 3 (by decide)).2 ex_att3
  have m3 := mark_at bm (k := 3) (by decide)
  rw [t3] at m3
  have HB2 := Lib.hid (below_end hb2 (below_end HBa.out HB1.out))
  have hgl := bm.lt
  have BM := Lib.hid bm
  clear hb2 hf hg t3 HBa HB1 HS1
  simp only [List.length_cons, List.length_nil, Nat.zero_add, Nat.reduceAdd] at *
  go_wp2_with fail
  refine (example_any _).mono ?_
  rintro e w3 ⟨v3, rfl, hS3, hb3⟩
  have m3' := (hb3.cell (p := ⟨g, 3, none⟩) hgl).trans m3
  have hgl3 : g < w3.heap.size := Nat.lt_of_lt_of_le hgl hb3.size
  have HS3 := Lib.hid hS3
  have HB3 := Lib.hid (below_end hb3 HB2.out)
  clear hS3 hb3 m3 HB2
  have HBa := Lib.hid ((Below.refl w3.heap.size w3).alloc (Nat.le_refl _) (.cells #[.bool false, .bool true, .bool false, .bool false] 4))
  go_wp2_with fail
  refine (core_ok exE exL v3 ex_wfE ex_wfL ex_ok [false, true, false, false] rfl _ _ _ (HS3.out.go HBa.out) (reads_blk (l := [.bool false, .bool true, .bool false, .bool false]) (Blk.new w3 _ _) (by simp) rfl)).mono ?_
  rintro e w4 ⟨g', f', rfl, hg', bm', hf', hb4⟩
  have n0 := mark_at bm' (k := 0) (by decide)
  have n1 := mark_at bm' (k := 1) (by decide)
  have n2 := mark_at bm' (k := 2) (by decide)
  rw [(hf'.iff 0 (by decide)).2 ex_no0] at n0
  have e1 : f' 1 = false := by
    cases h : f' 1
    · rfl
    · exact absurd ex_att1 ((hf'.iff 1 (by decide)).1 h)
  rw [e1] at n1
  rw [(hf'.iff 2 (by decide)).2 ex_no2] at n2
  have m4 := (hb4.cell (p := ⟨g, 3, none⟩) (by simp; omega)).trans ((World.cell?_alloc_lt _ _ _ hgl3).trans m3')
  have HB4 := Lib.hid (below_end hb4 (below_end HBa.out HB3.out))
  clear hb4 hf' hg' bm' e1 m3' HBa HB3
  simp only [List.length_cons, List.length_nil, Nat.zero_add, Nat.reduceAdd] at *
  go_wp2
  go_ret
  exact ⟨rfl, HB4.out⟩
end Go.Proofs.Ytlhheglffododaa
