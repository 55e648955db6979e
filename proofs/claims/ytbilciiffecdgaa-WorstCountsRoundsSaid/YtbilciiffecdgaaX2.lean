/- The example of the law and its sanity check. -/
import Derived.Test.YtbilciiffecdgaaE7
import Derived.Test.YtbilciiffecdgaaX1
namespace Go.Proofs.Ytbilciiffecdgaa
open Go.RowKit

def exE : List Nat := [0, 2, 1, 3]
def exL : List (List Arc) := [[], [(2, 0)], [(1, 0)], [(1, 1), (2, 2), (3, 0)]]
def exS : List Bool := [true, false, false, false]

theorem ex_space {w : World} {B g1 g2 g3 g4 g5 : Nat} (h1 : Blk w g1 40 #[.int .u32 0, .int .u32 2, .int .u32 1, .int .u32 3]) (h2 : Blk w g2 42 #[.int .u32 2, .int .i64 0]) (h3 : Blk w g3 42 #[.int .u32 1, .int .i64 0])
    (h4 : Blk w g4 42 #[.int .u32 1, .int .i64 1, .int .u32 2, .int .i64 2, .int .u32 3, .int .i64 0])
    (h5 : Blk w g5 39 #[.slice none 0 0, .slice (some ⟨g2, 0, none⟩) 1 1, .slice (some ⟨g3, 0, none⟩) 1 1, .slice (some ⟨g4, 0, none⟩) 3 3]) (b1 : g1 < B) (b2 : g2 < B) (b3 : g3 < B) (b4 : g4 < B) (b5 : g5 < B) :
    SpaceAt w B (.agg #[.slice (some ⟨g1, 0, none⟩) 4 4, .slice (some ⟨g5, 0, none⟩) 4 4]) exE exL := by
  refine ⟨_, _, rfl, ⟨_, _, rfl, reads_blk (l := [.int .u32 0, .int .u32 2, .int .u32 1, .int .u32 3]) h1 b1 rfl⟩,
    ⟨_, _, [.slice none 0 0, .slice (some ⟨g2, 0, none⟩) 1 1, .slice (some ⟨g3, 0, none⟩) 1 1, .slice (some ⟨g4, 0, none⟩) 3 3], rfl, reads_blk (l := [.slice none 0 0, .slice (some ⟨g2, 0, none⟩) 1 1, .slice (some ⟨g3, 0, none⟩) 1 1, .slice (some ⟨g4, 0, none⟩) 3 3]) h5 b5 rfl, fun k l hl => ?_⟩⟩
  match k, hl with
  | 0, hl => injection hl with hl; subst hl; exact ⟨_, rfl, _, _, rfl, Reads.none_⟩
  | 1, hl => injection hl with hl; subst hl; exact ⟨_, rfl, _, _, rfl, reads_blk (l := [.int .u32 2, .int .i64 0]) h2 b2 rfl⟩
  | 2, hl => injection hl with hl; subst hl; exact ⟨_, rfl, _, _, rfl, reads_blk (l := [.int .u32 1, .int .i64 0]) h3 b3 rfl⟩
  | 3, hl => injection hl with hl; subst hl; exact ⟨_, rfl, _, _, rfl, reads_blk (l := [.int .u32 1, .int .i64 1, .int .u32 2, .int .i64 2, .int .u32 3, .int .i64 0]) h4 b4 rfl⟩
  | k + 4, hl => cases hl

def ExPost (w : World) (e : Ending) (w' : World) : Prop := ∃ v, e = .returned v ∧ SpaceAt w' w'.heap.size v exE exL ∧ Below w.heap.size w w'

set_option maxHeartbeats 1000000 in
theorem example_any (w : World) : Calls Try.prog 32 #[] w (ExPost w) := by
  go_enter Try.func32, Try.ntmps32
  go_wp2
  refine bodyPost_ret (v := .agg #[.slice (some ⟨w.heap.size + 1, 0, none⟩) 4 4, .slice (some ⟨w.heap.size + 5, 0, none⟩) 4 4]) ?_ rfl ⟨_, rfl, ?_, ?_⟩
  · simp [results, Try.results32, go_sem]
  · have a1 := Blk.new (w.alloc (.cells #[.slice (some ⟨w.heap.size + 1, 0, none⟩) 4 4, .slice (some ⟨w.heap.size + 1 + 1 + 1 + 1 + 1, 0, none⟩) 4 4] 25)) 40 #[.int .u32 0, .int .u32 2, .int .u32 1, .int .u32 3]
    have a2 := Blk.new ((w.alloc (.cells #[.slice (some ⟨w.heap.size + 1, 0, none⟩) 4 4, .slice (some ⟨w.heap.size + 1 + 1 + 1 + 1 + 1, 0, none⟩) 4 4] 25)).alloc (.cells #[.int .u32 0, .int .u32 2, .int .u32 1, .int .u32 3] 40)) 42 #[.int .u32 2, .int .i64 0]
    have a3 := Blk.new _ 42 #[.int .u32 1, .int .i64 0] |> fun h => (h : Blk (World.alloc (((w.alloc (.cells #[.slice (some ⟨w.heap.size + 1, 0, none⟩) 4 4, .slice (some ⟨w.heap.size + 1 + 1 + 1 + 1 + 1, 0, none⟩) 4 4] 25)).alloc (.cells #[.int .u32 0, .int .u32 2, .int .u32 1, .int .u32 3] 40)).alloc (.cells #[.int .u32 2, .int .i64 0] 42)) (.cells #[.int .u32 1, .int .i64 0] 42)) _ _ _)
    have a4 := Blk.new ((((w.alloc (.cells #[.slice (some ⟨w.heap.size + 1, 0, none⟩) 4 4, .slice (some ⟨w.heap.size + 1 + 1 + 1 + 1 + 1, 0, none⟩) 4 4] 25)).alloc (.cells #[.int .u32 0, .int .u32 2, .int .u32 1, .int .u32 3] 40)).alloc (.cells #[.int .u32 2, .int .i64 0] 42)).alloc (.cells #[.int .u32 1, .int .i64 0] 42)) 42 #[.int .u32 1, .int .i64 1, .int .u32 2, .int .i64 2, .int .u32 3, .int .i64 0]
    have a5 := Blk.new (((((w.alloc (.cells #[.slice (some ⟨w.heap.size + 1, 0, none⟩) 4 4, .slice (some ⟨w.heap.size + 1 + 1 + 1 + 1 + 1, 0, none⟩) 4 4] 25)).alloc (.cells #[.int .u32 0, .int .u32 2, .int .u32 1, .int .u32 3] 40)).alloc (.cells #[.int .u32 2, .int .i64 0] 42)).alloc (.cells #[.int .u32 1, .int .i64 0] 42)).alloc (.cells #[.int .u32 1, .int .i64 1, .int .u32 2, .int .i64 2, .int .u32 3, .int .i64 0] 42)) 39 #[.slice none 0 0, .slice (some ⟨w.heap.size + 1 + 1, 0, none⟩) 1 1, .slice (some ⟨w.heap.size + 1 + 1 + 1, 0, none⟩) 1 1, .slice (some ⟨w.heap.size + 1 + 1 + 1 + 1, 0, none⟩) 3 3]
    simp only [World.size_alloc] at a1 a2 a3 a4 a5
    exact ex_space ((((a1.alloc _).alloc _).alloc _).alloc _) (((a2.alloc _).alloc _).alloc _) ((a3.alloc _).alloc _) (a4.alloc _) a5 (by simp only [World.size_alloc]; omega) (by simp only [World.size_alloc]; omega) (by simp only [World.size_alloc]; omega) (by simp only [World.size_alloc]; omega) (by simp only [World.size_alloc]; omega)
  · repeat (with_reducible first | exact Below.refl _ _ | refine Below.alloc ?_ (by first | exact Nat.le_refl _ | (simp only [World.size_alloc]; omega)) _)

theorem ex_wfE : WfE exE := fun k h => by
  have : ∀ x ∈ exE, x < 4294967296 := by decide
  exact this _ (List.getElem_mem _)
theorem ex_wfL : WfL exL := fun k h => by
  have : ∀ l ∈ exL, l.length ≤ 1000000 ∧ ∀ x ∈ l, x.1 < 4294967296 := by decide
  exact ⟨(this _ (List.getElem_mem _)).1, fun j hj => (this _ (List.getElem_mem _)).2 _ (List.getElem_mem _)⟩
theorem ex_ok : PlS.spaceOk exE exL = true := by decide +kernel
theorem ex_conv : Conv exL exS := by
  have a0 : PlC.Att (PlG.tg exL) (isIn exS) 0 := .base rfl
  have a1 : PlC.Att (PlG.tg exL) (isIn exS) 1 := by
    refine PlC.Att.step (by decide) fun t ht => ?_
    have : t = 0 := by simpa [PlG.tg, exL] using ht
    subst this; exact a0
  have a2 : PlC.Att (PlG.tg exL) (isIn exS) 2 := by
    refine PlC.Att.step (by decide) fun t ht => ?_
    have : t = 0 := by simpa [PlG.tg, exL] using ht
    subst this; exact a0
  have a3 : PlC.Att (PlG.tg exL) (isIn exS) 3 := by
    refine PlC.Att.step (by decide) fun t ht => ?_
    have : t = 1 ∨ t = 2 ∨ t = 0 := by simpa [PlG.tg, exL] using ht
    rcases this with rfl | rfl | rfl
    · exact a1
    · exact a2
    · exact a0
  intro k hk
  match k, hk with
  | 0, _ => exact a0
  | 1, _ => exact a1
  | 2, _ => exact a2
  | 3, _ => exact a3
  | k + 4, hk => exact absurd hk (by simp [exS])
theorem ex_chk : wchk exE exL exS = 0 := wchk_ok ex_ok rfl ex_conv
theorem ex_val {c : Nat × Int → Nat} {f : Nat → Nat} (h : PlL.IsVal 4 exL (isIn exS) c f) : f 0 = 0 ∧ f 1 = c (2, 0) ∧ f 2 = c (1, 0) ∧ f 3 = max (max (c (1, 1) + c (2, 0)) (c (2, 2) + c (1, 0))) (c (3, 0)) := by
  have h0 : f 0 = 0 := (h 0 (by decide)).1 rfl
  have h1 : f 1 = c (2, 0) := by
    rw [(h 1 (by decide)).2 rfl]
    simp [PlL.mx, exL, h0]
  have h2 : f 2 = c (1, 0) := by
    rw [(h 2 (by decide)).2 rfl]
    simp [PlL.mx, exL, h0]
  refine ⟨h0, h1, h2, ?_⟩
  rw [(h 3 (by decide)).2 rfl]
  simp [PlL.mx, exL, h0, h1, h2]
theorem ex_steps {f : Nat → Nat} (h : PlL.IsVal 4 exL (isIn exS) cOne f) : f 3 = 2 := by
  rw [(ex_val h).2.2.2]; rfl
theorem ex_sched {f : Nat → Nat} (h : PlL.IsVal 4 exL (isIn exS) cPop f) : PlL.sched exL (isIn exS) cPop f 4 3 = [1, 2] := by
  obtain ⟨h0, h1, h2, h3⟩ := ex_val h
  have e0 : f 0 = 0 := h0
  have e1 : f 1 = 1 := h1.trans (by decide)
  have e2 : f 2 = 1 := h2.trans (by decide)
  have e3 : f 3 = 2 := h3.trans (by decide)
  have p1 : ∀ t, cPop (1, t) = 1 := fun _ => (by decide : Pl.pop 1 = 1)
  have p2 : ∀ t, cPop (2, t) = 1 := fun _ => (by decide : Pl.pop 2 = 1)
  have p3 : ∀ t, cPop (3, t) = 2 := fun _ => (by decide : Pl.pop 3 = 2)
  simp [PlL.sched, exL, exS, isIn, PlL.nxt, e0, e1, e3, p1, p2]
theorem ex_rounds {R : Nat × Nat → Nat} (h : PlL.IsRd 4 exE exL (isIn exS) R) : rnd exE (isIn exS) R 3 = 1 := by
  have h1 : ∀ P, R (1, P) = 1 := fun P => by rw [h 1 (by decide) rfl]; simp [PlL.mr, PlL.mrS, exL, exS, isIn]
  have h2 : ∀ P, R (2, P) = 1 := fun P => by rw [h 2 (by decide) rfl]; simp [PlL.mr, PlL.mrS, exL, exS, isIn]
  have h3 : R (3, 3) = 1 := by
    rw [h 3 (by decide) rfl]
    have l1 : PlL.lft exE 3 (1, 1) = 2 := by decide
    have l2 : PlL.lft exE 3 (2, 2) = 1 := by decide
    simp [PlL.mr, PlL.mrS, PlL.rst, exL, exS, isIn, l1, l2, h1, h2]
  exact h3
theorem wsched_n (E : List Nat) (L : List (List Arc)) (v : Value) (hE : WfE E) (hL : WfL L) (S : List Bool) (A : Option Addr) (c : Nat) (n k0 : Nat) (z : Int) (hn : S.length = n) (hz : z = (k0 : Int)) (hk0 : k0 < n) (h : wchk E L S = 0) (w : World) (hS : SpaceAt w w.heap.size v E L) (hSr : Reads w w.heap.size 1 A S.length (S.map Value.bool)) :
    Calls Try.prog 21 #[v, .slice A n c, .int .i64 z] w (WSch w L S k0) := by
  subst hn hz
  exact wsched_ok E L v hE hL S A c k0 hk0 h w hS hSr

set_option maxRecDepth 100000 in
set_option maxHeartbeats 2000000 in
theorem awake_any (w : World) : Calls Try.prog 12 #[] w fun e w' => e = .returned (.bool true) ∧ Below w.heap.size w w' := by
  have HM0 := Lib.hid ((Mem.start w).new 4 #[.bool true, .bool false, .bool false, .bool false])
  go_enter Try.func12, Try.ntmps12
  go_wp2_with fail
  refine (example_any _).mono ?_
  rintro e w1 ⟨v1, rfl, hS1, hb1⟩
  have HS1 := Lib.hid hS1
  have HM1 := Lib.hid (HM0.out.below hb1)
  have RS1 := Lib.hid (show Reads w1 w1.heap.size 1 (some ⟨w.heap.size, 0, none⟩) exS.length (exS.map Value.bool) from reads_blk (HM1.out.get 0 rfl).2 (HM1.out.get 0 rfl).2.lt rfl)
  clear hS1 hb1 HM0
  go_wp2_with fail
  refine (wsteps_ok exE exL v1 ex_wfE ex_wfL exS (some ⟨w.heap.size, 0, none⟩) 4 ex_chk w1 HS1.out RS1.out).mono ?_
  rintro e w2 ⟨ga, f, rfl, hg, bk, hv, -, -, hb2⟩
  have HM2 := Lib.hid (HM1.out.pushBlk hb2 hg bk)
  have HA := Lib.hid (ex_steps hv)
  clear hg bk hv hb2 HM1 HS1 RS1
  go_wp2_with fail
  refine (example_any _).mono ?_
  rintro e w3 ⟨v3, rfl, hS3, hb3⟩
  have HS3 := Lib.hid hS3
  have HM3 := Lib.hid (HM2.out.below hb3)
  have RS3 := Lib.hid (show Reads w3 w3.heap.size 1 (some ⟨w.heap.size, 0, none⟩) exS.length (exS.map Value.bool) from reads_blk (HM3.out.get 1 rfl).2 (HM3.out.get 1 rfl).2.lt rfl)
  clear hS3 hb3 HM2
  go_wp2_with fail
  refine (wrounds_ok exE exL v3 ex_wfE ex_wfL exS (some ⟨w.heap.size, 0, none⟩) 4 ex_chk (fun k _ => few_at (E := exE) (by decide) k) (by decide) w3 HS3.out RS3.out).mono ?_
  rintro e w4 ⟨gr, R, rfl, hg, bk, hv, -, -, hb4⟩
  have HM4 := Lib.hid (HM3.out.pushBlk hb4 hg bk)
  have HR := Lib.hid (ex_rounds hv)
  clear hg bk hv hb4 HM3 HS3 RS3
  go_wp2_with fail
  refine (example_any _).mono ?_
  rintro e w5 ⟨v5, rfl, hS5, hb5⟩
  have HS5 := Lib.hid hS5
  have HM5 := Lib.hid (HM4.out.below hb5)
  have RS5 := Lib.hid (show Reads w5 w5.heap.size 1 (some ⟨w.heap.size, 0, none⟩) exS.length (exS.map Value.bool) from reads_blk (HM5.out.get 2 rfl).2 (HM5.out.get 2 rfl).2.lt rfl)
  clear hS5 hb5 HM4
  go_wp2_with fail
  refine (wsched_n exE exL v5 ex_wfE ex_wfL exS (some ⟨w.heap.size, 0, none⟩) 4 4 3 3 rfl rfl (by decide) ex_chk w5 HS5.out RS5.out).mono ?_
  rintro e w6 ⟨v, f6, rfl, hv, ho, hb6⟩
  rw [show PlL.sched exL (isIn exS) cPop f6 exS.length 3 = [1, 2] from ex_sched hv] at ho
  obtain ⟨Am, cm, rfl⟩ := own_sl ho
  have hM6 := HM5.out.below hb6
  have ca := num_at (hM6.get 1 rfl).2 (k := 3) (by decide)
  have cr := num_at (hM6.get 0 rfl).2 (k := 3) (by decide)
  rw [HA.out] at ca
  rw [HR.out] at cr
  have RL := Lib.hid (Reads.of_own ho)
  have HB := Lib.hid hM6.bel
  have hla := (hM6.get 1 rfl).2.lt
  have hlr := (hM6.get 0 rfl).2.lt
  clear hv ho hb6 hM6 HM5 HA HR HS5 RS5
  simp only [exS, List.length_cons, List.length_nil, Nat.zero_add, Nat.reduceAdd] at *
  have HBb := Lib.hid ((Below.refl w6.heap.size w6).alloc (Nat.le_refl _) (.cells #[.int .u32 1, .int .u32 2] 40))
  go_wp2_with fail
  refine (sameU_n [1, 2] 2 rfl (by decide) Am (some ⟨w6.heap.size, 0, none⟩) cm 2 _ _ _ (RL.out.go HBb.out) (reads_blk (l := [.int .u32 1, .int .u32 2]) (Blk.new w6 _ _) (Nat.lt_succ_self _) rfl)).mono ?_
  rintro e w7 ⟨rfl, d, rfl⟩
  have HE := Lib.hid (below_drewN (below_end HBb.out HB.out) d)
  go_wp2
  go_ret
  exact ⟨rfl, HE.out⟩
end Go.Proofs.Ytbilciiffecdgaa
