/- family.Path(2): a graph of two nodes, made. -/
import Derived.Test.YtdfklagiafmoiaaGreatDoorG40
import Derived.Test.YtdfklagiafmoiaaGreatDoorG32
namespace Go.Proofs.YtdfklagiafmoiaaGreatDoor
open Go.RowKit

/-- several chunks at once, all new -/
theorem Mem.pushL {w0 w w' : World} {l : List (Ch w0.heap.size)} (h : Mem w0 l w) (hb : Below w.heap.size w w') (l' : List (Ch w0.heap.size)) (hP : ∀ c ∈ l', c.P w') (hF : ∀ c ∈ l', ∀ g, c.F g → w.heap.size ≤ g) (hd : l'.Pairwise (fun a b => ∀ g, a.F g → ¬ b.F g)) : Mem w0 (l' ++ l) w' := by
  have h' := h.below hb
  refine ⟨h'.1, fun c hc => ?_, List.pairwise_append.2 ⟨hd, h'.2.2, fun a ha b hb g h1 h2 => ?_⟩⟩
  · rcases List.mem_append.1 hc with hc | hc
    · exact hP c hc
    · exact h'.2.1 c hc
  · have h3 := hF a ha g h1
    have h4 := (b.low (h.2.1 b hb) h2).2
    omega
theorem own_of_blk {w : World} {g base n : Nat} {e : TypeId} {z : Value} (h : Blk w g e (madeCells #[z] n)) (hg : base ≤ g) (hn : n ≤ maxLen) : w.ownsRow base e 1 (.slice (some ⟨g, 0, none⟩) n n) n (List.replicate n z) := by
  rw [made_list] at h
  exact ⟨by simp, .inr ⟨g, n, _, rfl, hg, h, Nat.le_refl _, hn, by simp, by simp⟩⟩
theorem grid_of_blk {w : World} {g base te e z n : Nat} (h : Blk w g te (madeCells #[.slice none 0 0] n)) : GridV w base g te e z (List.replicate n (.slice none 0 0)) (List.replicate n (0, [])) := by
  rw [made_list] at h
  exact ⟨by simp, h, fun x hv hr => by simpa using World.ownsRow_nil _ _ _ _, fun x y hx hy _ => .inl (by simp [Value.ownBlock])⟩
theorem Tryz.infoLinks : (Tryz.prog.info? 79).map (fun i => (i.zero, i.size, i.bytes)) = some (some (.slice none 0 0), 1, 24) := by kernel_rfl
theorem Tryz.infoLink : (Tryz.prog.info? 135).map (fun i => (i.zero, i.size, i.bytes)) = some (some (.agg #[.int .i64 0, .int .i64 0]), 2, 16) := by kernel_rfl
def idk (k : Nat) : List Value := [.int .i64 0, .int .i64 (if 2 ≤ k then 1 else 0)]
def gA (gi gp : Nat) : Array Value := #[.slice (some ⟨gi, 0, none⟩) 2 2, .slice (some ⟨gp, 0, none⟩) 2 2]
set_option maxRecDepth 100000 in
set_option maxHeartbeats 8000000 in
theorem empty_q {w0 X : World} {l : List (Ch w0.heap.size)} (h : Mem w0 l X) : Calls Tryz.prog 99 #[.int .i64 2] X fun e w' => ∃ gi gp, e = .returned (.agg (gA gi gp)) ∧
    Mem w0 (cR w0.heap.size 3 1 (.slice (some ⟨gi, 0, none⟩) 2 2) 2 [.int .i64 0, .int .i64 1] :: cV w0.heap.size gp 79 135 2 (List.replicate 2 (.slice none 0 0)) (List.replicate 2 (0, [])) :: l) w' := by
  have HW0 := Lib.hid (h.new 29 #[.slice none 0 0, .slice none 0 0])
  clear h
  go_enter Tryz.func99, Tryz.ntmps99
  go_upto_region 1 with fail
  generalize hW : World.alloc _ _ = W at *
  have hmk1 := run_make_row' (P := Tryz.prog) 26 3 (.int .i64 0) 8 Tryz.underlying26 Tryz.infoInt rfl .i64 .i64 2 (by omega) (by omega)
  have hmk2 := run_make_row' (P := Tryz.prog) 27 79 (.slice none 0 0) 24 Tryz.underlying27 Tryz.infoLinks rfl .i64 .i64 2 (by omega) (by omega)
  rw [show ((2 : Nat) : Int) = 2 from rfl] at hmk1 hmk2
  have lw : X.heap.size < W.heap.size := by rw [← hW]; simp
  have rule := below_rule W
  clear hW
  go_cut [3] (fun p wx => ∃ bw gi gp, p = .pointer (some ⟨bw, 0, none⟩) ∧ Blk wx bw 29 #[.slice (some ⟨gi, 0, none⟩) 2 2, .slice (some ⟨gp, 0, none⟩) 2 2] ∧
      Blk wx gi 3 (madeCells #[.int .i64 0] 2) ∧ Blk wx gp 79 (madeCells #[.slice none 0 0] 2) ∧ bw ≠ gi ∧ bw ≠ gp ∧ gi ≠ gp ∧ (W.heap.size ≤ bw ∧ W.heap.size ≤ gi ∧ W.heap.size ≤ gp) ∧ Below W.heap.size W wx)
  case first =>
    go_region_held3 (fun x => Below W.heap.size W x) (repeat (with_reducible first | exact Below.refl _ _ | assumption | refine balloc ?_ _ | refine Below.drew ?_)) (first | fail)
    all_goals
      go_wp2_with fail
      go_meet
      case rel =>
        apply Exists.intro
        apply Exists.intro
        apply Exists.intro
        refine ⟨rfl, ?_, ?_, ?_, ?_, ?_, ?_, ?_, ?_⟩
        · repeat (with_reducible first | (refine blk_new_at ?_; simp only [World.size_alloc]; done) | refine Blk.alloc ?_ _ | refine Blk.drew ?_)
        · repeat (with_reducible first | (refine blk_new_at ?_; simp only [World.size_alloc]; done) | refine Blk.alloc ?_ _ | refine Blk.drew ?_)
        · repeat (with_reducible first | (refine blk_new_at ?_; simp only [World.size_alloc]; done) | refine Blk.alloc ?_ _ | refine Blk.drew ?_)
        · omega
        · omega
        · omega
        · exact ⟨by omega, by omega, by omega⟩
        · repeat (with_reducible first | exact Below.refl _ _ | assumption | refine balloc ?_ _ | refine Below.drew ?_)
  case rest =>
    obtain ⟨bw, gi, gp, rfl, bb, bi, bp, d1, d2, d3, hBB, hbel⟩ := hcut
    have hw0 := HW0.out.size
    have hM := HW0.out.pushL hbel [cB w0.heap.size bw 29 (gA gi gp), cR w0.heap.size 3 1 (.slice (some ⟨gi, 0, none⟩) 2 2) 2 (idk 0), cV w0.heap.size gp 79 135 2 (List.replicate 2 (.slice none 0 0)) (List.replicate 2 (0, []))]
      (fun c hc => by
        simp only [List.mem_cons, List.not_mem_nil, or_false] at hc
        rcases hc with rfl | rfl | rfl
        · exact ⟨by omega, bb⟩
        · exact own_of_blk bi (by omega) (len_ok (by omega))
        · exact ⟨by omega, grid_of_blk bp⟩)
      (fun c hc g hg => by
        simp only [List.mem_cons, List.not_mem_nil, or_false] at hc
        rcases hc with rfl | rfl | rfl
        · have e : g = bw := hg
          omega
        · have e : some gi = some g := hg
          injection e with e
          omega
        · rcases hg with e | ⟨x, hx, e⟩
          · omega
          · rw [List.getElem_replicate] at e; cases e)
      (by
        refine List.pairwise_cons.2 ⟨fun d hd g k1 k2 => ?_, List.pairwise_cons.2 ⟨fun d hd g k1 k2 => ?_, List.pairwise_cons.2 ⟨fun d hd => (by cases hd), List.Pairwise.nil⟩⟩⟩
        · have e : g = bw := k1
          simp only [List.mem_cons, List.not_mem_nil, or_false] at hd
          rcases hd with rfl | rfl
          · have e2 : some gi = some g := k2
            injection e2 with e2
            omega
          · rcases k2 with e2 | ⟨x, hx, e2⟩
            · omega
            · rw [List.getElem_replicate] at e2; cases e2
        · have e : some gi = some g := k1
          injection e with e
          simp only [List.mem_cons, List.not_mem_nil, or_false] at hd
          subst hd
          rcases k2 with e2 | ⟨x, hx, e2⟩
          · omega
          · rw [List.getElem_replicate] at e2; cases e2)
    have HM := Lib.hid hM
    obtain ⟨b0, b1, bf⟩ := blk2 (hM.get 0 rfl).2
    clear hM bb bi bp d1 d2 d3 hBB hbel hw0 rule lw HW0 hmk1 hmk2
    go_wp2
    go_loopw [13] (fun i wr => ∃ k : Nat, i = .int .i64 k ∧ k ≤ 2 ∧ Mem w0 (cB w0.heap.size bw 29 (gA gi gp) :: cR w0.heap.size 3 1 (.slice (some ⟨gi, 0, none⟩) 2 2) 2 (idk k) :: cV w0.heap.size gp 79 135 2 (List.replicate 2 (.slice none 0 0)) (List.replicate 2 (0, [])) :: cB w0.heap.size X.heap.size 29 #[.slice none 0 0, .slice none 0 0] :: l) wr) (fun i _ => 2 - (intOf i).toNat)
    case atStart => exact ⟨0, rfl, by omega, HM.out⟩
    case round =>
      clear HM b0 b1 bf
      obtain ⟨k, rfl, hk, hM⟩ := hrel
      have HM := Lib.hid hM
      obtain ⟨b0, b1, bf⟩ := blk2 (hM.get 0 rfl).2
      obtain ⟨c0, cf0⟩ := own_at (k := 0) (hM.get 1 rfl) rfl
      obtain ⟨c1, cf1⟩ := own_at (k := 1) (hM.get 1 rfl) rfl
      have n0 : gi < wr.heap.size := (World.ownsRow.lt (hM.get 1 rfl) gi rfl).2
      clear hM
      rcases (by omega : k = 0 ∨ k = 1 ∨ k = 2) with rfl | rfl | rfl
      · have HM2 := Lib.hid (HM.out.storeR 1 rfl 0 (.int .i64 0) (xs' := idk 1) rfl)
        go_wp2
        go_roundw
        case rel => exact ⟨1, rfl, by omega, HM2.out⟩
        case measure => simp [intOf]
      · have HM2 := Lib.hid (HM.out.storeR 1 rfl 1 (.int .i64 1) (xs' := idk 2) rfl)
        go_wp2
        go_roundw
        case rel => exact ⟨2, rfl, by omega, HM2.out⟩
        case measure => simp [intOf]
      · obtain ⟨e0, e1, ef⟩ := blk2 (HM.out.get 3 rfl).2
        have n1 : X.heap.size < wr.heap.size := (HM.out.get 3 rfl).2.lt
        have hF := (HM.out.set_ 3 rfl 0 (.slice (some ⟨gi, 0, none⟩) 2 2) rfl).set_ 3 rfl 1 (.slice (some ⟨gp, 0, none⟩) 2 2) rfl
        have HF := Lib.hid hF
        clear hF c0 cf0 cf1 n0 c1
        go_wp2
        have hF := HF.out
        clear HF HM e0 e1 ef n1 b0 b1 bf
        generalize World.setCell _ _ _ = Y at *
        obtain ⟨e0, e1, ef⟩ := blk2 (hF.get 3 rfl).2
        refine bodyPost_ret (v := .agg (gA gi gp)) ?_ rfl ⟨gi, gp, rfl, (hF.erase 0).erase 2⟩
        simp [results, Tryz.results99, go_sem, e0, e1, gA]
end Go.Proofs.YtdfklagiafmoiaaGreatDoor
