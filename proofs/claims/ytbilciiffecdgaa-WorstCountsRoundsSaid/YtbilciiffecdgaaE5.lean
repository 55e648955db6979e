/- worst.reachable's own function add. -/
import Derived.Test.YtbilciiffecdgaaE4
namespace Go.Proofs.Ytbilciiffecdgaa
open Go.RowKit

def pc (x : Nat × Nat) : List Value := [.int .i64 (x.1 : Int), .int .u32 (x.2 : Int)]
theorem pc_len (Q : List (Nat × Nat)) : (Q.flatMap pc).length = Q.length * 2 := by
  induction Q with
  | nil => rfl
  | cons a Q ih => rw [List.flatMap_cons, List.length_append, ih, List.length_cons]; simp [pc]; omega
theorem pc_snoc (Q : List (Nat × Nat)) (x : Nat × Nat) : (Q ++ [x]).flatMap pc = Q.flatMap pc ++ pc x := by simp
theorem Try.infoPair : (Try.prog.info? 65).map (fun i => (i.zero, i.size, i.bytes)) = some (some (.agg #[.int .i64 0, .int .u32 0]), 2, 16) := by kernel_rfl
theorem reads_new2 (w : World) (t : TypeId) (u v : Value) : Reads (w.alloc (.cells #[u, v] t)) (w.heap.size + 1) 2 (some ⟨w.heap.size, 0, none⟩) 1 [u, v] :=
  reads_blk (l := [u, v]) (Blk.new w t #[u, v]) (Nat.lt_succ_self _) rfl
theorem one_pc (x : Nat × Nat) : ∀ u ∈ pc x, u.oneCell' = true := by simp [pc, Value.oneCell']
def vT (_ : Nat × Nat) : Value := .bool true
/-- the map of the pairs that have been found -/
def kvQ (Q : List (Nat × Nat)) : List ((Nat × Nat) × Value) := Q.map fun x => (x, .bool true)
theorem kvQ_get (Q : List (Nat × Nat)) (x : Nat × Nat) : (mGet (kvQ Q) x).getD (.bool false) = .bool (decide (x ∈ Q)) := by
  unfold mGet kvQ
  induction Q with
  | nil => rfl
  | cons a Q ih =>
    rw [List.map_cons, List.find?_cons]
    by_cases e : a = x
    · subst e; simp
    · have : (a == x) = false := beq_eq_false_iff_ne.2 e
      dsimp only
      rw [this]
      dsimp only
      rw [ih]
      congr 1
      simp [Ne.symm e]
theorem kvQ_none {Q : List (Nat × Nat)} {x : Nat × Nat} (h : x ∉ Q) : mGet (kvQ Q) x = none := by
  unfold mGet kvQ
  rw [List.find?_eq_none.2]
  · rfl
  · intro y hy
    obtain ⟨z, hz, rfl⟩ := List.mem_map.1 hy
    simp only [beq_iff_eq]
    exact fun e => h (e ▸ hz)
theorem kvQ_snoc (Q : List (Nat × Nat)) (x : Nat × Nat) : kvQ Q ++ [(x, .bool true)] = kvQ (Q ++ [x]) := by unfold kvQ; simp
def adq (S : Nat → Bool) (Q : List (Nat × Nat)) (x : Nat × Nat) : List (Nat × Nat) := if S x.1 = true then Q else if x ∈ Q then Q else Q ++ [x]
abbrev AdL (B b gm gq gl : Nat) (vl vq : Value) (Q : List (Nat × Nat)) : List (Ch B) :=
  [cM B b (kvQ Q), cB B gq 85 #[vq], cR B 65 2 vq Q.length (Q.flatMap pc), cB B gm 84 #[.map (some b)], cB B gl 26 #[vl]]
theorem Try.zeroB (w : World) : (zeroValue 4).run Try.prog w = .ok (.bool false) w := by kernel_rfl

set_option maxRecDepth 100000 in
set_option maxHeartbeats 2000000 in
theorem add_any (w0 : World) (b gm gq gl : Nat) (S : List Bool) (A : Option Addr) (c : Nat) (hSr : Reads w0 w0.heap.size 1 A S.length (S.map Value.bool)) (Q : List (Nat × Nat)) (hQ : Q.length ≤ 1000000) (vq : Value) (x : Nat × Nat) (hx : x.1 < S.length) (hn : S.length ≤ 32768) (rest : List (Ch w0.heap.size)) (wr : World) (hM : Mem w0 (AdL w0.heap.size b gm gq gl (.slice A S.length c) vq Q ++ rest) wr) :
    Calls Try.prog 55 #[pK x, .pointer (some ⟨gl, 0, none⟩), .pointer (some ⟨gm, 0, none⟩), .pointer (some ⟨gq, 0, none⟩)] wr fun e w' => (∃ v, e = .returned v) ∧ ∃ vq', Mem w0 (AdL w0.heap.size b gm gq gl (.slice A S.length c) vq' (adq (isIn S) Q x) ++ rest) w' := by
  obtain ⟨k, P⟩ := x
  dsimp only at hx
  have HM := Lib.hid (hM.new 65 #[.int .i64 (k : Int), .int .u32 (P : Int)])
  have SR := Lib.hid hSr
  obtain ⟨sd, hA, -⟩ := hSr.2 (by omega)
  subst hA
  clear hM hSr
  unfold pK
  obtain ⟨i0, hi0, hz0, hz1, hz2⟩ := info_parts Try.infoPair
  have k0 : (0 : Int) ≤ (k : Int) := by omega
  have k1 : (k : Int) < (S.length : Int) := by omega
  go_enter Try.func55, Try.ntmps55
  go_upto_region 1 with fail
  generalize hW : wr.alloc _ = W at *
  have hM := HM.out
  obtain ⟨b0, b1, bf⟩ := blk2 (hM.get 0 rfl).2
  obtain ⟨m0, mf⟩ := blk1 (hM.get 4 rfl).2
  obtain ⟨q0, qf⟩ := blk1 (hM.get 2 rfl).2
  obtain ⟨l0, lf⟩ := blk1 (hM.get 5 rfl).2
  have lq := (hM.get 2 rfl).2.lt
  obtain ⟨sd', hA, hbl, cS⟩ := bool_at (SR.out.below hM.bel) hx
  obtain rfl : sd = sd' := by injection hA
  rw [← isIn_of hx] at cS
  have hlook := pk_lookup (w := W) Try.underlying84 (Try.zeroB W) (hM.get 1 rfl).2 (k, P)
  rw [kvQ_get] at hlook
  unfold pK at hlook
  dsimp only at hlook
  clear hA hW hM
  generalize wr.heap.size = ga at *
  cases hs : isIn S k
  · rw [hs] at cS
    by_cases hm : (k, P) ∈ Q
    · rw [decide_eq_true hm] at hlook
      have HAD := Lib.hid (show adq (isIn S) Q (k, P) = Q by unfold adq; rw [if_neg (by dsimp only; rw [hs]; simp), if_pos hm])
      clear hs hm
      go_wp2
      refine bodyPost_end (v := .tuple #[]) ?_ rfl ⟨⟨_, rfl⟩, vq, ?_⟩
      · first | rfl | simp [results, go_sem]
      · rw [HAD.out]; exact HM.out.erase 0
    · rw [decide_eq_false hm] at hlook
      have HAD := Lib.hid (show adq (isIn S) Q (k, P) = Q ++ [(k, P)] by unfold adq; rw [if_neg (by dsimp only; rw [hs]; simp), if_neg hm])
      have HNM := Lib.hid (kvQ_none hm)
      obtain ⟨Aq, cq, hvq⟩ := own_sl (HM.out.get 3 rfl)
      subst hvq
      clear hs hm
      go_upto_region 3 with (at_mapUpdate; refine wpList_update_pair _ rfl _ _ _ 84 rfl 4 Try.underlying84 b (kvQ Q) rfl (HM.out.get 1 rfl).2 (k, P) rfl (.bool true) rfl HNM.out ?_; intro w2 hm2 hg2; have HM2 := Lib.hid (HM.out.put 1 rfl hm2 hg2); clear hm2 hg2)
      clear b0 b1 bf m0 mf q0 qf l0 lf lq hlook cS
      have hM := HM2.out
      obtain ⟨b0, b1, bf⟩ := blk2 (hM.get 0 rfl).2
      obtain ⟨q0, qf⟩ := blk1 (hM.get 2 rfl).2
      have lq := (hM.get 2 rfl).2.lt
      have HOW := Lib.hid (show w2.ownsRow w0.heap.size 65 2 (.slice Aq Q.length cq) Q.length (Q.flatMap pc) from hM.get 3 rfl)
      have hsz := hM.size
      clear hM
      go_wp2_with (at_builtin; refine wpList_append_any _ rfl (.tmp 19) (.tmp 21) 85 rfl w0.heap.size 65 i0 (.agg #[.int .i64 0, .int .u32 0]) 2 16 Try.underlying85 hi0 hz0 hz1 hz2 rfl (by decide) (.slice Aq Q.length cq) Q.length (Q.flatMap pc) rfl (HOW.out.alloc _) (w2.heap.size + 1) (some ⟨w2.heap.size, 0, none⟩) 1 1 (pc (k, P)) rfl (reads_new2 _ _ _ _) (one_pc (k, P)) (len_ok (by omega)) (by omega) (by simp; omega) ?_; intro v1 x1 ho1 hg1 hv1; obtain ⟨gv, cv, rfl, -, -⟩ := ho1.form (by omega); have HA := Lib.hid (HM2.out.app 3 (S := w2.heap.size + 1) rfl (grown_pre hg1) ho1 (by simpa using hv1) (by omega)); obtain ⟨qq0, qqf⟩ := blk1 (HA.out.get 2 rfl).2; have lqq := (HA.out.get 2 rfl).2.lt; clear ho1 hg1 hv1)
      have HF := Lib.hid ((HA.out.set_ 2 rfl 0 (.slice (some ⟨gv, 0, none⟩) (Q.length + 1) cv) rfl).erase 0)
      refine bodyPost_end (v := .tuple #[]) ?_ rfl ⟨⟨_, rfl⟩, .slice (some ⟨gv, 0, none⟩) (Q.length + 1) cv, ?_⟩
      · first | rfl | simp [results, go_sem]
      · rw [HAD.out, ← kvQ_snoc, pc_snoc, List.length_append]
        exact HF.out
  · rw [hs] at cS
    have HAD := Lib.hid (show adq (isIn S) Q (k, P) = Q by unfold adq; rw [if_pos hs])
    clear hs hlook
    go_wp2
    refine bodyPost_end (v := .tuple #[]) ?_ rfl ⟨⟨_, rfl⟩, vq, ?_⟩
    · first | rfl | simp [results, go_sem]
    · rw [HAD.out]; exact HM.out.erase 0
end Go.Proofs.Ytbilciiffecdgaa
