/- (*fairness.walk).enter and complete. -/
import Derived.Test.YtnjbofahboopoaaG1
namespace Go.Proofs.Ytnjbofahboopoaa
open Go.RowKit

theorem Try.infoIntG : (Try.prog.info? 3).map (fun i => (i.zero, i.size, i.bytes)) = some (some (.int .i64 0), 1, 8) := by kernel_rfl

set_option maxRecDepth 100000 in
set_option maxHeartbeats 2000000 in
theorem enter_any (w0 : World) (B bw gi gl gr n : Nat) (ve va vl vp : Value) (s : PlT.St) (k : Nat) (hk : k < n) (_hn : n ≤ 100000) (hfd : s.fd ≤ 100000) (hpd : s.pd.length ≤ 100000) (hvp : ∃ A c, vp = .slice A s.pd.length c) (wr : World) (h : TW w0 B bw gi gl gr n ve va vl vp s wr) :
    Calls Try.prog 40 #[.pointer (some ⟨bw, 0, none⟩), .int .i64 k] wr fun e w' => e = .returned (.agg #[.int .i64 k, .int .i64 0]) ∧ ∃ A c, TW w0 B bw gi gl gr n ve va vl (.slice A (s.pd.length + 1) c) (PlT.enter s k) w' ∧ KT wr w' := by
  obtain ⟨Ap, cp, rfl⟩ := hvp
  obtain ⟨i0, hi0, hz0, hz1, hz2⟩ := info_parts Try.infoIntG
  have H := Lib.hid h
  obtain ⟨ne1, ne2, ne3⟩ := h.bi_ne
  have hbb := h.b
  unfold wkCells at hbb
  obtain ⟨x0, x1, x2, x3, x4, x5, x6, x7, xf⟩ := blk8 hbb
  have lb := hbb.lt
  have li := h.bi.lt
  have hs0 := h.hs
  have ll := h.bl.lt
  have k0 : (0 : Int) ≤ (k : Int) := by omega
  have k1 : (k : Int) < (n : Int) := by omega
  clear h hbb
  go_enter Try.func40, Try.ntmps40
  go_upto_region 2 with fail
  generalize hW : World.alloc _ _ = W1
  have h1 : TW w0 B bw gi gl gr n ve va vl (.slice Ap s.pd.length cp) { s with fd := s.fd + 1 } W1 := by rw [← hW]; exact (H.out.found (s.fd + 1)).alloc _
  have hkt : KT wr W1 := by rw [← hW]; exact (KT.setWk H.out.b).trans (KT.alloc _ _)
  have bf : Blk W1 wr.heap.size 66 #[.int .i64 0, .int .i64 0] := by rw [← hW]; exact blk_new_set _ _ _ _ _
  have H1 := Lib.hid h1
  have HK1 := Lib.hid hkt
  have hb1 := h1.b
  unfold wkCells at hb1
  dsimp only at hb1
  have y1 := num_at h1.bi hk
  have y2 := num_at h1.bl hk
  have f1 := h1.bi.frozen
  have f2 := h1.bl.frozen
  have dd := h1.d1
  have dd' := Ne.symm h1.d1
  have li1 := h1.bi.lt
  have ll1 := h1.bl.lt
  have lb1 := hb1.lt
  obtain ⟨z, hzz⟩ : ∃ z : Int, ((s.fd + 1 : Nat) : Int) = z := ⟨_, rfl⟩
  rw [hzz] at hb1
  have HZZ := Lib.hid hzz
  clear hzz
  have r3 : ∀ x, Blk x bw 57 #[ve, va, vl, .slice (some ⟨gi, 0, none⟩) n n, .slice (some ⟨gl, 0, none⟩) n n, .slice (some ⟨gr, 0, none⟩) n n, .int .i64 z, .slice Ap s.pd.length cp] → x.cell? ⟨bw, 3, none⟩ = some (.slice (some ⟨gi, 0, none⟩) n n) := fun x hx => (blk8 hx).2.2.2.1
  have r4 : ∀ x, Blk x bw 57 #[ve, va, vl, .slice (some ⟨gi, 0, none⟩) n n, .slice (some ⟨gl, 0, none⟩) n n, .slice (some ⟨gr, 0, none⟩) n n, .int .i64 z, .slice Ap s.pd.length cp] → x.cell? ⟨bw, 4, none⟩ = some (.slice (some ⟨gl, 0, none⟩) n n) := fun x hx => (blk8 hx).2.2.2.2.1
  have r6 : ∀ x, Blk x bw 57 #[ve, va, vl, .slice (some ⟨gi, 0, none⟩) n n, .slice (some ⟨gl, 0, none⟩) n n, .slice (some ⟨gr, 0, none⟩) n n, .int .i64 z, .slice Ap s.pd.length cp] → x.cell? ⟨bw, 6, none⟩ = some (.int .i64 z) := fun x hx => (blk8 hx).2.2.2.2.2.2.1
  have ne1' := Ne.symm ne1
  have ne2' := Ne.symm ne2
  clear hW h1 hkt x0 x1 x2 x3 x4 x5 x6 x7 xf H
  go_region_held3 (fun x => Blk x bw 57 #[ve, va, vl, .slice (some ⟨gi, 0, none⟩) n n, .slice (some ⟨gl, 0, none⟩) n n, .slice (some ⟨gr, 0, none⟩) n n, .int .i64 z, .slice Ap s.pd.length cp]) (first | assumption | exact Blk.drew (by assumption) | exact Blk.far (by assumption) ne1 _ | exact Blk.far (by assumption) ne2 _) (first | fail)
  generalize hW2 : World.drew _ = W2
  have hzz := HZZ.out
  subst hzz
  have h2 : TW w0 B bw gi gl gr n ve va vl (.slice Ap s.pd.length cp) { s with fd := s.fd + 1, ix := PlT.upd s.ix k (s.fd + 1), lo := PlT.upd s.lo k (s.fd + 1) } W2 := by rw [← hW2]; exact ((H1.out.setIx k (s.fd + 1)).setLo k (s.fd + 1)).drew
  have hk2 : KT wr W2 := by rw [← hW2]; exact (HK1.out.trans (KT.setInt H1.out.bi)).trans (KT.setInt (H1.out.setIx k (s.fd + 1)).bl)
  have bf2 : Blk W2 wr.heap.size 66 #[.int .i64 0, .int .i64 0] := by rw [← hW2]; exact ((bf.far (Blk.ne_ bf H1.out.bi (by decide)) _).far (Blk.ne_ bf H1.out.bl (by decide)) _)
  have H2 := Lib.hid h2
  have HK2 := Lib.hid hk2
  have BF2 := Lib.hid bf2
  have hb2 := h2.b
  unfold wkCells at hb2
  dsimp only at hb2
  obtain ⟨x0, x1, x2, x3, x4, x5, x6, x7, xf⟩ := blk8 hb2
  have hs2 := h2.hs
  have lbw := hb2.lt
  clear hW2 h2 hk2 bf2 hb2 bf y1 y2 f1 f2 dd dd' r3 r4 r6 H1 HK1 hb1 HZZ
  go_upto_region 4 with (at_builtin; refine wpList_append_any _ rfl (.tmp 36) (.tmp 38) 33 rfl B 3 i0 (.int .i64 0) 1 8 Try.underlying33 hi0 hz0 hz1 hz2 rfl (by decide) (.slice Ap s.pd.length cp) s.pd.length (s.pd.map I) rfl (H2.out.op.alloc _) (W2.heap.size + 1) (some ⟨W2.heap.size, 0, none⟩) 1 1 [I k] rfl (reads_new1 _ _ _) (one_I k) (len_ok (by omega)) (by omega) (by simp; omega) ?_; intro v5 q5 ho5 hg5 hv5; obtain ⟨A5, c5, rfl⟩ := own_sl ho5; have hbq := (H2.out.alloc (.cells #[I k] 3)).b.grown hg5 (Ne.symm (H2.out.alloc (.cells #[I k] 3)).pne.2.2.2); have hbq' := hbq; unfold wkCells at hbq'; dsimp only at hbq'; have qf := (blk8 hbq').2.2.2.2.2.2.2.2; have q7 := (blk8 hbq').2.2.2.2.2.2.2.1)
  generalize hW3 : World.setCell _ _ _ = W3
  have h3 : TW w0 B bw gi gl gr n ve va vl (.slice A5 (s.pd.length + 1) c5) (PlT.enter s k) W3 := by
    rw [← hW3]
    exact (H2.out.alloc _).setPd (l := s.pd ++ [k]) hg5 (by rw [List.length_append, List.map_append]; exact ho5) (hv5.imp id fun e => ⟨_, e, Nat.le_refl _⟩)
  have hk3 : KT wr W3 := by rw [← hW3]; exact ((HK2.out.trans (KT.alloc _ _)).trans (KT.grown (H2.out.alloc _).op hg5)).trans (KT.setWk hbq)
  have bf3 : Blk W3 wr.heap.size 66 #[.int .i64 0, .int .i64 0] := by
    rw [← hW3]
    have b1 := (BF2.out.alloc (.cells #[I k] 3)).grown hg5 (Ne.symm (own_blk_ne (H2.out.alloc (.cells #[I k] 3)).op (BF2.out.alloc _) (by decide)))
    exact b1.far (Blk.ne_ b1 hbq (by decide)) _
  obtain ⟨z0, z1, zf⟩ := blk2 bf3
  have H3 := Lib.hid h3
  have HK3 := Lib.hid hk3
  have BF3 := Lib.hid bf3
  clear hW3 h3 hk3 bf3 ho5 hg5 hv5 hbq hbq' qf q7 x0 x1 x2 x3 x4 x5 x6 x7 xf
  go_wp2
  refine bodyPost_ret (v := .agg #[.int .i64 k, .int .i64 0]) ?_ rfl ⟨rfl, A5, c5, ?_, ?_⟩
  · simp [results, Try.results40, go_sem, z0, z1]
  · exact (H3.out.other BF3.out (by decide) (by decide) hs0).other (BF3.out.set_ 0 _) (by decide) (by decide) hs0
  · exact (HK3.out.far (Nat.le_refl _)).far (Nat.le_refl _)
end Go.Proofs.Ytnjbofahboopoaa
