/- (*fairness.walk).complete. -/
import Derived.Test.YtnjbofahboopoaaG2
import Derived.Deep.LoopGhost
namespace Go.Proofs.Ytnjbofahboopoaa
open Go.RowKit

theorem own_take {w : World} {base e g m c : Nat} {xs : List Value} (h : w.ownsRow base e 1 (.slice (some ⟨g, 0, none⟩) (m + 1) c) (m + 1) xs) : w.ownsRow base e 1 (.slice (some ⟨g, 0, none⟩) m c) m (xs.take m) := by
  obtain ⟨hl, h⟩ := h
  refine ⟨by rw [List.length_take]; omega, ?_⟩
  rcases h with ⟨hv, _⟩ | ⟨g', cap, cur, hv, hg, hh, h1, h2, h3, h4⟩
  · cases hv
  · injection hv with hv1 hv2 hv3
    injection hv1 with hv1
    injection hv1 with hv1
    subst hv1 hv3
    refine .inr ⟨g, c, cur, rfl, hg, hh, by omega, h2, h3, ?_⟩
    rw [← h4, List.take_take]
    congr 1
    omega
theorem own_cp {w : World} {base e size g n c : Nat} {xs : List Value} (h : w.ownsRow base e size (.slice (some ⟨g, 0, none⟩) n c) n xs) : n ≤ c := by
  rcases h.2 with ⟨hv, _⟩ | ⟨g, cap, cur, hv, _, _, h1, _⟩
  · cases hv
  · injection hv with _ _ hv
    subst hv
    exact h1
/-- the last j of C have been taken -/
def cst (s : PlT.St) (P1 C : List Nat) (k j : Nat) : PlT.St := { s with pd := P1 ++ C.take j, rt := fun x => if x ∈ C.drop j then some k else s.rt x }
theorem cst_step (s : PlT.St) (P1 C : List Nat) (k : Nat) {j : Nat} (h : j < C.length) : { cst s P1 C k (j + 1) with pd := P1 ++ C.take j, rt := PlT.upd (cst s P1 C k (j + 1)).rt C[j] (some k) } = cst s P1 C k j := by
  have hrt : PlT.upd (fun x => if x ∈ C.drop (j + 1) then some k else s.rt x) C[j] (some k) = fun x => if x ∈ C.drop j then some k else s.rt x := by
    funext x
    unfold PlT.upd
    rw [List.drop_eq_getElem_cons h]
    by_cases e : x = C[j]
    · rw [if_pos e, if_pos (by rw [e]; exact List.mem_cons_self ..)]
    · rw [if_neg e]
      dsimp only
      by_cases hm : x ∈ C.drop (j + 1)
      · rw [if_pos hm, if_pos (List.mem_cons_of_mem _ hm)]
      · rw [if_neg hm, if_neg (fun h => by rcases List.mem_cons.1 h with h | h; exact e h; exact hm h)]
  show PlT.St.mk s.ix s.lo (PlT.upd (fun x => if x ∈ C.drop (j + 1) then some k else s.rt x) C[j] (some k)) s.fd (P1 ++ C.take j) = PlT.St.mk s.ix s.lo (fun x => if x ∈ C.drop j then some k else s.rt x) s.fd (P1 ++ C.take j)
  rw [hrt]
theorem cst_start (s : PlT.St) (P1 C : List Nat) (k : Nat) (h : s.pd = P1 ++ C) : cst s P1 C k C.length = s := by
  unfold cst
  obtain ⟨ix, lo, rt, fd, pd⟩ := s
  dsimp only at h
  subst h
  simp
theorem cst_end (s : PlT.St) (P1 C : List Nat) (k : Nat) : cst s P1 C k 0 = PlT.complete s P1 C k := by
  unfold cst PlT.complete
  simp

set_option maxRecDepth 100000 in
set_option maxHeartbeats 2000000 in
theorem complete_any (w0 : World) (B bw gi gl gr n : Nat) (ve va vl vp : Value) (s : PlT.St) (k : Nat) (P1 P2 : List Nat) (hpd : s.pd = P1 ++ k :: P2) (hlt : ∀ x ∈ s.pd, x < n) (hnd : s.pd.Nodup) (hn : n ≤ 100000) (wa : World) (h : TW w0 B bw gi gl gr n ve va vl vp s wa) :
    Calls Try.prog 41 #[.pointer (some ⟨bw, 0, none⟩), .int .i64 k] wa fun e w' => (∃ v, e = .returned v) ∧ ∃ A c, TW w0 B bw gi gl gr n ve va vl (.slice A P1.length c) (PlT.complete s P1 (k :: P2) k) w' ∧ KT wa w' := by
  have hlen : s.pd.length ≤ n := PlC.nodup_length_le hnd hlt
  have HLT := Lib.hid (show ∀ x ∈ k :: P2, x < n from fun x hx => hlt x (by rw [hpd]; exact List.mem_append_right _ hx))
  rw [hpd] at hnd hlen
  have HND := Lib.hid (show (k :: P2).Nodup from (List.nodup_append.1 hnd).2.1)
  have hl2 : P1.length + (k :: P2).length ≤ n := by simpa using hlen
  obtain ⟨C, hC⟩ : ∃ C, C = k :: P2 := ⟨_, rfl⟩
  have HC0 := Lib.hid (show C[0]? = some k by rw [hC]; rfl)
  have hCl : 0 < C.length := by rw [hC]; simp
  rw [← hC] at hpd hl2 HLT HND ⊢
  have H := Lib.hid (show TW w0 B bw gi gl gr n ve va vl vp (cst s P1 C k C.length) wa by rw [cst_start s P1 C k hpd]; exact h)
  clear hC hnd hlen hlt h hpd
  obtain ⟨Ap, cp, hvp⟩ := own_sl H.out.op
  go_enter Try.func41, Try.ntmps41
  go_wp2_with fail
  go_loopg [4] C.length (fun j _ W => 0 < j ∧ j ≤ C.length ∧ ∃ A c, TW w0 B bw gi gl gr n ve va vl (.slice A (P1.length + j) c) (cst s P1 C k j) W ∧ KT wa W)
  case atStart =>
    refine ⟨hCl, Nat.le_refl _, Ap, cp, ?_, KT.refl _⟩
    have e : (cst s P1 C k C.length).pd.length = P1.length + C.length := by unfold cst; simp
    rw [e] at hvp
    rw [← hvp]
    exact H.out
  case round =>
    clear H hvp
    obtain ⟨hj0, hjl, A, c, hT, hK⟩ := hrel
    obtain ⟨j, rfl⟩ : ∃ j, gk = j + 1 := ⟨gk - 1, by omega⟩
    have hop := hT.op
    have e : (cst s P1 C k (j + 1)).pd.length = P1.length + j + 1 := by unfold cst; simp; omega
    rw [e] at hop
    rw [← Nat.add_assoc] at hT
    obtain ⟨gp, c', hvp, hgB, hgl⟩ := hop.form (by omega)
    injection hvp with hv1 _ hv3
    subst hv1 hv3
    have hCj : j < C.length := by omega
    have hcc := own_cp hop
    have hcc1 : (P1.length : Int) + (j : Int) ≤ (c : Int) := by omega
    have hcn := HLT.out C[j] (List.getElem_mem _)
    have hcell := hop.cellAt (P1.length + j) (by omega)
    have hget : ((cst s P1 C k (j + 1)).pd.map I)[P1.length + j]? = some (I C[j]) := by
      show ((P1 ++ C.take (j + 1)).map I)[P1.length + j]? = _
      rw [List.getElem?_map, List.getElem?_append_right (by omega), Nat.add_sub_cancel_left, List.getElem?_take, if_pos (by omega), List.getElem?_eq_getElem hCj]
      rfl
    rw [hget] at hcell
    unfold I at hcell
    have HTK := Lib.hid (show wr.ownsRow B 3 1 (.slice (some ⟨gp, 0, none⟩) (P1.length + j) c) (P1 ++ C.take j).length ((P1 ++ C.take j).map I) by
      have := own_take (m := P1.length + j) hop
      have e1 : ((cst s P1 C k (j + 1)).pd.map I).take (P1.length + j) = (P1 ++ C.take j).map I := by
        show ((P1 ++ C.take (j + 1)).map I).take (P1.length + j) = _
        rw [← List.map_take, List.take_length_add_append, List.take_take, Nat.min_eq_left (by omega)]
      rw [e1] at this
      have e2 : (P1 ++ C.take j).length = P1.length + j := by simp; omega
      rw [e2]
      exact this)
    have HST := Lib.hid (cst_step s P1 C k hCj)
    have HEND := Lib.hid (fun (e : j = 0) => (show C[j] = k by subst e; have := HC0.out; rw [List.getElem?_eq_getElem hCj] at this; injection this))
    have HNE := Lib.hid (fun (e : j ≠ 0) => (show C[j] ≠ k from fun ek => by
      have h0 := HC0.out
      rw [List.getElem?_eq_getElem hCl] at h0
      injection h0 with h0
      have := (List.getElem_inj (xs := C) HND.out (h₀ := hCj) (h₁ := hCl)).1 (ek.trans h0.symm)
      exact e this))
    have HT := Lib.hid hT
    have HK := Lib.hid hK
    have hbb := hT.b
    unfold wkCells at hbb
    obtain ⟨x0, x1, x2, x3, x4, x5, x6, x7, xf⟩ := blk8 hbb
    have ycr := num_at hT.br hcn
    have fr := hT.br.frozen
    have ner := hT.bi_ne.2.2
    have ner' := Ne.symm ner
    have gpn : gp ≠ bw := fun e => hT.pne.2.2.2 (by rw [← e]; rfl)
    generalize C[j] = y at *
    have y0 : (0 : Int) ≤ (y : Int) := by omega
    have y1 : (y : Int) < (n : Int) := by omega
    have m1 := IntWalk.i64_in ((P1.length : Int) + (j : Int)) (by omega)
    have m2 : ((P1.length : Int) + (j : Int) + 1) - 1 = (P1.length : Int) + (j : Int) := by omega
    clear hT hK hop hget hbb e
    have HN := Lib.hid (show TW w0 B bw gi gl gr n ve va vl (.slice (some ⟨gp, 0, none⟩) (P1.length + j) c) (cst s P1 C k j) ((wr.setCell ⟨bw, 7, none⟩ (.slice (some ⟨gp, 0, none⟩) (P1.length + j) c)).setCell ⟨gr, y, none⟩ (.int .i64 (k : Int))) by
      have h1 := (HT.out.setPd (l := P1 ++ C.take j) (World.grownBy.refl _ _) HTK.out (.inl rfl)).setRt y k
      rw [← HST.out]
      exact h1)
    have HKN := Lib.hid (show KT wa ((wr.setCell ⟨bw, 7, none⟩ (.slice (some ⟨gp, 0, none⟩) (P1.length + j) c)).setCell ⟨gr, y, none⟩ (.int .i64 (k : Int))) from (HK.out.trans (KT.setWk HT.out.b)).trans (KT.setInt (HT.out.br.far (p := ⟨bw, 7, none⟩) ner' _)))
    by_cases hj : j = 0
    · have hyk := HEND.out hj
      subst hyk
      have HJ := Lib.hid hj
      clear hj
      have e1 : ((y : Int) == (y : Int)) = true := beq_self_eq_true _
      go_wp2
      refine bodyPost_ret (v := .tuple #[]) ?_ rfl ⟨⟨_, rfl⟩, ⟨some ⟨gp, 0, none⟩, c, ?_⟩, HKN.out⟩
      · simp [results, Try.results41]
      · have h1 := HN.out
        have hj := HJ.out
        rw [hj, Nat.add_zero, cst_end] at h1
        rw [hj, Nat.add_zero]
        exact h1
    · have hyk := HNE.out hj
      have e1 : ((y : Int) == (k : Int)) = false := beq_eq_false_iff_ne.2 (by omega)
      have e2 : (y == k) = false := beq_eq_false_iff_ne.2 hyk
      go_wp2
      go_roundg j
      case measure => omega
      case rel => exact ⟨by omega, by omega, some ⟨gp, 0, none⟩, c, HN.out, HKN.out⟩
end Go.Proofs.Ytnjbofahboopoaa
