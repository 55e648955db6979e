/- Plain: strongly connected parts, found by one walk with indices and low marks. -/
import Derived.Test.YtnjbofahboopoaaPlC
namespace Go.Proofs.Ytnjbofahboopoaa.PlT

/-- y can be reached from x by arcs to states outside of S -/
inductive Rch (G : Nat → List Nat) (S : Nat → Bool) : Nat → Nat → Prop
  | refl (x : Nat) : Rch G S x x
  | step {x y z : Nat} : Rch G S x y → z ∈ G y → S z = false → Rch G S x z
section
variable {G : Nat → List Nat} {S : Nat → Bool} {x y z : Nat}
theorem Rch.trans (h : Rch G S x y) (h' : Rch G S y z) : Rch G S x z := by
  induction h' with
  | refl => exact h
  | step _ h1 h2 ih => exact ih.step h1 h2
theorem Rch.one (h : z ∈ G x) (hs : S z = false) : Rch G S x z := (Rch.refl x).step h hs
end
def upd {α : Type} (f : Nat → α) (k : Nat) (v : α) (j : Nat) : α := if j = k then v else f j
theorem upd_same {α : Type} (f : Nat → α) (k : Nat) (v : α) : upd f k v k = v := if_pos rfl
theorem upd_ne {α : Type} (f : Nat → α) {k j : Nat} (v : α) (h : j ≠ k) : upd f k v j = f j := if_neg h

structure St where
  ix : Nat → Nat
  lo : Nat → Nat
  rt : Nat → Option Nat
  fd : Nat
  pd : List Nat

/-- an arc's target that has been looked at -/
def Seen (S : Nat → Bool) (s : St) (b t : Nat) : Prop := S t = true ∨ s.rt t ≠ none ∨ (t ∈ s.pd ∧ b ≤ s.ix t)

structure Inv (n : Nat) (G : Nat → List Nat) (S : Nat → Bool) (s : St) (V : List Nat) : Prop where
  pd_iff : ∀ x, x ∈ s.pd ↔ x < n ∧ S x = false ∧ s.ix x ≠ 0 ∧ s.rt x = none
  pd_asc : s.pd.Pairwise (fun x y => s.ix x < s.ix y)
  ix_le : ∀ x, s.ix x ≤ s.fd
  rt_ok : ∀ x, s.rt x ≠ none → x < n ∧ S x = false ∧ s.ix x ≠ 0
  low : ∀ x, x ∈ s.pd → s.lo x ≤ s.ix x ∧ ∃ y, y ∈ s.pd ∧ s.ix y = s.lo x ∧ Rch G S x y
  way_pd : ∀ w, w ∈ V → w ∈ s.pd
  way_asc : V.Pairwise (fun u v => s.ix u < s.ix v)
  desc : ∀ w, w ∈ V → ∀ x, x ∈ s.pd → s.ix w ≤ s.ix x → Rch G S w x
  base : ∀ x, x ∈ s.pd → ∃ w, w ∈ V ∧ s.ix w ≤ s.ix x
  done : ∀ x, x ∈ s.pd → x ∉ V → s.lo x < s.ix x ∧ ∀ t, t ∈ G x → Seen S s (s.lo x) t
  seg : ∀ w, w ∈ V → ∀ x, x ∈ s.pd → x ∉ V → s.ix w ≤ s.ix x → (∀ w', w' ∈ V → s.ix w' ≤ s.ix x → s.ix w' ≤ s.ix w) → s.lo w ≤ s.lo x
  closed : ∀ x, s.rt x ≠ none → ∀ t, t ∈ G x → S t = true ∨ s.rt t ≠ none
  root : ∀ x r, s.rt x = some r → s.rt r = some r ∧ Rch G S x r ∧ Rch G S r x
  comp : ∀ x y, s.rt x ≠ none → s.rt y ≠ none → Rch G S x y → Rch G S y x → s.rt x = s.rt y

/-- the arcs of the states on the way, so far -/
def Arcs (G : Nat → List Nat) (S : Nat → Bool) (s : St) (W : List (Nat × Nat)) : Prop := ∀ w, w ∈ W → ∀ t, t ∈ (G w.1).take w.2 → Seen S s (s.lo w.1) t

def start : St := ⟨fun _ => 0, fun _ => 0, fun _ => none, 0, []⟩
section
variable {n : Nat} {G : Nat → List Nat} {S : Nat → Bool} {s : St} {V : List Nat}
theorem Inv.start (n : Nat) (G : Nat → List Nat) (S : Nat → Bool) : Inv n G S start [] where
  pd_iff x := ⟨fun h => (by cases h), fun h => absurd rfl h.2.2.1⟩
  pd_asc := List.Pairwise.nil
  ix_le _ := Nat.le_refl _
  rt_ok _ h := absurd rfl h
  low _ h := by cases h
  way_pd _ h := by cases h
  way_asc := List.Pairwise.nil
  desc _ h := by cases h
  base _ h := by cases h
  done _ h := by cases h
  seg _ h := by cases h
  closed _ h := absurd rfl h
  root _ _ h := by cases h
  comp _ _ h := absurd rfl h

theorem Inv.reach (h : Inv n G S s V) {x y : Nat} (hx : s.rt x ≠ none) (hr : Rch G S x y) : s.rt y ≠ none := by
  induction hr with
  | refl => exact hx
  | step _ h1 h2 ih =>
    rcases h.closed _ ih _ h1 with h3 | h3
    · rw [h2] at h3; cases h3
    · exact h3

/-- a state is discovered -/
def enter (s : St) (t : Nat) : St := ⟨upd s.ix t (s.fd + 1), upd s.lo t (s.fd + 1), s.rt, s.fd + 1, s.pd ++ [t]⟩
theorem Inv.fresh (h : Inv n G S s V) {t : Nat} (h0 : s.ix t = 0) : t ∉ s.pd ∧ s.rt t = none := by
  refine ⟨fun hm => ((h.pd_iff t).1 hm).2.2.1 h0, ?_⟩
  cases hr : s.rt t with
  | none => rfl
  | some r => exact absurd h0 (h.rt_ok t (by rw [hr]; simp)).2.2
theorem Inv.enter (h : Inv n G S s V) {t : Nat} (ht : t < n) (hS : S t = false) (h0 : s.ix t = 0) (hV : ∀ w, w ∈ V → Rch G S w t) : Inv n G S (enter s t) (V ++ [t]) := by
  obtain ⟨hf, hr⟩ := h.fresh h0
  have hne : ∀ x, x ∈ s.pd → x ≠ t := fun x hx e => hf (e ▸ hx)
  have ix1 : ∀ x, x ∈ s.pd → upd s.ix t (s.fd + 1) x = s.ix x := fun x hx => upd_ne _ _ (hne x hx)
  have lo1 : ∀ x, x ∈ s.pd → upd s.lo t (s.fd + 1) x = s.lo x := fun x hx => upd_ne _ _ (hne x hx)
  have ixt : upd s.ix t (s.fd + 1) t = s.fd + 1 := upd_same ..
  have lot : upd s.lo t (s.fd + 1) t = s.fd + 1 := upd_same ..
  have hVp : ∀ w, w ∈ V → w ∈ s.pd := h.way_pd
  have mem : ∀ x, x ∈ s.pd ++ [t] → x ∈ s.pd ∨ x = t := fun x hx => (List.mem_append.1 hx).imp id List.mem_singleton.1
  have memV : ∀ x, x ∈ V ++ [t] → x ∈ V ∨ x = t := fun x hx => (List.mem_append.1 hx).imp id List.mem_singleton.1
  have seen : ∀ b u, Seen S s b u → Seen S (PlT.enter s t) b u := fun b u hu => by
    rcases hu with hu | hu | ⟨hu, hb⟩
    · exact .inl hu
    · exact .inr (.inl hu)
    · exact .inr (.inr ⟨List.mem_append_left _ hu, by show b ≤ upd s.ix t (s.fd + 1) u; rw [ix1 u hu]; exact hb⟩)
  refine ⟨fun x => ?_, ?_, fun x => ?_, fun x hx => ?_, fun x hx => ?_, fun w hw => ?_, ?_, fun w hw x hx hle => ?_, fun x hx => ?_, fun x hx hxV => ?_, fun w hw x hx hxV hle hall => ?_, h.closed, h.root, h.comp⟩
  · show x ∈ s.pd ++ [t] ↔ x < n ∧ S x = false ∧ upd s.ix t (s.fd + 1) x ≠ 0 ∧ s.rt x = none
    by_cases e : x = t
    · subst e
      rw [ixt]
      exact ⟨fun _ => ⟨ht, hS, by omega, hr⟩, fun _ => by simp⟩
    · rw [upd_ne _ _ e, ← h.pd_iff x]
      exact ⟨fun hx => (mem x hx).resolve_right e, fun hx => List.mem_append_left _ hx⟩
  · show (s.pd ++ [t]).Pairwise fun x y => upd s.ix t (s.fd + 1) x < upd s.ix t (s.fd + 1) y
    rw [List.pairwise_append]
    refine ⟨List.Pairwise.imp_of_mem (fun hx hy hlt => by rw [ix1 _ hx, ix1 _ hy]; exact hlt) h.pd_asc, by simp, fun a ha b hb => ?_⟩
    rw [List.mem_singleton] at hb
    subst hb
    rw [ix1 a ha, ixt]
    exact Nat.lt_succ_of_le (h.ix_le a)
  · show upd s.ix t (s.fd + 1) x ≤ s.fd + 1
    unfold upd
    split
    · exact Nat.le_refl _
    · exact Nat.le_succ_of_le (h.ix_le x)
  · obtain ⟨h1, h2, h3⟩ := h.rt_ok x hx
    refine ⟨h1, h2, ?_⟩
    show upd s.ix t (s.fd + 1) x ≠ 0
    rw [upd_ne _ _ (fun e => by rw [e] at hx; exact hx hr)]
    exact h3
  · show upd s.lo t (s.fd + 1) x ≤ upd s.ix t (s.fd + 1) x ∧ ∃ y, y ∈ s.pd ++ [t] ∧ upd s.ix t (s.fd + 1) y = upd s.lo t (s.fd + 1) x ∧ Rch G S x y
    rcases mem x hx with hx | rfl
    · obtain ⟨h1, y, h2, h3, h4⟩ := h.low x hx
      rw [ix1 x hx, lo1 x hx]
      exact ⟨h1, y, List.mem_append_left _ h2, by rw [ix1 y h2]; exact h3, h4⟩
    · rw [ixt, lot]
      exact ⟨Nat.le_refl _, x, by simp, ixt, .refl _⟩
  · rcases memV w hw with hw | rfl
    · exact List.mem_append_left _ (hVp w hw)
    · exact List.mem_append_right _ (List.mem_singleton.2 rfl)
  · show (V ++ [t]).Pairwise fun u v => upd s.ix t (s.fd + 1) u < upd s.ix t (s.fd + 1) v
    rw [List.pairwise_append]
    refine ⟨List.Pairwise.imp_of_mem (fun hx hy hlt => by rw [ix1 _ (hVp _ hx), ix1 _ (hVp _ hy)]; exact hlt) h.way_asc, by simp, fun a ha b hb => ?_⟩
    rw [List.mem_singleton] at hb
    subst hb
    rw [ix1 a (hVp a ha), ixt]
    exact Nat.lt_succ_of_le (h.ix_le a)
  · have hle : upd s.ix t (s.fd + 1) w ≤ upd s.ix t (s.fd + 1) x := hle
    rcases memV w hw with hw1 | rfl
    · rcases mem x hx with hx1 | rfl
      · rw [ix1 w (hVp w hw1), ix1 x hx1] at hle
        exact h.desc w hw1 x hx1 hle
      · exact hV w hw1
    · rcases mem x hx with hx1 | rfl
      · rw [ixt, ix1 x hx1] at hle
        have := h.ix_le x
        omega
      · exact .refl _
  · rcases mem x hx with hx | rfl
    · obtain ⟨w, h1, h2⟩ := h.base x hx
      refine ⟨w, List.mem_append_left _ h1, ?_⟩
      show upd s.ix t (s.fd + 1) w ≤ upd s.ix t (s.fd + 1) x
      rw [ix1 w (hVp w h1), ix1 x hx]
      exact h2
    · exact ⟨x, by simp, Nat.le_refl _⟩
  · rcases mem x hx with hx | rfl
    · obtain ⟨h1, h2⟩ := h.done x hx fun hm => hxV (List.mem_append_left _ hm)
      show upd s.lo t (s.fd + 1) x < upd s.ix t (s.fd + 1) x ∧ ∀ u, u ∈ G x → Seen S (PlT.enter s t) (upd s.lo t (s.fd + 1) x) u
      rw [ix1 x hx, lo1 x hx]
      exact ⟨h1, fun u hu => seen _ u (h2 u hu)⟩
    · exact absurd (by simp) hxV
  · rcases mem x hx with hx1 | rfl
    · have hx := hx1
      have hx0 : x ∉ V := fun hm => hxV (List.mem_append_left _ hm)
      have hle : upd s.ix t (s.fd + 1) w ≤ upd s.ix t (s.fd + 1) x := hle
      show upd s.lo t (s.fd + 1) w ≤ upd s.lo t (s.fd + 1) x
      rcases memV w hw with hw | rfl
      · rw [lo1 w (hVp w hw), lo1 x hx]
        rw [ix1 w (hVp w hw), ix1 x hx] at hle
        refine h.seg w hw x hx hx0 hle fun w' hw' hle' => ?_
        have := hall w' (List.mem_append_left _ hw') (by show upd s.ix t (s.fd + 1) w' ≤ upd s.ix t (s.fd + 1) x; rw [ix1 w' (hVp w' hw'), ix1 x hx]; exact hle')
        have this : upd s.ix t (s.fd + 1) w' ≤ upd s.ix t (s.fd + 1) w := this
        rwa [ix1 w' (hVp w' hw'), ix1 w (hVp w hw)] at this
      · rw [ixt, ix1 x hx1] at hle
        have := h.ix_le x
        omega
    · exact absurd (by simp) hxV

/-- the low mark of a state on the way falls -/
def lower (s : St) (k v : Nat) : St := { s with lo := upd s.lo k (min (s.lo k) v) }
theorem lower_le (s : St) (k v x : Nat) : (lower s k v).lo x ≤ s.lo x := by
  show upd s.lo k (min (s.lo k) v) x ≤ s.lo x
  unfold upd
  split
  · rename_i e; subst e; exact Nat.min_le_left _ _
  · exact Nat.le_refl _
theorem lower_ne (s : St) {k x : Nat} (v : Nat) (h : x ≠ k) : (lower s k v).lo x = s.lo x := upd_ne _ _ h
theorem lower_same (s : St) (k v : Nat) : (lower s k v).lo k = min (s.lo k) v := upd_same ..
theorem Seen.less {b b' t : Nat} (h : Seen S s b t) (hb : b' ≤ b) : Seen S s b' t := h.imp id (Or.imp id fun ⟨h1, h2⟩ => ⟨h1, Nat.le_trans hb h2⟩)
theorem Inv.lower (h : Inv n G S s V) {k v : Nat} (hk : k ∈ V) (hv : ∃ y, y ∈ s.pd ∧ s.ix y = v ∧ Rch G S k y) : Inv n G S (lower s k v) V := by
  refine ⟨h.pd_iff, h.pd_asc, h.ix_le, h.rt_ok, fun x hx => ?_, h.way_pd, h.way_asc, h.desc, h.base, fun x hx hxV => ?_, fun w hw x hx hxV hle hall => ?_, h.closed, h.root, h.comp⟩
  · obtain ⟨h1, y, h2, h3, h4⟩ := h.low x hx
    refine ⟨Nat.le_trans (lower_le s k v x) h1, ?_⟩
    by_cases e : x = k
    · subst e
      rw [lower_same]
      rcases Nat.le_total (s.lo x) v with hl | hl
      · rw [Nat.min_eq_left hl]; exact ⟨y, h2, h3, h4⟩
      · rw [Nat.min_eq_right hl]; exact hv
    · rw [lower_ne s v e]; exact ⟨y, h2, h3, h4⟩
  · have e : x ≠ k := fun e => hxV (e ▸ hk)
    have := h.done x hx hxV
    rw [lower_ne s v e]
    exact this
  · have e : x ≠ k := fun e => hxV (e ▸ hk)
    rw [lower_ne s v e]
    exact Nat.le_trans (lower_le s k v w) (h.seg w hw x hx hxV hle hall)
theorem Arcs.lower {W : List (Nat × Nat)} (h : Arcs G S s W) (k v : Nat) : Arcs G S (PlT.lower s k v) W :=
  fun w hw t ht => (show Seen S s ((PlT.lower s k v).lo w.1) t from (h w hw t ht).less (lower_le s k v w.1))

theorem asc_last {V0 : List Nat} {k w : Nat} {f : Nat → Nat} (h : (V0 ++ [k]).Pairwise (fun u v => f u < f v)) (hw : w ∈ V0) : f w < f k :=
  (List.pairwise_append.1 h).2.2 w hw k (List.mem_singleton.2 rfl)
theorem ix_inj (h : Inv n G S s V) {x y : Nat} (hx : x ∈ s.pd) (hy : y ∈ s.pd) (e : s.ix x = s.ix y) : x = y := by
  obtain ⟨i, hi, rfl⟩ := List.getElem_of_mem hx
  obtain ⟨j, hj, rfl⟩ := List.getElem_of_mem hy
  have hp := List.pairwise_iff_getElem.1 h.pd_asc
  rcases Nat.lt_trichotomy i j with hlt | rfl | hlt
  · have := hp i j hi hj hlt; omega
  · rfl
  · have := hp j i hj hi hlt; omega

/-- the last state of the way is left, and it is no root -/
theorem Inv.pop {V0 : List Nat} {u k : Nat} (h : Inv n G S s (V0 ++ [u] ++ [k])) (hlt : s.lo k < s.ix k) (hdone : ∀ t, t ∈ G k → Seen S s (s.lo k) t) (hle : s.lo u ≤ s.lo k) : Inv n G S s (V0 ++ [u]) := by
  have hku : s.ix u < s.ix k := asc_last h.way_asc (by simp)
  have hsub : ∀ w, w ∈ V0 ++ [u] → w ∈ V0 ++ [u] ++ [k] := fun w hw => List.mem_append_left _ hw
  have hlast : ∀ w, w ∈ V0 ++ [u] → s.ix u ≤ s.ix w → w = u := fun w hw hl => by
    rcases List.mem_append.1 hw with h1 | h1
    · have := asc_last (List.pairwise_append.1 h.way_asc).1 h1
      omega
    · exact List.mem_singleton.1 h1
  have hmax : ∀ w, w ∈ V0 ++ [u] ++ [k] → s.ix w ≤ s.ix k := fun w hw => by
    rcases List.mem_append.1 hw with h1 | h1
    · exact Nat.le_of_lt (asc_last h.way_asc h1)
    · rw [List.mem_singleton.1 h1]; exact Nat.le_refl _
  have hnot : ∀ x, x ∉ V0 ++ [u] → x ≠ k → x ∉ V0 ++ [u] ++ [k] := fun x h1 h2 hm => by
    rcases List.mem_append.1 hm with h3 | h3
    · exact h1 h3
    · exact h2 (List.mem_singleton.1 h3)
  refine ⟨h.pd_iff, h.pd_asc, h.ix_le, h.rt_ok, h.low, fun w hw => h.way_pd w (hsub w hw), (List.pairwise_append.1 h.way_asc).1, fun w hw => h.desc w (hsub w hw), fun x hx => ?_, fun x hx hxV => ?_, fun w hw x hx hxV hwx hall => ?_, h.closed, h.root, h.comp⟩
  · obtain ⟨w, h1, h2⟩ := h.base x hx
    rcases List.mem_append.1 h1 with h3 | h3
    · exact ⟨w, h3, h2⟩
    · rw [List.mem_singleton] at h3
      subst h3
      exact ⟨u, by simp, by omega⟩
  · by_cases e : x = k
    · subst e; exact ⟨hlt, hdone⟩
    · exact h.done x hx (hnot x hxV e)
  · by_cases e : x = k
    · subst e
      rw [hlast w hw (hall u (by simp) (Nat.le_of_lt hku))]
      exact hle
    · by_cases hkx : s.ix k ≤ s.ix x
      · rw [hlast w hw (hall u (by simp) (by omega))]
        exact Nat.le_trans hle (h.seg k (by simp) x hx (hnot x hxV e) hkx fun w' hw' _ => hmax w' hw')
      · refine h.seg w (hsub w hw) x hx (hnot x hxV e) hwx fun w' hw' hl => ?_
        rcases List.mem_append.1 hw' with h3 | h3
        · exact hall w' h3 hl
        · rw [List.mem_singleton] at h3
          subst h3
          omega

/-- the part of a root is complete -/
def complete (s : St) (P1 C : List Nat) (k : Nat) : St := { s with rt := fun x => if x ∈ C then some k else s.rt x, pd := P1 }
theorem Inv.complete {V0 : List Nat} {k : Nat} {P1 P2 : List Nat} (h : Inv n G S s (V0 ++ [k])) (hpd : s.pd = P1 ++ k :: P2) (hroot : s.lo k = s.ix k) (hdone : ∀ t, t ∈ G k → Seen S s (s.lo k) t) : Inv n G S (complete s P1 (k :: P2) k) V0 := by
  have hasc := h.pd_asc
  rw [hpd, List.pairwise_append] at hasc
  obtain ⟨p1, p2, p3⟩ := hasc
  have hkpd : k ∈ s.pd := h.way_pd k (by simp)
  have hCpd : ∀ x, x ∈ k :: P2 → x ∈ s.pd := fun x hx => by rw [hpd]; exact List.mem_append_right _ hx
  have hPpd : ∀ x, x ∈ P1 → x ∈ s.pd := fun x hx => by rw [hpd]; exact List.mem_append_left _ hx
  have hCge : ∀ x, x ∈ k :: P2 → s.ix k ≤ s.ix x := fun x hx => by
    rcases List.mem_cons.1 hx with rfl | hx
    · exact Nat.le_refl _
    · exact Nat.le_of_lt ((List.pairwise_cons.1 p2).1 x hx)
  have hPlt : ∀ x, x ∈ P1 → s.ix x < s.ix k := fun x hx => p3 x hx k (List.mem_cons_self ..)
  have hin : ∀ x, x ∈ s.pd → s.ix k ≤ s.ix x → x ∈ k :: P2 := fun x hx hl => by
    rw [hpd] at hx
    rcases List.mem_append.1 hx with h1 | h1
    · have := hPlt x h1; omega
    · exact h1
  have hout : ∀ x, x ∈ s.pd → s.ix x < s.ix k → x ∈ P1 := fun x hx hl => by
    rw [hpd] at hx
    rcases List.mem_append.1 hx with h1 | h1
    · exact h1
    · have := hCge x h1; omega
  have hPC : ∀ x, x ∈ P1 → x ∉ k :: P2 := fun x h1 h2 => by have := hPlt x h1; have := hCge x h2; omega
  have hVlt : ∀ w, w ∈ V0 → s.ix w < s.ix k := fun w hw => asc_last h.way_asc hw
  have hrt : ∀ x, x ∈ k :: P2 → s.rt x = none := fun x hx => ((h.pd_iff x).1 (hCpd x hx)).2.2.2
  have hCV : ∀ x, x ∈ k :: P2 → x ≠ k → x ∉ V0 ++ [k] := fun x hx hne hm => by
    rcases List.mem_append.1 hm with h1 | h1
    · have := hVlt x h1; have := hCge x hx; omega
    · exact hne (List.mem_singleton.1 h1)
  have hmax : ∀ w, w ∈ V0 ++ [k] → s.ix w ≤ s.ix k := fun w hw => by
    rcases List.mem_append.1 hw with h1 | h1
    · exact Nat.le_of_lt (hVlt w h1)
    · rw [List.mem_singleton.1 h1]; exact Nat.le_refl _
  have hlo : ∀ x, x ∈ k :: P2 → s.ix k ≤ s.lo x := fun x hx => by
    by_cases e : x = k
    · subst e; omega
    · have := h.seg k (by simp) x (hCpd x hx) (hCV x hx e) (hCge x hx) fun w' hw' _ => hmax w' hw'
      omega
  have hseen : ∀ x, x ∈ k :: P2 → ∀ t, t ∈ G x → Seen S s (s.lo x) t := fun x hx t ht => by
    by_cases e : x = k
    · subst e; exact hdone t ht
    · exact (h.done x (hCpd x hx) (hCV x hx e)).2 t ht
  have hto : ∀ m x, s.ix x ≤ m → x ∈ k :: P2 → Rch G S x k := by
    intro m
    induction m with
    | zero =>
      intro x hm hx
      exact absurd (Nat.le_zero.1 hm) ((h.pd_iff x).1 (hCpd x hx)).2.2.1
    | succ m ih =>
      intro x hm hx
      by_cases e : x = k
      · subst e; exact .refl _
      · obtain ⟨h1, y, h2, h3, h4⟩ := h.low x (hCpd x hx)
        have h5 := (h.done x (hCpd x hx) (hCV x hx e)).1
        exact h4.trans (ih y (by omega) (hin y h2 (by rw [h3]; exact hlo x hx)))
  have hfrom : ∀ x, x ∈ k :: P2 → Rch G S k x := fun x hx => h.desc k (by simp) x (hCpd x hx) (hCge x hx)
  have rt1 : ∀ x, x ∈ k :: P2 → (PlT.complete s P1 (k :: P2) k).rt x = some k := fun x hx => if_pos hx
  have rt2 : ∀ x, x ∉ k :: P2 → (PlT.complete s P1 (k :: P2) k).rt x = s.rt x := fun x hx => if_neg hx
  have rt3 : ∀ x, s.rt x ≠ none → (PlT.complete s P1 (k :: P2) k).rt x ≠ none := fun x hx => by
    by_cases hc : x ∈ k :: P2
    · rw [rt1 x hc]; simp
    · rw [rt2 x hc]; exact hx
  have seen : ∀ b u, b ≤ s.ix k → Seen S s b u → Seen S (PlT.complete s P1 (k :: P2) k) b u := fun b u _ hu => by
    rcases hu with hu | hu | ⟨hu, hb⟩
    · exact .inl hu
    · exact .inr (.inl (rt3 u hu))
    · by_cases hc : u ∈ k :: P2
      · exact .inr (.inl (by rw [rt1 u hc]; simp))
      · refine .inr (.inr ⟨?_, hb⟩)
        rw [hpd] at hu
        exact (List.mem_append.1 hu).resolve_right hc
  refine ⟨fun x => ?_, p1, h.ix_le, fun x hx => ?_, fun x hx => ?_, fun w hw => hout w (h.way_pd w (List.mem_append_left _ hw)) (hVlt w hw), (List.pairwise_append.1 h.way_asc).1, fun w hw x hx => h.desc w (List.mem_append_left _ hw) x (hPpd x hx), fun x hx => ?_, fun x hx hxV => ?_, fun w hw x hx hxV hle hall => ?_, fun x hx t ht => ?_, fun x r hr => ?_, fun x y hx hy hxy hyx => ?_⟩
  · show x ∈ P1 ↔ x < n ∧ S x = false ∧ s.ix x ≠ 0 ∧ (PlT.complete s P1 (k :: P2) k).rt x = none
    constructor
    · intro hx
      have := (h.pd_iff x).1 (hPpd x hx)
      rw [rt2 x (hPC x hx)]
      exact this
    · rintro ⟨h1, h2, h3, h4⟩
      by_cases hc : x ∈ k :: P2
      · rw [rt1 x hc] at h4; cases h4
      · rw [rt2 x hc] at h4
        have := (h.pd_iff x).2 ⟨h1, h2, h3, h4⟩
        rw [hpd] at this
        exact (List.mem_append.1 this).resolve_right hc
  · by_cases hc : x ∈ k :: P2
    · obtain ⟨h1, h2, h3, _⟩ := (h.pd_iff x).1 (hCpd x hc)
      exact ⟨h1, h2, h3⟩
    · rw [rt2 x hc] at hx
      exact h.rt_ok x hx
  · obtain ⟨h1, y, h2, h3, h4⟩ := h.low x (hPpd x hx)
    exact ⟨h1, y, hout y h2 (by have := hPlt x hx; omega), h3, h4⟩
  · obtain ⟨w, h1, h2⟩ := h.base x (hPpd x hx)
    rcases List.mem_append.1 h1 with h3 | h3
    · exact ⟨w, h3, h2⟩
    · rw [List.mem_singleton] at h3
      subst h3
      have := hPlt x hx
      omega
  · have hxV' : x ∉ V0 ++ [k] := fun hm => by
      rcases List.mem_append.1 hm with h1 | h1
      · exact hxV h1
      · rw [List.mem_singleton] at h1
        subst h1
        have := hPlt x hx
        omega
    obtain ⟨h1, h2⟩ := h.done x (hPpd x hx) hxV'
    exact ⟨h1, fun t ht => seen _ t (by have := hPlt x hx; show s.lo x ≤ _; omega) (h2 t ht)⟩
  · have hxk := hPlt x hx
    refine h.seg w (List.mem_append_left _ hw) x (hPpd x hx) (fun hm => ?_) hle fun w' hw' hl => ?_
    · rcases List.mem_append.1 hm with h1 | h1
      · exact hxV h1
      · rw [List.mem_singleton] at h1; subst h1; omega
    · rcases List.mem_append.1 hw' with h1 | h1
      · exact hall w' h1 hl
      · rw [List.mem_singleton] at h1; subst h1; omega
  · by_cases hc : x ∈ k :: P2
    · rcases hseen x hc t ht with h1 | h1 | ⟨h1, h2⟩
      · exact .inl h1
      · exact .inr (rt3 t h1)
      · exact .inr (by rw [rt1 t (hin t h1 (Nat.le_trans (hlo x hc) h2))]; simp)
    · rw [rt2 x hc] at hx
      exact (h.closed x hx t ht).imp id (rt3 t)
  · by_cases hc : x ∈ k :: P2
    · rw [rt1 x hc] at hr
      injection hr with hr
      subst hr
      exact ⟨rt1 _ (List.mem_cons_self ..), hto _ x (Nat.le_refl _) hc, hfrom x hc⟩
    · rw [rt2 x hc] at hr
      obtain ⟨h1, h2, h3⟩ := h.root x r hr
      refine ⟨?_, h2, h3⟩
      rw [rt2 r (fun hm => by rw [hrt r hm] at h1; cases h1)]
      exact h1
  · by_cases hc : x ∈ k :: P2
    · by_cases hd : y ∈ k :: P2
      · rw [rt1 x hc, rt1 y hd]
      · rw [rt2 y hd] at hy
        exact absurd (hrt x hc) (h.reach hy hyx)
    · rw [rt2 x hc] at hx
      by_cases hd : y ∈ k :: P2
      · exact absurd (hrt y hd) (h.reach hx hxy)
      · rw [rt2 y hd] at hy
        rw [rt2 x hc, rt2 y hd]
        exact h.comp x y hx hy hxy hyx
theorem Arcs.complete {k : Nat} {P1 P2 : List Nat} {W : List (Nat × Nat)} (h : Arcs G S s W) (hpd : s.pd = P1 ++ k :: P2) : Arcs G S (PlT.complete s P1 (k :: P2) k) W := by
  intro w hw t ht
  rcases h w hw t ht with hu | hu | ⟨hu, hb⟩
  · exact .inl hu
  · refine .inr (.inl ?_)
    show (if t ∈ k :: P2 then some k else s.rt t) ≠ none
    split
    · simp
    · exact hu
  · by_cases hc : t ∈ k :: P2
    · exact .inr (.inl (by show (if t ∈ k :: P2 then some k else s.rt t) ≠ none; rw [if_pos hc]; simp))
    · refine .inr (.inr ⟨?_, hb⟩)
      rw [hpd] at hu
      exact (List.mem_append.1 hu).resolve_right hc
theorem Arcs.enter {t : Nat} {W : List (Nat × Nat)} (h : Arcs G S s W) (hW : ∀ w, w ∈ W → w.1 ≠ t) (hf : t ∉ s.pd) : Arcs G S (PlT.enter s t) (W ++ [(t, 0)]) := by
  intro w hw u hu
  rcases List.mem_append.1 hw with hw | hw
  · show Seen S (PlT.enter s t) (upd s.lo t (s.fd + 1) w.1) u
    rw [upd_ne _ _ (hW w hw)]
    rcases h w hw u hu with h1 | h1 | ⟨h1, h2⟩
    · exact .inl h1
    · exact .inr (.inl h1)
    · exact .inr (.inr ⟨List.mem_append_left _ h1, by show _ ≤ upd s.ix t (s.fd + 1) u; rw [upd_ne _ _ (fun e : u = t => hf (by rw [← e]; exact h1))]; exact h2⟩)
  · rw [List.mem_singleton] at hw
    subst hw
    simp at hu
/-- one more arc of a state of the way has been looked at -/
theorem Arcs.next {W0 W1 : List (Nat × Nat)} {k a t : Nat} (h : Arcs G S s (W0 ++ (k, a) :: W1)) (ht : (G k)[a]? = some t) (hs : Seen S s (s.lo k) t) : Arcs G S s (W0 ++ (k, a + 1) :: W1) := by
  intro w hw u hu
  rcases List.mem_append.1 hw with hw | hw
  · exact h w (List.mem_append_left _ hw) u hu
  · rcases List.mem_cons.1 hw with rfl | hw
    · dsimp only at hu ⊢
      rw [List.take_add_one, ht] at hu
      rcases List.mem_append.1 hu with hu | hu
      · exact h (k, a) (List.mem_append_right _ (List.mem_cons_self ..)) u hu
      · simp only [Option.toList_some, List.mem_singleton] at hu
        subst hu
        exact hs
    · exact h w (List.mem_append_right _ (List.mem_cons_of_mem _ hw)) u hu
end
end Go.Proofs.Ytnjbofahboopoaa.PlT
