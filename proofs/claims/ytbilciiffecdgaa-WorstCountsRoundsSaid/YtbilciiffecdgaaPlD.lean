/- Plain: the greatest weights, found by improving until nothing changes. -/
import Derived.Test.YtbilciiffecdgaaPlL
import Derived.Test.YtbilciiffecdgaaPlP
import Derived.Test.YtbilciiffecdgaaNM
namespace Go.Proofs.Ytbilciiffecdgaa.PlL
open PlG PlC

/-- how much is still to come -/
def gap (f g : Nat → Nat) : Nat → Nat
  | 0 => 0
  | n + 1 => gap f g n + (f n - g n)
theorem gap_same {f g h : Nat → Nat} : ∀ n, (∀ k, k < n → g k = h k) → gap f g n = gap f h n
  | 0, _ => rfl
  | n + 1, H => by rw [gap, gap, gap_same n (fun k hk => H k (by omega)), H n (by omega)]
theorem gap_upd {f g : Nat → Nat} {k v : Nat} (hv : g k < v) (hf : v ≤ f k) : ∀ n, k < n → gap f (upd g k v) n < gap f g n := by
  intro n
  induction n with
  | zero => intro h; omega
  | succ n ih =>
    intro h
    rw [gap, gap]
    by_cases e : k = n
    · subst e
      rw [upd_same, gap_same k (g := upd g k v) (h := g) (fun j hj => upd_ne _ _ (by omega))]
      omega
    · rw [upd_ne _ _ (by omega : n ≠ k)]
      have := ih (by omega)
      omega
theorem gap_le (f g : Nat → Nat) (b : Nat) : ∀ n, (∀ k, k < n → f k ≤ b) → gap f g n ≤ n * b
  | 0, _ => by simp [gap]
  | n + 1, H => by
    have := gap_le f g b n (fun k hk => H k (by omega))
    have := H n (by omega)
    rw [gap, Nat.succ_mul]
    omega
section
variable {n : Nat} {L : List (List Ar)} {S : Nat → Bool} {c : Ar → Nat} {r : Nat → Nat} {f g : Nat → Nat}
/-- nothing more to improve at k -/
def Sat (L : List (List Ar)) (S : Nat → Bool) (c : Ar → Nat) (g : Nat → Nat) (k : Nat) : Prop := S k = false → ∀ a ∈ L.getD k [], c a + g a.2.toNat ≤ g k
theorem IsVal.done (h : Ranked n L S r) (hf : IsVal n L S c f) (hg : ∀ k, k < n → g k ≤ f k) (hs : ∀ k, k < n → Sat L S c g k) : ∀ k, k < n → g k = f k := by
  have key : ∀ m k, k < n → r k < m → g k = f k := by
    intro m
    induction m with
    | zero => intro k _ h0; omega
    | succ m ih =>
      intro k hk hr
      cases hsk : S k
      · refine Nat.le_antisymm (hg k hk) ?_
        rw [(hf k hk).2 hsk]
        refine mx_le fun a ha => ?_
        obtain ⟨h1, h2⟩ := (h.down k hk hsk).2 a ha
        rw [← ih _ h1 (by omega)]
        exact hs k hk hsk a ha
      · have := hg k hk
        rw [(hf k hk).1 hsk] at this ⊢
        omega
  exact fun k hk => key n k hk (h.lt k hk)
theorem IsVal.better (hf : IsVal n L S c f) (hg : ∀ k, k < n → g k ≤ f k) {k : Nat} (hk : k < n) (hs : S k = false) {a : Ar} (ha : a ∈ L.getD k []) (ht : a.2.toNat < n) : c a + g a.2.toNat ≤ f k := by
  rw [(hf k hk).2 hs]
  have := mx_mem (c := c) (f := f) ha
  have := hg _ ht
  omega
theorem upd_le (hg : ∀ k, k < n → g k ≤ f k) {k v : Nat} (hv : v ≤ f k) : ∀ j, j < n → upd g k v j ≤ f j := fun j hj => by
  unfold upd
  split
  · rename_i e; rw [e]; exact hv
  · exact hg j hj
end
/-- the middle of a sweep: g0 at its start, b whether something has changed -/
structure Swp (n : Nat) (L : List (List Ar)) (S : Nat → Bool) (c : Ar → Nat) (f g0 : Nat → Nat) (b : Bool) (g : Nat → Nat) (k i : Nat) : Prop where
  le : ∀ j, j < n → g j ≤ f j
  no : b = false → g = g0 ∧ (∀ j, j < k → Sat L S c g j) ∧ (S k = false → ∀ a ∈ (L.getD k []).take i, c a + g a.2.toNat ≤ g k)
  yes : b = true → gap f g n < gap f g0 n
section
variable {n : Nat} {L : List (List Ar)} {S : Nat → Bool} {c : Ar → Nat} {f g0 g : Nat → Nat} {b : Bool} {k i : Nat}
theorem Swp.start (h : ∀ j, j < n → g j ≤ f j) : Swp n L S c f g false g 0 0 := ⟨h, fun _ => ⟨rfl, fun j hj => absurd hj (Nat.not_lt_zero j), fun _ a ha => by simp at ha⟩, fun h => by cases h⟩
theorem Swp.state (h : Swp n L S c f g0 b g k i) (hi : S k = true ∨ (L.getD k []).length ≤ i) : Swp n L S c f g0 b g (k + 1) 0 := by
  refine ⟨h.le, fun hb => ⟨(h.no hb).1, fun j hj => ?_, fun _ a ha => by simp at ha⟩, h.yes⟩
  rcases Nat.lt_or_ge j k with h1 | h1
  · exact (h.no hb).2.1 j h1
  · obtain rfl : j = k := by omega
    intro hs a ha
    rcases hi with hi | hi
    · rw [hs] at hi; cases hi
    · exact (h.no hb).2.2 hs a (by rw [List.take_of_length_le hi]; exact ha)
theorem Swp.keep (h : Swp n L S c f g0 b g k i) (hi : i < (L.getD k []).length) (hle : c (L.getD k [])[i] + g (L.getD k [])[i].2.toNat ≤ g k) : Swp n L S c f g0 b g k (i + 1) := by
  refine ⟨h.le, fun hb => ⟨(h.no hb).1, (h.no hb).2.1, fun hs a ha => ?_⟩, h.yes⟩
  rw [List.take_add_one, List.getElem?_eq_getElem hi, Option.toList_some] at ha
  rcases List.mem_append.1 ha with h1 | h1
  · exact (h.no hb).2.2 hs a h1
  · rw [List.mem_singleton] at h1; subst h1; exact hle
theorem Swp.up (h : Swp n L S c f g0 b g k i) (hf : IsVal n L S c f) (hk : k < n) (hs : S k = false) (hi : i < (L.getD k []).length) (ht : (L.getD k [])[i].2.toNat < n) (hlt : g k < c (L.getD k [])[i] + g (L.getD k [])[i].2.toNat) : Swp n L S c f g0 true (upd g k (c (L.getD k [])[i] + g (L.getD k [])[i].2.toNat)) k (i + 1) := by
  have hb := hf.better h.le hk hs (List.getElem_mem hi) ht
  have hd := gap_upd hlt hb n hk
  refine ⟨upd_le h.le hb, fun h => (by cases h), fun _ => Nat.lt_of_lt_of_le hd ?_⟩
  cases b
  · rw [(h.no rfl).1]; exact Nat.le_refl _
  · exact Nat.le_of_lt (h.yes rfl)
theorem Swp.fin (h : Swp n L S c f g0 b g k i) : gap f g n + (if b = true then 1 else 0) < gap f g0 n + 1 := by
  cases b
  · rw [(h.no rfl).1]; simp
  · have := h.yes rfl; simp; omega
end
/-- where every state comes to S there is an order -/
theorem conv_list {n : Nat} {G : Nat → List Nat} {S : Nat → Bool} (h : ∀ k, k < n → Att G S k) (hto : ∀ k t, t ∈ G k → t < n) : ∀ m, m ≤ n → ∃ O : List Nat, O.length = m ∧ O.Nodup ∧ (∀ k, k ∈ O → k < n) ∧ ∀ (p x : Nat), O[p]? = some x → S x = true ∨ (G x ≠ [] ∧ ∀ t, t ∈ G x → t ∈ O.take p) := by
  intro m
  induction m with
  | zero => exact fun _ => ⟨[], rfl, List.nodup_nil, fun k h => (by cases h), fun p x h => (by simp at h)⟩
  | succ m ih =>
    intro hm
    obtain ⟨O, h1, h2, h3, h4⟩ := ih (by omega)
    have hc : ∃ k, k < n ∧ k ∉ O ∧ (S k = true ∨ (G k ≠ [] ∧ ∀ t, t ∈ G k → t ∈ O)) := by
      apply Classical.byContradiction
      intro hno
      have hall : ∀ k, k < n → k ∈ O := fun k hk => h k hk (fun j => j < n → j ∈ O)
        (fun j hj hjn => Classical.byContradiction fun hm => hno ⟨j, hjn, hm, .inl hj⟩)
        (fun j hg ht hjn => Classical.byContradiction fun hm => hno ⟨j, hjn, hm, .inr ⟨hg, fun t htm => ht t htm (hto j t htm)⟩⟩) hk
      have h5 : (List.range n).length ≤ O.length := (List.nodup_range).length_le_of_subset fun x hx => hall x (List.mem_range.1 hx)
      simp at h5
      omega
    obtain ⟨k, hk, hkO, hcond⟩ := hc
    refine ⟨O ++ [k], by simp [h1], List.nodup_append.2 ⟨h2, by simp, fun a ha b hb e => by rw [List.mem_singleton] at hb; subst hb; exact hkO (e ▸ ha)⟩, fun x hx => ?_, fun p x hp => ?_⟩
    · rcases List.mem_append.1 hx with hx | hx
      · exact h3 x hx
      · rw [List.mem_singleton] at hx; subst hx; exact hk
    · rcases getElem?_snoc hp with h5 | ⟨rfl, rfl⟩
      · have hpl : p < O.length := (List.getElem?_eq_some_iff.1 h5).1
        rw [take_snoc k (Nat.le_of_lt hpl)]
        exact h4 p x h5
      · rw [take_snoc _ (Nat.le_refl _), List.take_length]
        exact hcond
theorem conv_order {n : Nat} {G : Nat → List Nat} {S : Nat → Bool} (h : ∀ k, k < n → Att G S k) (hto : ∀ k t, t ∈ G k → t < n) : ∃ O, Order n G S O := by
  obtain ⟨O, h1, h2, h3, h4⟩ := conv_list h hto n (Nat.le_refl _)
  refine ⟨O, h2, h3, h4, fun k hk => ⟨fun _ => h k hk, fun _ => Classical.byContradiction fun hm => ?_⟩⟩
  have := nodup_length_le (n := n) (O := k :: O) (List.nodup_cons.2 ⟨hm, h2⟩) (fun x hx => by rcases List.mem_cons.1 hx with rfl | hx; exact hk; exact h3 x hx)
  simp at this
  omega
end Go.Proofs.Ytbilciiffecdgaa.PlL
namespace Go.Proofs.Ytbilciiffecdgaa
theorem conv_rank {E : List Nat} {L : List (List Arc)} {S : List Bool} (h : wchk E L S = 0) : ∃ r, PlL.Ranked S.length L (isIn S) r := by
  obtain ⟨h1, h2, h3⟩ := wchk_zero h
  have ht : ∀ k t, t ∈ PlG.tg L k → t < S.length := fun k t ht => by rw [h2]; exact PlG.tg_lt h1 k t ht
  obtain ⟨O, hO⟩ := PlL.conv_order (n := S.length) h3 ht
  exact conv_ranked rfl hO h3 ht
end Go.Proofs.Ytbilciiffecdgaa
