/- Plain: the map of rounds, as it is filled in the order of the states. -/
import Derived.Test.YtbilciiffecdgaaPlI
import Derived.Test.YtbilciiffecdgaaE4
namespace Go.Proofs.Ytbilciiffecdgaa
open PlL
/-- entries of the map of rounds -/
def kvR (R : Pr → Nat) (D : List Pr) : List (Pr × Value) := D.map fun x => (x, .int .i64 (R x : Int))
theorem kvR_get {R : Pr → Nat} {D : List Pr} {x : Pr} (h : x ∈ D) : mGet (kvR R D) x = some (.int .i64 (R x : Int)) := by
  unfold mGet kvR
  induction D with
  | nil => cases h
  | cons a D ih =>
    rw [List.map_cons, List.find?_cons]
    by_cases e : a = x
    · subst e; simp
    · have : (a == x) = false := beq_eq_false_iff_ne.2 e
      dsimp only
      rw [this]
      exact ih (by rcases List.mem_cons.1 h with h | h; exact absurd h.symm e; exact h)
theorem kvR_none {R : Pr → Nat} {D : List Pr} {x : Pr} (h : x ∉ D) : mGet (kvR R D) x = none := by
  unfold mGet kvR
  rw [List.find?_eq_none.2]
  · rfl
  · intro y hy
    obtain ⟨z, hz, rfl⟩ := List.mem_map.1 hy
    simp only [beq_iff_eq]
    exact fun e => h (e ▸ hz)
theorem kvR_snoc (R : Pr → Nat) (D : List Pr) (x : Pr) : kvR R D ++ [(x, .int .i64 (R x : Int))] = kvR R (D ++ [x]) := by unfold kvR; simp
/-- the pairs of a state -/
def prs (k : Nat) (l : List Nat) : List Pr := l.map fun P => (k, P)
def dn (O : List Nat) (Q : List Pr) (p : Nat) : List Pr := (O.take p).flatMap fun k => prs k (rowOf Q k)
theorem prs_mem {k : Nat} {l : List Nat} {x : Pr} : x ∈ prs k l ↔ x.1 = k ∧ x.2 ∈ l := by
  unfold prs
  rw [List.mem_map]
  constructor
  · rintro ⟨P, h, rfl⟩; exact ⟨rfl, h⟩
  · rintro ⟨h1, h2⟩; exact ⟨x.2, h2, by rw [← h1]⟩
theorem dn_mem {O : List Nat} {Q : List Pr} {p : Nat} {x : Pr} : x ∈ dn O Q p ↔ x.1 ∈ O.take p ∧ x ∈ Q := by
  unfold dn
  rw [List.mem_flatMap]
  constructor
  · rintro ⟨k, hk, h⟩
    obtain ⟨h1, h2⟩ := prs_mem.1 h
    subst h1
    exact ⟨hk, rowOf_mem.1 h2⟩
  · rintro ⟨h1, h2⟩
    exact ⟨x.1, h1, prs_mem.2 ⟨rfl, rowOf_mem.2 h2⟩⟩
theorem dn_next {O : List Nat} {Q : List Pr} {p x : Nat} (h : O[p]? = some x) : dn O Q (p + 1) = dn O Q p ++ prs x (rowOf Q x) := by
  unfold dn
  rw [List.take_add_one, h, Option.toList_some, List.flatMap_append, List.flatMap_cons, List.flatMap_nil, List.append_nil]
theorem prs_take {k : Nat} {l : List Nat} {j : Nat} (h : j < l.length) : prs k (l.take (j + 1)) = prs k (l.take j) ++ [(k, l[j])] := by
  unfold prs
  rw [List.take_add_one, List.getElem?_eq_getElem h, Option.toList_some, List.map_append]
  rfl
theorem dn_new {O : List Nat} {Q : List Pr} {p x j : Nat} (hO : x ∉ O.take p) {l : List Nat} (hl : l.Nodup) (hj : j < l.length) : (x, l[j]) ∉ dn O Q p ++ prs x (l.take j) := by
  intro h
  rcases List.mem_append.1 h with h | h
  · exact hO (dn_mem.1 h).1
  · obtain ⟨_, h2⟩ := prs_mem.1 h
    exact take_not hl hj h2
/-- the greatest numbers of rounds, one for each state -/
def rnd (E : List Nat) (S : Nat → Bool) (R : Pr → Nat) (k : Nat) : Nat := if S k = true then 0 else R (k, E.getD k 0)
/-- the states in order, all of them -/
theorem dn_all {n : Nat} {O : List Nat} {Q : List Pr} {m : Nat} (hm : O.length ≤ m) (hall : ∀ k, k < n → k ∈ O) {x : Pr} (hx : x ∈ Q) (hn : x.1 < n) : x ∈ dn O Q m :=
  dn_mem.2 ⟨by rw [List.take_of_length_le hm]; exact hall _ hn, hx⟩
end Go.Proofs.Ytbilciiffecdgaa
