/- Plain: small facts for the walk of Order. -/
import Derived.Test.YtbilciiffecdgaaPlG
namespace Go.Proofs.Ytbilciiffecdgaa.PlH
open PlC PlG

theorem take_snoc1 {r : List Nat} {j k : Nat} (h : r[j]? = some k) : r.take (j + 1) = r.take j ++ [k] := by rw [List.take_add_one, h]; rfl
theorem count_lt {r : List Nat} {j k : Nat} (h : r[j]? = some k) : (r.take j).count k < r.count k := by
  have h1 : (r.take (j + 1)).count k ≤ r.count k := List.Sublist.count_le k (List.take_sublist _ _)
  rw [take_snoc1 h, List.count_append] at h1
  simp at h1
  omega
theorem ent_set (D : List Nat) (k y : Nat) (hk : k < D.length) : (fun j => (D.set k y).getD j 0) = fun j => if j = k then y else D.getD j 0 := by
  funext j
  rw [List.getD_eq_getElem?_getD, List.getD_eq_getElem?_getD, List.getElem?_set]
  by_cases h : k = j
  · subst h; simp [hk]
  · rw [if_neg h, if_neg (Ne.symm h)]
theorem ent_le {n : Nat} {G : Nat → List Nat} {S : Nat → Bool} {O : List Nat} {i x : Nat} {pre : List Nat} {ent : Nat → Nat} (h : Mid n G S O i x pre ent) {k : Nat} (hk : k < n) (hc : pre.count k < (G k).count x) : ent k + 1 ≤ (G k).length := by
  have h1 := h.ent_ k hk
  have h2 : (G k).countP (fun t => decide (t ∈ O.take i)) + (G k).count x ≤ (G k).length := by
    rw [← countP_succ h.nodup h.at_]; exact List.countP_le_length
  omega
/-- one more state with an arc to x, as the code counts -/
theorem mid_next {n : Nat} {G : Nat → List Nat} {S : Nat → Bool} {O : List Nat} {i x : Nat} {r : List Nat} {j k : Nat} {D : List Nat} (h : Mid n G S O i x (r.take j) (fun k => D.getD k 0)) (hD : D.length = n)
    (hj : r[j]? = some k) (hk : k < n) (hr : r.count k = (G k).count x) (O' : List Nat) (hO : O' = if S k = false ∧ D.getD k 0 + 1 = (G k).length then O ++ [k] else O) :
    Mid n G S O' i x (r.take (j + 1)) (fun j => (D.set k (D.getD k 0 + 1)).getD j 0) := by
  have hc := count_lt hj
  rw [hr] at hc
  have := h.next hk hc
  rw [take_snoc1 hj, ent_set D k _ (by omega), hO]
  exact this
/-- the states of the set, in ascending order -/
theorem filter_range {S : Nat → Bool} (k : Nat) : (List.range (k + 1)).filter S = (List.range k).filter S ++ (if S k = true then [k] else []) := by
  rw [List.range_succ, List.filter_append]
  congr 1
  by_cases h : S k = true <;> simp [h]
theorem start_inv {n : Nat} {G : Nat → List Nat} {S : Nat → Bool} : Inv n G S ((List.range n).filter S) 0 (fun j => (List.replicate n 0).getD j 0) := by
  have e : (fun j => (List.replicate n 0).getD j 0) = fun _ => 0 := by
    funext j
    rw [List.getD_eq_getElem?_getD, List.getElem?_replicate]
    split <;> rfl
  rw [e]
  refine Inv.start (List.Nodup.sublist List.filter_sublist List.nodup_range) (fun k hk => ?_) (fun k hk => ?_)
  · exact List.mem_range.1 (List.mem_filter.1 hk).1
  · rw [List.mem_filter, List.mem_range]; exact ⟨fun h => h.2, fun h => ⟨hk, h⟩⟩
end Go.Proofs.Ytbilciiffecdgaa.PlH
