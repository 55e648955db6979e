/- Arguments opened to what they read as: slices of integers as lists (nil let in). -/
import Derived.Test.YthnjcnenncbagaaKM
import Derived.ProofKit
namespace Go.Proofs.Ythnjcnenncbagaa
open Go.ChangeShapes Go.WideShapes Go.ChangeAt Go.RowKit

theorem block_lt {w : World} {a : Addr} {v : Value} (h : w.cell? a = some v) : a.block < w.heap.size := by
  rcases Nat.lt_or_ge a.block w.heap.size with hl | hl
  · exact hl
  · simp [World.cell?, Array.getElem?_eq_none hl] at h

section
variable {H : Type} {enc : TypeId × Value → H} {P : Program} {W : World} {base : Nat} {held : Bool}
theorem open_ints_list {t e : TypeId} {k : IntKind} {r : Reach} {b0 : Nat} {v : Value} {d : DataW H} {p : List MemPlace} (ht : P.underlying t = some (.slice e)) (he : P.underlying e = some (.int k)) (hc : P.cellsOf e = 1)
    (hv : Value.okWide P W r b0 t v) (h : DataW.Trod enc P W base (fun _ => true) held t v d p) :
    ∃ (A : Option Addr) (n c : Nat) (zs : List Int), v = .slice A n c ∧ n ≤ maxLen ∧ n ≤ c ∧ zs.length = n ∧ (∀ z ∈ zs, (Lit.int k z).wf = true) ∧ Reads W W.heap.size 1 A n (zs.map fun z : Int => Value.int k z) := by
  obtain ⟨a0, len, cap, rfl⟩ := okWide_slice ht hv
  obtain ⟨fuel, hf⟩ := h
  rcases open_ints ht he hc hf with ⟨hcs, _⟩ | ⟨a, len', cap', zs, hcs, _, hl, hm, hz, _, hcell, hwz⟩
  · simp only [Value.cells] at hcs
    injection hcs with hcs _
    injection hcs with e1 e2 e3
    subst e1 e2 e3
    exact ⟨none, 0, 0, [], rfl, by unfold maxLen; omega, Nat.le_refl _, rfl, by simp, Reads.none_⟩
  · simp only [Value.cells] at hcs
    injection hcs with hcs _
    injection hcs with e1 e2 e3
    subst e1 e2 e3
    simp only [if_true] at hz
    refine ⟨some a, len, cap, zs.take len, rfl, by omega, hl, by simp; omega, fun z hzz => hwz z (List.mem_of_mem_take hzz), ?_⟩
    refine ⟨by simp; omega, fun hn => ⟨a, rfl, ?_, fun j u hu => ?_⟩⟩
    · have := block_lt (hcell 0 (by omega))
      rwa [block_of_add] at this
    · rw [List.getElem?_map] at hu
      have hj : j < len := by
        rcases Nat.lt_or_ge j len with h | h
        · exact h
        · rw [List.getElem?_eq_none (by simp; omega)] at hu; cases hu
      rw [List.getElem?_take_of_lt hj, List.getElem?_eq_getElem (by omega)] at hu
      simp only [Option.map_some, Option.some.injEq] at hu
      rw [hcell j (by omega), ← hu]; simp [List.getD_eq_getElem?_getD, List.getElem?_eq_getElem (show j < zs.length by omega)]
end
theorem nats_of_u32 : ∀ (zs : List Int), (∀ z ∈ zs, (Lit.int .u32 z).wf = true) → ∃ ns : List Nat, zs = ns.map (fun n : Nat => (n : Int)) ∧ ∀ k (h : k < ns.length), ns[k] < 4294967296 := by
  intro zs
  induction zs with
  | nil => intro _; exact ⟨[], rfl, by simp⟩
  | cons z zs ih =>
    intro h
    obtain ⟨ns, rfl, hn⟩ := ih fun x hx => h x (by simp [hx])
    have hz := h z (by simp)
    simp [Lit.wf, IntKind.min, IntKind.max, IntKind.signed, IntKind.bits] at hz
    refine ⟨z.toNat :: ns, by simp; omega, fun k hk => ?_⟩
    rcases k with _ | k
    · simp; omega
    · simpa using hn k (by simpa using hk)
end Go.Proofs.Ythnjcnenncbagaa
