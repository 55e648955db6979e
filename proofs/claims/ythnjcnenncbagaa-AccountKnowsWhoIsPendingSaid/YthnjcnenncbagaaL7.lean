/- The laws AccountCountsRounds and AccountKnowsWhoIsPending for every list of steps. -/
import Derived.Test.YthnjcnenncbagaaL6
namespace Go.Proofs.Ythnjcnenncbagaa
open Go.RowKit

theorem stages_of {w : World} {B : Nat} {A : Option Addr} {zs : List (Int × Int)} (hr : Reads w B 2 A zs.length (zs.flatMap fun z => [Value.int .u32 z.1, Value.int .u32 z.2]))
    (hz : ∀ z ∈ zs, (Lit.int .u32 z.1).wf = true ∧ (Lit.int .u32 z.2).wf = true) :
    ∃ ns : List (Nat × Nat), Reads w B 2 A zs.length (ns.flatMap fun z => [U z.1, U z.2]) ∧ ns.length = zs.length ∧ ∀ k (h : k < ns.length), ns[k].1 < 4294967296 ∧ ns[k].2 < 4294967296 := by
  have wf : ∀ {x : Int}, (Lit.int .u32 x).wf = true → 0 ≤ x ∧ x < 4294967296 := fun h => by
    simp [Lit.wf, IntKind.min, IntKind.max, IntKind.signed, IntKind.bits] at h
    exact ⟨by omega, by omega⟩
  have e : ∀ l : List (Int × Int), (∀ z ∈ l, (Lit.int .u32 z.1).wf = true ∧ (Lit.int .u32 z.2).wf = true) →
      (l.map fun z => (z.1.toNat, z.2.toNat)).flatMap (fun z => [U z.1, U z.2]) = l.flatMap fun z => [Value.int .u32 z.1, Value.int .u32 z.2] := by
    intro l
    induction l with
    | nil => intro _; rfl
    | cons z l ih =>
      intro h
      obtain ⟨h1, h2⟩ := h z (by simp)
      have a1 := wf h1
      have a2 := wf h2
      rw [List.map_cons, List.flatMap_cons, List.flatMap_cons, ih fun x hx => h x (by simp [hx])]
      unfold U
      rw [show ((z.1.toNat : Nat) : Int) = z.1 by omega, show ((z.2.toNat : Nat) : Int) = z.2 by omega]
  refine ⟨zs.map fun z => (z.1.toNat, z.2.toNat), by rw [e zs hz]; exact hr, by simp, fun k hk => ?_⟩
  have hk' : k < zs.length := by simpa using hk
  obtain ⟨h1, h2⟩ := hz zs[k] (List.getElem_mem _)
  have a1 := wf h1
  have a2 := wf h2
  simp only [List.getElem_map]
  omega

theorem counts_law (first : Nat) (hf : first < 4294967296) (A : Option Addr) (n c : Nat) (hm : n ≤ 9223372036854775807) (zs : List (Nat × Nat)) (hz : ∀ k (h : k < zs.length), zs[k].1 < 4294967296 ∧ zs[k].2 < 4294967296) (w : World)
    (hr : Reads w w.heap.size 2 A n (zs.flatMap fun z => [U z.1, U z.2])) :
    Calls Try.prog 5 #[.int .u32 first, .slice A n c] w fun e w' => e = .returned (.bool true) ∧ Below w.heap.size w w' := by
  rcases Nat.lt_or_ge 100 n with h | h
  · exact counts_long first A n c h hm w
  · exact counts_short first hf A n c h zs hz w hr
theorem pends_law (first : Nat) (hf : first < 4294967296) (A : Option Addr) (n c : Nat) (hm : n ≤ 9223372036854775807) (zs : List (Nat × Nat)) (hz : ∀ k (h : k < zs.length), zs[k].1 < 4294967296 ∧ zs[k].2 < 4294967296) (w : World)
    (hr : Reads w w.heap.size 2 A n (zs.flatMap fun z => [U z.1, U z.2])) :
    Calls Try.prog 6 #[.int .u32 first, .slice A n c] w fun e w' => e = .returned (.bool true) ∧ Below w.heap.size w w' := by
  rcases Nat.lt_or_ge 100 n with h | h
  · exact pends_long first A n c h hm w
  · exact pends_short first hf A n c h zs hz w hr
end Go.Proofs.Ythnjcnenncbagaa
