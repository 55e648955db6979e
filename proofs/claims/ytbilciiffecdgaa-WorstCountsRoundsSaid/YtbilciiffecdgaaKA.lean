/- Arguments opened to lists: slices of one-cell elements, of pairs of numbers, rows of such (nil let in everywhere). -/
import Derived.Test.YtbilciiffecdgaaKM
import Derived.ProofKit
import Derived.Deep.Slices
import Derived.Deep.SlicePairs
namespace Go.Proofs.Ytbilciiffecdgaa
open Go.ChangeShapes Go.WideShapes Go.ChangeAt Go.RowKit Go.Deep

theorem ka_block_lt {w : World} {a : Addr} {v : Value} (h : w.cell? a = some v) : a.block < w.heap.size := by
  rcases Nat.lt_or_ge a.block w.heap.size with hl | hl
  · exact hl
  · simp [World.cell?, Array.getElem?_eq_none hl] at h

theorem list_map_of {α : Type} {V : List Value} {f : α → Value} {q : α → Prop} (h : ∀ i (hi : i < V.length), ∃ z, V[i] = f z ∧ q z) : ∃ zs : List α, V = zs.map f ∧ ∀ z ∈ zs, q z := by
  induction V with
  | nil => exact ⟨[], rfl, by simp⟩
  | cons v V ih =>
    obtain ⟨z, hz, hq⟩ := h 0 (by simp)
    obtain ⟨zs, e, hqs⟩ := ih fun i hi => h (i + 1) (by simpa using hi)
    refine ⟨z :: zs, by rw [List.map_cons, ← e]; simpa using hz, fun x hx => ?_⟩
    rcases List.mem_cons.1 hx with rfl | hx
    · exact hq
    · exact hqs x hx
theorem list_of {α : Type} {n : Nat} {p : Nat → α → Prop} (h : ∀ i, i < n → ∃ x, p i x) : ∃ l : List α, l.length = n ∧ ∀ i (hi : i < l.length), p i l[i] := by
  induction n generalizing p with
  | zero => exact ⟨[], rfl, fun i hi => absurd hi (Nat.not_lt_zero _)⟩
  | succ n ih =>
    obtain ⟨x, hx⟩ := h 0 (by omega)
    obtain ⟨l, hl, hp⟩ := ih (p := fun i => p (i + 1)) fun i hi => h (i + 1) (by omega)
    refine ⟨x :: l, by simp [hl], fun i hi => ?_⟩
    rcases i with _ | i
    · exact hx
    · exact hp i (by simpa using hi)

section
variable {H : Type} {enc : TypeId × Value → H} {P : Program} {w : World} {base : Nat} {held : Bool}
theorem open_list1 {t e : TypeId} {fuel : Nat} {cs : List Value} {x : DataW H × List MemPlace} (ht : P.underlying t = some (.slice e)) (hc : P.cellsOf e = 1)
    (h : DataW.trod enc P w base (fun _ => true) held fuel t cs = some x) :
    ∃ (A : Option Addr) (n c : Nat) (V : List Value), cs = [.slice A n c] ∧ n ≤ maxLen ∧ n ≤ c ∧ V.length = n ∧ Reads w w.heap.size 1 A n V ∧
      ∀ i (hi : i < V.length), ∃ (m : Nat) (y : DataW H × List MemPlace), DataW.trod enc P w base (fun _ => true) held m e [V[i]] = some y := by
  rcases open_slice1 ht hc h with ⟨hcs, _⟩ | ⟨a, len, cap, m, n, V, D, Pl, hcs, _, hl, hm, hmm, _, hx⟩
  · exact ⟨none, 0, 0, [], hcs, Nat.zero_le _, Nat.le_refl _, rfl, Reads.none_, fun i hi => absurd hi (Nat.not_lt_zero _)⟩
  · simp only [if_true] at hmm
    subst hmm
    refine ⟨some a, len, m, (List.range len).map V, hcs, by omega, hl, by simp, ⟨by simp, fun hn => ⟨a, rfl, ?_, fun j u hu => ?_⟩⟩, fun i hi => ?_⟩
    · have := ka_block_lt (hx 0 (by omega)).1
      rwa [block_of_add] at this
    · rw [List.getElem?_map] at hu
      have hj : j < len := by
        rcases Nat.lt_or_ge j len with h | h
        · exact h
        · rw [List.getElem?_eq_none (by simpa using h)] at hu; cases hu
      rw [List.getElem?_range hj] at hu
      simp only [Option.map_some, Option.some.injEq] at hu
      rw [← hu]
      exact (hx j (by omega)).1
    · have hi' : i < len := by simpa using hi
      refine ⟨n, (D i, Pl i), ?_⟩
      simpa using (hx i (by omega)).2

theorem open_bools_at {t e : TypeId} {fuel : Nat} {cs : List Value} {x : DataW H × List MemPlace} (ht : P.underlying t = some (.slice e)) (he : P.underlying e = some .bool) (hc : P.cellsOf e = 1)
    (h : DataW.trod enc P w base (fun _ => true) held fuel t cs = some x) :
    ∃ (A : Option Addr) (c : Nat) (zs : List Bool), cs = [.slice A zs.length c] ∧ zs.length ≤ maxLen ∧ zs.length ≤ c ∧ Reads w w.heap.size 1 A zs.length (zs.map Value.bool) := by
  obtain ⟨A, n, c, V, hcs, hn, hnc, hV, hr, hx⟩ := open_list1 ht hc h
  obtain ⟨zs, rfl, _⟩ := list_map_of (f := Value.bool) (q := fun _ => True) (V := V) fun i hi => by
    obtain ⟨m, y, hy⟩ := hx i hi
    obtain ⟨b, e1, _⟩ := DataW.trod_bool he hy
    exact ⟨b, by simpa using e1, trivial⟩
  obtain rfl : zs.length = n := by simpa using hV
  exact ⟨A, c, zs, hcs, hn, hnc, hr⟩

theorem open_ints_at {t e : TypeId} {k : IntKind} {fuel : Nat} {cs : List Value} {x : DataW H × List MemPlace} (ht : P.underlying t = some (.slice e)) (he : P.underlying e = some (.int k)) (hc : P.cellsOf e = 1)
    (h : DataW.trod enc P w base (fun _ => true) held fuel t cs = some x) :
    ∃ (A : Option Addr) (c : Nat) (zs : List Int), cs = [.slice A zs.length c] ∧ zs.length ≤ maxLen ∧ zs.length ≤ c ∧ Reads w w.heap.size 1 A zs.length (zs.map fun z : Int => Value.int k z) ∧ ∀ z ∈ zs, (Lit.int k z).wf = true := by
  obtain ⟨A, n, c, V, hcs, hn, hnc, hV, hr, hx⟩ := open_list1 ht hc h
  obtain ⟨zs, rfl, hq⟩ := list_map_of (f := fun z : Int => Value.int k z) (q := fun z => (Lit.int k z).wf = true) (V := V) fun i hi => by
    obtain ⟨m, y, hy⟩ := hx i hi
    obtain ⟨b, e1, _, hw⟩ := DataW.trod_int he hy
    exact ⟨b, by simpa using e1, hw⟩
  obtain rfl : zs.length = n := by simpa using hV
  exact ⟨A, c, zs, hcs, hn, hnc, hr, hq⟩

theorem open_pairs_at {t e : TypeId} {f0 f1 : Field} {k0 k1 : IntKind} {fuel : Nat} {cs : List Value} {x : DataW H × List MemPlace} (ht : P.underlying t = some (.slice e)) (he : P.underlying e = some (.struct #[f0, f1]))
    (ce : P.cellsOf e = 2) (o0 : f0.offset = 0) (o1 : f1.offset = 1) (c0 : P.cellsOf f0.type = 1) (c1 : P.cellsOf f1.type = 1) (u0 : P.underlying f0.type = some (.int k0)) (u1 : P.underlying f1.type = some (.int k1))
    (h : DataW.trod enc P w base (fun _ => true) held fuel t cs = some x) :
    ∃ (A : Option Addr) (c : Nat) (zs : List (Int × Int)), cs = [.slice A zs.length c] ∧ zs.length ≤ maxLen ∧ zs.length ≤ c ∧ Reads w w.heap.size 2 A zs.length (zs.flatMap fun z => [Value.int k0 z.1, Value.int k1 z.2]) ∧
      ∀ z ∈ zs, (Lit.int k0 z.1).wf = true ∧ (Lit.int k1 z.2).wf = true := by
  rcases open_slice_pairs ht he ce o0 o1 c0 c1 h with ⟨hcs, _⟩ | ⟨a, len, cap, m, n, V0, V1, D0, D1, P0, P1, hcs, _, hl, hm, hmm, _, hx⟩
  · exact ⟨none, 0, [], hcs, Nat.zero_le _, Nat.le_refl _, Reads.none_, by simp⟩
  · simp only [if_true] at hmm
    subst hmm
    obtain ⟨zs, hzl, hz⟩ := list_of (α := Int × Int) (n := len) (p := fun i z => w.cell? (a.add (i * 2)) = some (.int k0 z.1) ∧ w.cell? (a.add (i * 2 + 1)) = some (.int k1 z.2) ∧ (Lit.int k0 z.1).wf = true ∧ (Lit.int k1 z.2).wf = true) fun i hi => by
      obtain ⟨h1, h2, h3, h4⟩ := hx i (by omega)
      obtain ⟨z0, e0, _, w0⟩ := DataW.trod_int u0 h3
      obtain ⟨z1, e1, _, w1⟩ := DataW.trod_int u1 h4
      simp only [List.cons.injEq, and_true] at e0 e1
      exact ⟨(z0, z1), by rw [h1, e0], by rw [h2, e1], w0, w1⟩
    subst hzl
    have hlen : ∀ l : List (Int × Int), (l.flatMap fun z => [Value.int k0 z.1, Value.int k1 z.2]).length = l.length * 2 := fun l => by
      induction l with
      | nil => rfl
      | cons z l ih => simp only [List.flatMap_cons, List.length_append, ih, List.length_cons, List.length_nil]; omega
    have hget : ∀ (l : List (Int × Int)) (j : Nat) (u : Value), (l.flatMap fun z => [Value.int k0 z.1, Value.int k1 z.2])[j]? = some u →
        ∃ (i : Nat) (hi : i < l.length), (j = i * 2 ∧ u = .int k0 l[i].1) ∨ (j = i * 2 + 1 ∧ u = .int k1 l[i].2) := fun l => by
      induction l with
      | nil => intro j u hu; simp at hu
      | cons z l ih =>
        intro j u hu
        rcases j with _ | _ | j
        · exact ⟨0, by simp, .inl ⟨rfl, by simpa using hu.symm⟩⟩
        · exact ⟨0, by simp, .inr ⟨rfl, by simpa using hu.symm⟩⟩
        · obtain ⟨i, hi, hh⟩ := ih j u (by simpa using hu)
          refine ⟨i + 1, by simpa using hi, ?_⟩
          rcases hh with ⟨rfl, e⟩ | ⟨rfl, e⟩
          · exact .inl ⟨by omega, by simpa using e⟩
          · exact .inr ⟨by omega, by simpa using e⟩
    refine ⟨some a, m, zs, hcs, by omega, hl, ⟨hlen zs, fun hn => ⟨a, rfl, ?_, fun j u hu => ?_⟩⟩, fun z hzz => ?_⟩
    · have := ka_block_lt (hx 0 (by omega)).1
      rwa [block_of_add] at this
    · obtain ⟨i, hi, ⟨rfl, rfl⟩ | ⟨rfl, rfl⟩⟩ := hget zs j u hu
      · exact (hz i hi).1
      · exact (hz i hi).2.1
    · obtain ⟨i, hi, rfl⟩ := List.getElem_of_mem hzz
      exact (hz i hi).2.2
end

theorem u32_wf {x : Int} (h : (Lit.int .u32 x).wf = true) : 0 ≤ x ∧ x < 4294967296 := by
  simp [Lit.wf, IntKind.min, IntKind.max, IntKind.signed, IntKind.bits] at h
  exact ⟨by omega, by omega⟩
theorem i64_wf {x : Int} (h : (Lit.int .i64 x).wf = true) : -9223372036854775808 ≤ x ∧ x ≤ 9223372036854775807 := by
  simp [Lit.wf, IntKind.min, IntKind.max, IntKind.signed, IntKind.bits] at h
  exact ⟨by omega, by omega⟩
theorem nats_of {zs : List Int} (h : ∀ z ∈ zs, (Lit.int .u32 z).wf = true) : ∃ ns : List Nat, zs = ns.map (fun n : Nat => (n : Int)) ∧ ∀ n ∈ ns, n < 4294967296 := by
  refine ⟨zs.map Int.toNat, ?_, ?_⟩
  · rw [List.map_map]
    conv => lhs; rw [← List.map_id zs]
    exact List.map_congr_left fun z hz => by have := u32_wf (h z hz); simp; omega
  · intro n hn
    obtain ⟨z, hz, rfl⟩ := List.mem_map.1 hn
    have := u32_wf (h z hz)
    omega
end Go.Proofs.Ytbilciiffecdgaa
