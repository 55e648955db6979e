/- Lemmas of this seat, laid together out of 2 texts: no statement of the seat is proved here. -/
import Derived.Test.YtdfklagiafmoiaaGreatDoorG02
import Derived.ProofKit
import Derived.Deep.Slices
import Derived.Deep.SlicePairs
import Derived.Test.YtdfklagiafmoiaaGreatDoorG18
import Derived.Test.YtdfklagiafmoiaaGreatDoorG32
import Derived.Lib.SmallJoins
/- Arguments opened to lists: slices of one-cell elements, of pairs of numbers, rows of such (nil let in everywhere). -/
namespace Go.Proofs.YtdfklagiafmoiaaGreatDoor
open Go.ChangeShapes Go.WideShapes Go.ChangeAt Go.RowKit Go.Deep

theorem ka_block_lt {w : World} {a : Addr} {v : Value} (h : w.cell? a = some v) : a.block < w.heap.size := by
  rcases Nat.lt_or_ge a.block w.heap.size with hl | hl
  · exact hl
  · simp [World.cell?, Array.getElem?_eq_none hl] at h

theorem list_map_of {α : Type} {V : List Value} {f : α → Value} {q : α → Prop} (h : ∀ i (hi : i < V.length), ∃ z, V[i] = f z ∧ q z) : ∃ zs : List α, V = zs.map f ∧ ∀ z ∈ zs, q z := by
  induction V with
  | nil => exact ⟨[], rfl, by simp⟩
  | cons v V ih =>
    obtain ⟨z, hz, hq⟩ := h 0 (by simp)
    obtain ⟨zs, e, hqs⟩ := ih fun i hi => h (i + 1) (by simpa using hi)
    refine ⟨z :: zs, by rw [List.map_cons, ← e]; simpa using hz, fun x hx => ?_⟩
    rcases List.mem_cons.1 hx with rfl | hx
    · exact hq
    · exact hqs x hx
theorem list_of {α : Type} {n : Nat} {p : Nat → α → Prop} (h : ∀ i, i < n → ∃ x, p i x) : ∃ l : List α, l.length = n ∧ ∀ i (hi : i < l.length), p i l[i] := by
  induction n generalizing p with
  | zero => exact ⟨[], rfl, fun i hi => absurd hi (Nat.not_lt_zero _)⟩
  | succ n ih =>
    obtain ⟨x, hx⟩ := h 0 (by omega)
    obtain ⟨l, hl, hp⟩ := ih (p := fun i => p (i + 1)) fun i hi => h (i + 1) (by omega)
    refine ⟨x :: l, by simp [hl], fun i hi => ?_⟩
    rcases i with _ | i
    · exact hx
    · exact hp i (by simpa using hi)

section
variable {H : Type} {enc : TypeId × Value → H} {P : Program} {w : World} {base : Nat} {held : Bool}
theorem open_list1 {t e : TypeId} {fuel : Nat} {cs : List Value} {x : DataW H × List MemPlace} (ht : P.underlying t = some (.slice e)) (hc : P.cellsOf e = 1)
    (h : DataW.trod enc P w base (fun _ => true) held fuel t cs = some x) :
    ∃ (A : Option Addr) (n c : Nat) (V : List Value), cs = [.slice A n c] ∧ n ≤ maxLen ∧ n ≤ c ∧ V.length = n ∧ Reads w w.heap.size 1 A n V ∧
      ∀ i (hi : i < V.length), ∃ (m : Nat) (y : DataW H × List MemPlace), DataW.trod enc P w base (fun _ => true) held m e [V[i]] = some y := by
  rcases open_slice1 ht hc h with ⟨hcs, _⟩ | ⟨a, len, cap, m, n, V, D, Pl, hcs, _, hl, hm, hmm, _, hx⟩
  · exact ⟨none, 0, 0, [], hcs, Nat.zero_le _, Nat.le_refl _, rfl, Reads.none_, fun i hi => absurd hi (Nat.not_lt_zero _)⟩
  · simp only [if_true] at hmm
    subst hmm
    refine ⟨some a, len, m, (List.range len).map V, hcs, by omega, hl, by simp, ⟨by simp, fun hn => ⟨a, rfl, ?_, fun j u hu => ?_⟩⟩, fun i hi => ?_⟩
    · have := ka_block_lt (hx 0 (by omega)).1
      rwa [block_of_add] at this
    · rw [List.getElem?_map] at hu
      have hj : j < len := by
        rcases Nat.lt_or_ge j len with h | h
        · exact h
        · rw [List.getElem?_eq_none (by simpa using h)] at hu; cases hu
      rw [List.getElem?_range hj] at hu
      simp only [Option.map_some, Option.some.injEq] at hu
      rw [← hu]
      exact (hx j (by omega)).1
    · have hi' : i < len := by simpa using hi
      refine ⟨n, (D i, Pl i), ?_⟩
      simpa using (hx i (by omega)).2

theorem open_bools_at {t e : TypeId} {fuel : Nat} {cs : List Value} {x : DataW H × List MemPlace} (ht : P.underlying t = some (.slice e)) (he : P.underlying e = some .bool) (hc : P.cellsOf e = 1)
    (h : DataW.trod enc P w base (fun _ => true) held fuel t cs = some x) :
    ∃ (A : Option Addr) (c : Nat) (zs : List Bool), cs = [.slice A zs.length c] ∧ zs.length ≤ maxLen ∧ zs.length ≤ c ∧ Reads w w.heap.size 1 A zs.length (zs.map Value.bool) := by
  obtain ⟨A, n, c, V, hcs, hn, hnc, hV, hr, hx⟩ := open_list1 ht hc h
  obtain ⟨zs, rfl, _⟩ := list_map_of (f := Value.bool) (q := fun _ => True) (V := V) fun i hi => by
    obtain ⟨m, y, hy⟩ := hx i hi
    obtain ⟨b, e1, _⟩ := DataW.trod_bool he hy
    exact ⟨b, by simpa using e1, trivial⟩
  obtain rfl : zs.length = n := by simpa using hV
  exact ⟨A, c, zs, hcs, hn, hnc, hr⟩

theorem open_ints_at {t e : TypeId} {k : IntKind} {fuel : Nat} {cs : List Value} {x : DataW H × List MemPlace} (ht : P.underlying t = some (.slice e)) (he : P.underlying e = some (.int k)) (hc : P.cellsOf e = 1)
    (h : DataW.trod enc P w base (fun _ => true) held fuel t cs = some x) :
    ∃ (A : Option Addr) (c : Nat) (zs : List Int), cs = [.slice A zs.length c] ∧ zs.length ≤ maxLen ∧ zs.length ≤ c ∧ Reads w w.heap.size 1 A zs.length (zs.map fun z : Int => Value.int k z) ∧ ∀ z ∈ zs, (Lit.int k z).wf = true := by
  obtain ⟨A, n, c, V, hcs, hn, hnc, hV, hr, hx⟩ := open_list1 ht hc h
  obtain ⟨zs, rfl, hq⟩ := list_map_of (f := fun z : Int => Value.int k z) (q := fun z => (Lit.int k z).wf = true) (V := V) fun i hi => by
    obtain ⟨m, y, hy⟩ := hx i hi
    obtain ⟨b, e1, _, hw⟩ := DataW.trod_int he hy
    exact ⟨b, by simpa using e1, hw⟩
  obtain rfl : zs.length = n := by simpa using hV
  exact ⟨A, c, zs, hcs, hn, hnc, hr, hq⟩

theorem open_pairs_at {t e : TypeId} {f0 f1 : Field} {k0 k1 : IntKind} {fuel : Nat} {cs : List Value} {x : DataW H × List MemPlace} (ht : P.underlying t = some (.slice e)) (he : P.underlying e = some (.struct #[f0, f1]))
    (ce : P.cellsOf e = 2) (o0 : f0.offset = 0) (o1 : f1.offset = 1) (c0 : P.cellsOf f0.type = 1) (c1 : P.cellsOf f1.type = 1) (u0 : P.underlying f0.type = some (.int k0)) (u1 : P.underlying f1.type = some (.int k1))
    (h : DataW.trod enc P w base (fun _ => true) held fuel t cs = some x) :
    ∃ (A : Option Addr) (c : Nat) (zs : List (Int × Int)), cs = [.slice A zs.length c] ∧ zs.length ≤ maxLen ∧ zs.length ≤ c ∧ Reads w w.heap.size 2 A zs.length (zs.flatMap fun z => [Value.int k0 z.1, Value.int k1 z.2]) ∧
      ∀ z ∈ zs, (Lit.int k0 z.1).wf = true ∧ (Lit.int k1 z.2).wf = true := by
  rcases open_slice_pairs ht he ce o0 o1 c0 c1 h with ⟨hcs, _⟩ | ⟨a, len, cap, m, n, V0, V1, D0, D1, P0, P1, hcs, _, hl, hm, hmm, _, hx⟩
  · exact ⟨none, 0, [], hcs, Nat.zero_le _, Nat.le_refl _, Reads.none_, by simp⟩
  · simp only [if_true] at hmm
    subst hmm
    obtain ⟨zs, hzl, hz⟩ := list_of (α := Int × Int) (n := len) (p := fun i z => w.cell? (a.add (i * 2)) = some (.int k0 z.1) ∧ w.cell? (a.add (i * 2 + 1)) = some (.int k1 z.2) ∧ (Lit.int k0 z.1).wf = true ∧ (Lit.int k1 z.2).wf = true) fun i hi => by
      obtain ⟨h1, h2, h3, h4⟩ := hx i (by omega)
      obtain ⟨z0, e0, _, w0⟩ := DataW.trod_int u0 h3
      obtain ⟨z1, e1, _, w1⟩ := DataW.trod_int u1 h4
      simp only [List.cons.injEq, and_true] at e0 e1
      exact ⟨(z0, z1), by rw [h1, e0], by rw [h2, e1], w0, w1⟩
    subst hzl
    have hlen : ∀ l : List (Int × Int), (l.flatMap fun z => [Value.int k0 z.1, Value.int k1 z.2]).length = l.length * 2 := fun l => by
      induction l with
      | nil => rfl
      | cons z l ih => simp only [List.flatMap_cons, List.length_append, ih, List.length_cons, List.length_nil]; omega
    have hget : ∀ (l : List (Int × Int)) (j : Nat) (u : Value), (l.flatMap fun z => [Value.int k0 z.1, Value.int k1 z.2])[j]? = some u →
        ∃ (i : Nat) (hi : i < l.length), (j = i * 2 ∧ u = .int k0 l[i].1) ∨ (j = i * 2 + 1 ∧ u = .int k1 l[i].2) := fun l => by
      induction l with
      | nil => intro j u hu; simp at hu
      | cons z l ih =>
        intro j u hu
        rcases j with _ | _ | j
        · exact ⟨0, by simp, .inl ⟨rfl, by simpa using hu.symm⟩⟩
        · exact ⟨0, by simp, .inr ⟨rfl, by simpa using hu.symm⟩⟩
        · obtain ⟨i, hi, hh⟩ := ih j u (by simpa using hu)
          refine ⟨i + 1, by simpa using hi, ?_⟩
          rcases hh with ⟨rfl, e⟩ | ⟨rfl, e⟩
          · exact .inl ⟨by omega, by simpa using e⟩
          · exact .inr ⟨by omega, by simpa using e⟩
    refine ⟨some a, m, zs, hcs, by omega, hl, ⟨hlen zs, fun hn => ⟨a, rfl, ?_, fun j u hu => ?_⟩⟩, fun z hzz => ?_⟩
    · have := ka_block_lt (hx 0 (by omega)).1
      rwa [block_of_add] at this
    · obtain ⟨i, hi, ⟨rfl, rfl⟩ | ⟨rfl, rfl⟩⟩ := hget zs j u hu
      · exact (hz i hi).1
      · exact (hz i hi).2.1
    · obtain ⟨i, hi, rfl⟩ := List.getElem_of_mem hzz
      exact (hz i hi).2.2
end

theorem u32_wf {x : Int} (h : (Lit.int .u32 x).wf = true) : 0 ≤ x ∧ x < 4294967296 := by
  simp [Lit.wf, IntKind.min, IntKind.max, IntKind.signed, IntKind.bits] at h
  exact ⟨by omega, by omega⟩
theorem i64_wf {x : Int} (h : (Lit.int .i64 x).wf = true) : -9223372036854775808 ≤ x ∧ x ≤ 9223372036854775807 := by
  simp [Lit.wf, IntKind.min, IntKind.max, IntKind.signed, IntKind.bits] at h
  exact ⟨by omega, by omega⟩
theorem nats_of {zs : List Int} (h : ∀ z ∈ zs, (Lit.int .u32 z).wf = true) : ∃ ns : List Nat, zs = ns.map (fun n : Nat => (n : Int)) ∧ ∀ n ∈ ns, n < 4294967296 := by
  refine ⟨zs.map Int.toNat, ?_, ?_⟩
  · rw [List.map_map]
    conv => lhs; rw [← List.map_id zs]
    exact List.map_congr_left fun z hz => by have := u32_wf (h z hz); simp; omega
  · intro n hn
    obtain ⟨z, hz, rfl⟩ := List.mem_map.1 hn
    have := u32_wf (h z hz)
    omega
end Go.Proofs.YtdfklagiafmoiaaGreatDoor

/- Programs, graphs, configurations and wishes that came in as arguments: what they read as. -/
namespace Go.Proofs.YtdfklagiafmoiaaGreatDoor
open Go.ChangeShapes Go.WideShapes Go.ChangeAt Go.RowKit Go.Deep Go.Joins

theorem flat_get {size : Nat} : ∀ (V : List (List Value)), (∀ x ∈ V, x.length = size) → ∀ (k j : Nat) (u : Value), j < size → (∃ hk : k < V.length, V[k][j]? = some u) → V.flatten[k * size + j]? = some u
  | [], _, k, j, u, _, ⟨hk, _⟩ => absurd hk (Nat.not_lt_zero _)
  | x :: V, h, k, j, u, hj, ⟨hk, e⟩ => by
    have hx := h x (by simp)
    rw [List.flatten_cons]
    cases k with
    | zero =>
      rw [Nat.zero_mul, Nat.zero_add, List.getElem?_append_left (by omega)]
      exact e
    | succ k =>
      rw [List.getElem?_append_right (by rw [Nat.succ_mul]; omega), show (k + 1) * size + j - x.length = k * size + j by rw [Nat.succ_mul]; omega]
      exact flat_get V (fun y hy => h y (by simp [hy])) k j u hj ⟨by simpa using hk, e⟩
theorem flat_len {size : Nat} : ∀ (V : List (List Value)), (∀ x ∈ V, x.length = size) → V.flatten.length = V.length * size
  | [], _ => by simp
  | x :: V, h => by rw [List.flatten_cons, List.length_append, flat_len V (fun y hy => h y (by simp [hy])), h x (by simp), List.length_cons, Nat.succ_mul]; omega
section
variable {H : Type} {enc : TypeId × Value → H} {P : Program} {w : World} {base : Nat} {held : Bool}
/-- a slice of elements of so many cells -/
theorem open_rows {t e : TypeId} {size fuel : Nat} {cs : List Value} {x : DataW H × List MemPlace} (ht : P.underlying t = some (.slice e)) (hc : P.cellsOf e = size) (hs : 0 < size)
    (h : DataW.trod enc P w base (fun _ => true) held fuel t cs = some x) :
    ∃ (A : Option Addr) (c : Nat) (V : List (List Value)), cs = [.slice A V.length c] ∧ V.length ≤ maxLen ∧ Reads w w.heap.size size A V.length V.flatten ∧ (∀ x ∈ V, x.length = size) ∧
      ∀ i (hi : i < V.length), ∃ (m : Nat) (y : DataW H × List MemPlace), DataW.trod enc P w base (fun _ => true) held m e V[i] = some y := by
  rcases open_slice ht h with ⟨hcs, _⟩ | ⟨a, len, cap, m, n, D, Pl, hcs, hb, hl, hm, hmm, _, hx⟩
  · exact ⟨none, 0, [], hcs, Nat.zero_le _, Reads.none_, by simp, fun i hi => absurd hi (Nat.not_lt_zero _)⟩
  · simp only [if_true] at hmm
    subst hmm
    rw [hc] at hx
    obtain ⟨V, hVl, hV⟩ := list_of (α := List Value) (n := len) (p := fun i cs' => w.cells? base (a.add (i * size)) size = some cs' ∧ DataW.trod enc P w base (fun _ => true) held n e cs' = some (D i, Pl i)) fun i hi => hx i (by omega)
    subst hVl
    have hlen : ∀ x ∈ V, x.length = size := fun x hx => by
      obtain ⟨i, hi, rfl⟩ := List.getElem_of_mem hx
      obtain ⟨_, hl, _⟩ := World.cells?_some (hV i hi).1
      exact hl
    have hcell : ∀ i (hi : i < V.length) j (hj : j < size), w.cell? (a.add (i * size + j)) = V[i][j]? := fun i hi j hj => by
      obtain ⟨_, hl, hcl⟩ := World.cells?_some (hV i hi).1
      have h3 := hcl j (by omega)
      rw [add_of_add] at h3
      exact h3
    refine ⟨some a, m, V, hcs, by omega, ⟨flat_len V hlen, fun hn => ⟨a, rfl, ?_, fun i u hu => ?_⟩⟩, hlen, fun i hi => ⟨n, _, (hV i hi).2⟩⟩
    · have h0 := hcell 0 hn 0 hs
      have h1 : 0 < V[0].length := by rw [hlen _ (List.getElem_mem hn)]; exact hs
      rw [List.getElem?_eq_getElem h1] at h0
      have := ka_block_lt h0
      rwa [block_of_add] at this
    · have hi : i < V.length * size := by
        rw [← flat_len V hlen]
        exact (List.getElem?_eq_some_iff.1 hu).1
      have hk : i / size < V.length := (Nat.div_lt_iff_lt_mul hs).2 hi
      have hj : i % size < size := Nat.mod_lt _ hs
      have e : i / size * size + i % size = i := Nat.div_add_mod' i size
      have hjl : i % size < V[i / size].length := by rw [hlen _ (List.getElem_mem hk)]; exact hj
      have h2 := flat_get V hlen (i / size) (i % size) (V[i / size][i % size]) hj ⟨hk, List.getElem?_eq_getElem hjl⟩
      rw [e, hu] at h2
      injection h2 with h2
      subst h2
      have h3 := hcell (i / size) hk (i % size) hj
      rw [e, List.getElem?_eq_getElem hjl] at h3
      exact h3
theorem open_listAt {α : Type} {R : α → List Value → Prop} {t e : TypeId} {size fuel : Nat} {v : Value} {x : DataW H × List MemPlace} (ht : P.underlying t = some (.slice e)) (hc : P.cellsOf e = size) (hs : 0 < size)
    (hR : ∀ (m : Nat) (us : List Value) (y : DataW H × List MemPlace), us.length = size → DataW.trod enc P w base (fun _ => true) held m e us = some y → ∃ z : α, R z us)
    (h : DataW.trod enc P w base (fun _ => true) held fuel t [v] = some x) : ∃ L : List α, ListAt w w.heap.size size R v L ∧ L.length ≤ maxLen := by
  obtain ⟨A, c, V, hcs, hm, hr, hlen, hx⟩ := open_rows ht hc hs h
  injection hcs with hcs _
  subst hcs
  obtain ⟨L, hLl, hL⟩ := list_of (α := α) (n := V.length) (p := fun i z => ∀ (hi : i < V.length), R z V[i]) fun i hi => by
    obtain ⟨m, y, hy⟩ := hx i hi
    obtain ⟨z, hz⟩ := hR m _ y (hlen _ (List.getElem_mem hi)) hy
    exact ⟨z, fun _ => hz⟩
  refine ⟨L, ⟨A, c, V.flatten, by rw [hLl], by rw [hLl]; exact hr, fun k z hk => ?_⟩, by omega⟩
  obtain ⟨hk1, rfl⟩ := List.getElem?_eq_some_iff.1 hk
  have hk2 : k < V.length := by omega
  refine ⟨V[k], hlen _ (List.getElem_mem hk2), hL k hk1 hk2, fun j u hj => flat_get V hlen k j u ?_ ⟨hk2, hj⟩⟩
  have := (List.getElem?_eq_some_iff.1 hj).1
  rwa [hlen _ (List.getElem_mem hk2)] at this
end
section
variable {H : Type} {enc : TypeId × Value → H} {W : World} {base : Nat} {held : Bool}
theorem open_pairL {fuel : Nat} {t e : TypeId} {v : Value} {x : DataW H × List MemPlace} {f0 f1 : Field} (ht : Tryz.prog.underlying t = some (.slice e)) (he : Tryz.prog.underlying e = some (.struct #[f0, f1])) (ce : Tryz.prog.cellsOf e = 2) (o0 : f0.offset = 0) (o1 : f1.offset = 1) (c0 : Tryz.prog.cellsOf f0.type = 1) (c1 : Tryz.prog.cellsOf f1.type = 1) (u0 : Tryz.prog.underlying f0.type = some (.int .i64)) (u1 : Tryz.prog.underlying f1.type = some (.int .i64))
    (h : DataW.trod enc Tryz.prog W base (fun _ => true) held fuel t [v] = some x) : ∃ l : List Tm, PairsAt W W.heap.size v l := by
  obtain ⟨A, c, zs, hcs, hm, hn, hr, hz⟩ := open_pairs_at ht he ce o0 o1 c0 c1 u0 u1 h
  injection hcs with hcs _
  subst hcs
  exact ⟨zs, A, c, _, rfl, hr, fun k x hx => ⟨[.int .i64 x.1, .int .i64 x.2], rfl, rfl, pc_at hx⟩⟩
theorem open_terms {fuel : Nat} {v : Value} {x : DataW H × List MemPlace} (h : DataW.trod enc Tryz.prog W base (fun _ => true) held fuel 73 [v] = some x) : ∃ l : List Tm, PairsAt W W.heap.size v l :=
  open_pairL Tryz.underlying73 Tryz.underlying186 (by kernel_rfl) rfl rfl (by kernel_rfl) (by kernel_rfl) Tryz.underlying3 Tryz.underlying3 h
theorem open_links {fuel : Nat} {v : Value} {x : DataW H × List MemPlace} (h : DataW.trod enc Tryz.prog W base (fun _ => true) held fuel 79 [v] = some x) : ∃ l : List Tm, PairsAt W W.heap.size v l :=
  open_pairL Tryz.underlying79 Tryz.underlying135 (by kernel_rfl) rfl rfl (by kernel_rfl) (by kernel_rfl) Tryz.underlying3 Tryz.underlying3 h
theorem open_intL {fuel : Nat} {v : Value} {x : DataW H × List MemPlace} (h : DataW.trod enc Tryz.prog W base (fun _ => true) held fuel 26 [v] = some x) : ∃ l : List Int, IntsAt W W.heap.size v l ∧ l.length ≤ maxLen := by
  obtain ⟨A, c, zs, hcs, hm, hn, hr, hz⟩ := open_ints_at (k := .i64) Tryz.underlying26 Tryz.underlying3 (by kernel_rfl) h
  injection hcs with hcs _
  subst hcs
  refine ⟨zs, ⟨A, c, _, rfl, hr, fun k x hx => ⟨[.int .i64 x], rfl, rfl, fun j u hj => ?_⟩⟩, hm⟩
  rcases j with _ | j
  · simp only [List.getElem?_cons_zero, Option.some.injEq] at hj
    subst hj
    rw [Nat.mul_one, Nat.add_zero, List.getElem?_map, hx]; rfl
  · simp at hj
theorem open_u32L {fuel : Nat} {v : Value} {x : DataW H × List MemPlace} (h : DataW.trod enc Tryz.prog W base (fun _ => true) held fuel 31 [v] = some x) : ∃ l : List Nat, U32At W W.heap.size v l ∧ l.length ≤ maxLen ∧ ∀ z ∈ l, z < 4294967296 := by
  obtain ⟨A, c, zs, hcs, hm, hn, hr, hz⟩ := open_ints_at (k := .u32) Tryz.underlying31 Tryz.underlying34 (by kernel_rfl) h
  injection hcs with hcs _
  subst hcs
  obtain ⟨ns, rfl, hns⟩ := nats_of hz
  rw [List.length_map] at hr hm ⊢
  refine ⟨ns, ⟨A, c, _, rfl, hr, fun k x hx => ⟨[.int .u32 (x : Int)], rfl, rfl, fun j u hj => ?_⟩⟩, hm, hns⟩
  rcases j with _ | j
  · simp only [List.getElem?_cons_zero, Option.some.injEq] at hj
    subst hj
    rw [Nat.mul_one, Nat.add_zero, List.getElem?_map, List.getElem?_map, hx]; rfl
  · simp at hj
theorem len1 {us : List Value} (h : us.length = 1) : ∃ u, us = [u] := by match us, h with | [u], _ => exact ⟨u, rfl⟩
set_option maxRecDepth 100000 in
theorem open_conf {fuel : Nat} {v : Value} {x : DataW H × List MemPlace} (h : DataW.trod enc Tryz.prog W base (fun _ => true) held fuel 30 [v] = some x) : ∃ c : Cfg, ConfAt W W.heap.size v c ∧ c.length ≤ maxLen :=
  open_listAt Tryz.underlying30 (by kernel_rfl) Nat.one_pos (fun m us y hl hy => by
    obtain ⟨u, rfl⟩ := len1 hl
    obtain ⟨l, hl, _⟩ := open_intL hy
    exact ⟨l, u, rfl, hl⟩) h
set_option maxRecDepth 100000 in
theorem open_ports {fuel : Nat} {v : Value} {x : DataW H × List MemPlace} (h : DataW.trod enc Tryz.prog W base (fun _ => true) held fuel 27 [v] = some x) : ∃ c : List (List Tm), PortsAt W W.heap.size v c ∧ c.length ≤ maxLen :=
  open_listAt Tryz.underlying27 (by kernel_rfl) Nat.one_pos (fun m us y hl hy => by
    obtain ⟨u, rfl⟩ := len1 hl
    obtain ⟨l, hl⟩ := open_links hy
    exact ⟨l, u, rfl, hl⟩) h
set_option maxRecDepth 100000 in
theorem open_sets {fuel : Nat} {v : Value} {x : DataW H × List MemPlace} (h : DataW.trod enc Tryz.prog W base (fun _ => true) held fuel 74 [v] = some x) : ∃ l : List St, SetsAt W W.heap.size v l := by
  obtain ⟨l, hl, _⟩ := open_listAt (R := rSet W W.heap.size) (size := 2) Tryz.underlying74 (by kernel_rfl) (by decide) (fun m us y hl hy => by
    match us, hl with
    | [v0, v1], _ =>
      obtain ⟨y0, y1, n, _, _, h0, h1⟩ := trod_struct2 Tryz.underlying78 hy
      have c1 : Tryz.prog.cellsOf 3 = 1 := by kernel_rfl
      have c2 : Tryz.prog.cellsOf 73 = 1 := by kernel_rfl
      simp [c1, c2] at h0 h1
      obtain ⟨z0, q0, _, _⟩ := DataW.trod_int Tryz.underlying3 h0
      injection q0 with q0 _
      subst q0
      obtain ⟨l, hl⟩ := open_terms h1
      exact ⟨(z0, l), v1, rfl, hl⟩) h
  exact ⟨l, hl⟩
set_option maxRecDepth 100000 in
theorem open_rules {fuel : Nat} {v : Value} {x : DataW H × List MemPlace} (h : DataW.trod enc Tryz.prog W base (fun _ => true) held fuel 23 [v] = some x) : ∃ l : List Rl, RulesAt W W.heap.size v l := by
  obtain ⟨l, hl, _⟩ := open_listAt (R := rRule W W.heap.size) (size := 3) Tryz.underlying23 (by kernel_rfl) (by decide) (fun m us y hl hy => by
    match us, hl with
    | [v0, v1, v2], _ =>
      obtain ⟨y0, y1, y2, n, _, _, h0, h1, h2⟩ := trod_struct3 Tryz.underlying76 hy
      have c0 : Tryz.prog.cellsOf 9 = 1 := by kernel_rfl
      have c1 : Tryz.prog.cellsOf 73 = 1 := by kernel_rfl
      have c2 : Tryz.prog.cellsOf 74 = 1 := by kernel_rfl
      simp [c0, c1, c2] at h0 h1 h2
      obtain ⟨s, q0, _, _⟩ := DataW.trod_string Tryz.underlying9 h0
      injection q0 with q0 _
      subst q0
      obtain ⟨l1, hl1⟩ := open_terms h1
      obtain ⟨l2, hl2⟩ := open_sets h2
      exact ⟨⟨s, l1, l2⟩, v1, v2, rfl, hl1, hl2⟩) h
  exact ⟨l, hl⟩
set_option maxRecDepth 100000 in
theorem open_vars {fuel : Nat} {v : Value} {x : DataW H × List MemPlace} (h : DataW.trod enc Tryz.prog W base (fun _ => true) held fuel 22 [v] = some x) : ∃ l : List Vr, VarsAt W W.heap.size v l := by
  obtain ⟨l, hl, _⟩ := open_listAt (R := rVar) (size := 6) Tryz.underlying22 (by kernel_rfl) (by decide) (fun m us y hl hy => by
    obtain ⟨xs, n, _, _, _, hxl, hf⟩ := DataW.trod_struct Tryz.underlying103 hy
    match us, hl with
    | [v0, v1, v2, v3, v4, v5], _ =>
      match xs, hxl with
      | [y0, y1, y2, y3, y4, y5], _ =>
        have c0 : Tryz.prog.cellsOf 9 = 1 := by kernel_rfl
        have c1 : Tryz.prog.cellsOf 3 = 1 := by kernel_rfl
        have g0 := hf 0 _ rfl
        have g1 := hf 1 _ rfl
        have g2 := hf 2 _ rfl
        have g3 := hf 3 _ rfl
        have g4 := hf 4 _ rfl
        have g5 := hf 5 _ rfl
        simp [c0, c1] at g0 g1 g2 g3 g4 g5
        obtain ⟨s, q0, _, _⟩ := DataW.trod_string Tryz.underlying9 g0
        obtain ⟨z1, q1, _, _⟩ := DataW.trod_int Tryz.underlying3 g1
        obtain ⟨z2, q2, _, _⟩ := DataW.trod_int Tryz.underlying3 g2
        obtain ⟨z3, q3, _, _⟩ := DataW.trod_int Tryz.underlying3 g3
        obtain ⟨z4, q4, _, _⟩ := DataW.trod_int Tryz.underlying3 g4
        obtain ⟨z5, q5, _, _⟩ := DataW.trod_int Tryz.underlying3 g5
        injection q0 with q0 _
        injection q1 with q1 _
        injection q2 with q2 _
        injection q3 with q3 _
        injection q4 with q4 _
        injection q5 with q5 _
        subst q0 q1 q2 q3 q4 q5
        exact ⟨⟨s, z1, z2, z3, z4, z5⟩, rfl⟩) h
  exact ⟨l, hl⟩
set_option maxRecDepth 100000 in
theorem open_prog {r : Reach} {b0 : Nat} {v : Value} {d : DataW H} {p : List MemPlace} (hv : Value.okWide Tryz.prog W r b0 25 v) (h : DataW.Trod enc Tryz.prog W base (fun _ => true) held 25 v d p) : ∃ pg : Pg, ProgAt W W.heap.size v pg := by
  obtain ⟨v0, v1, v2, y0, y1, y2, n, rfl, rfl, rfl, h0, h1, h2⟩ := open_agg3 Tryz.underlying25 (by kernel_rfl) (by kernel_rfl) hv h
  obtain ⟨s, q0, _, _⟩ := DataW.trod_string Tryz.underlying9 h0
  injection q0 with q0 _
  subst q0
  obtain ⟨l1, hl1⟩ := open_vars h1
  obtain ⟨l2, hl2⟩ := open_rules h2
  exact ⟨⟨s, l1, l2⟩, v1, v2, rfl, hl1, hl2⟩
set_option maxRecDepth 100000 in
theorem open_graph {r : Reach} {b0 : Nat} {v : Value} {d : DataW H} {p : List MemPlace} (hv : Value.okWide Tryz.prog W r b0 29 v) (h : DataW.Trod enc Tryz.prog W base (fun _ => true) held 29 v d p) : ∃ g : Gr, GraphAt W W.heap.size v g ∧ g.ids.length ≤ maxLen ∧ g.ports.length ≤ maxLen := by
  obtain ⟨v0, v1, y0, y1, n, rfl, rfl, rfl, h0, h1⟩ := open_agg2 Tryz.underlying29 (by kernel_rfl) (by kernel_rfl) hv h
  obtain ⟨l1, hl1, hm1⟩ := open_intL h0
  obtain ⟨l2, hl2, hm2⟩ := open_ports h1
  exact ⟨⟨l1, l2⟩, ⟨v0, v1, rfl, hl1, hl2⟩, hm1, hm2⟩
end
end Go.Proofs.YtdfklagiafmoiaaGreatDoor
