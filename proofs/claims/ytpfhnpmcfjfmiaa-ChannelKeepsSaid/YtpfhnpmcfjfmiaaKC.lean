/- Channels and operations that came in as arguments: what they read as. -/
import Derived.Test.YtpfhnpmcfjfmiaaKA
import Derived.Test.YtpfhnpmcfjfmiaaR5
import Derived.Lib.SmallJoins
namespace Go.Proofs.Ytpfhnpmcfjfmiaa
open Go.ChangeShapes Go.WideShapes Go.ChangeAt Go.RowKit Go.Deep Go.Joins

section
variable {H : Type} {enc : TypeId × Value → H} {W : World} {base : Nat} {held : Bool}
theorem open_item {fuel : Nat} {v : Value} {x : DataW H × List MemPlace} (h : DataW.trod enc Try.prog W base (fun _ => true) held fuel 25 [v] = some x) :
    ∃ l : List Int, IntsAt W W.heap.size v l ∧ (∀ z ∈ l, (Lit.int .i64 z).wf = true) ∧ l.length ≤ maxLen := by
  obtain ⟨A, c, zs, hcs, hm, hn, hr, hz⟩ := open_ints_at (k := .i64) Try.underlying25 Try.underlying3 (by kernel_rfl) h
  injection hcs with hcs _
  subst hcs
  exact ⟨zs, ⟨A, c, rfl, hr⟩, hz, hm⟩
theorem open_items {fuel : Nat} {v : Value} {x : DataW H × List MemPlace} (h : DataW.trod enc Try.prog W base (fun _ => true) held fuel 22 [v] = some x) :
    ∃ (A : Option Addr) (c : Nat) (Q : List (List Int)), v = .slice A Q.length c ∧ Q.length ≤ c ∧ Q.length ≤ maxLen ∧ ItemsAt W W.heap.size v Q := by
  obtain ⟨A, n, c, V, hcs, hm, hn, hVl, hr, hx⟩ := open_list1 Try.underlying22 (by kernel_rfl) h
  injection hcs with hcs _
  subst hcs
  obtain ⟨Q, hQl, hQ⟩ := list_of (α := List Int) (n := V.length) (p := fun i l => ∀ (hi : i < V.length), IntsAt W W.heap.size V[i] l) fun i hi => by
    obtain ⟨m, y, hy⟩ := hx i hi
    obtain ⟨l, hl, _⟩ := open_item hy
    exact ⟨l, fun _ => hl⟩
  obtain rfl : Q.length = n := by omega
  refine ⟨A, c, Q, rfl, hn, hm, A, c, V, rfl, hr, fun k l hk => ?_⟩
  obtain ⟨hk1, rfl⟩ := List.getElem?_eq_some_iff.1 hk
  have hk2 : k < V.length := by omega
  exact ⟨V[k], List.getElem?_eq_getElem hk2, hQ k hk1 hk2⟩
theorem open_chan {r : Reach} {b0 : Nat} {v : Value} {d : DataW H} {p : List MemPlace} (hv : Value.okWide Try.prog W r b0 24 v) (h : DataW.Trod enc Try.prog W base (fun _ => true) held 24 v d p) :
    ∃ (cap : Int) (Q : List (List Int)), ChanAt W W.heap.size v cap Q ∧ CapOk v ∧ Q.length ≤ maxLen ∧ (Lit.int .i64 cap).wf = true := by
  obtain ⟨ve, va, y0, y1, n, rfl, rfl, rfl, h0, h1⟩ := open_agg2 Try.underlying24 (by kernel_rfl) (by kernel_rfl) hv h
  obtain ⟨cap, e1, _, hw⟩ := DataW.trod_int Try.underlying3 h0
  injection e1 with e1 _
  subst e1
  obtain ⟨A, c, Q, rfl, hc, hm, hi⟩ := open_items h1
  exact ⟨cap, Q, ⟨_, rfl, hi⟩, CapOk.mk hc, hm, hw⟩
theorem open_ops {fuel : Nat} {v : Value} {x : DataW H × List MemPlace} (h : DataW.trod enc Try.prog W base (fun _ => true) held fuel 36 [v] = some x) :
    ∃ ops : List COp, OpsAt W W.heap.size v ops ∧ ops.length ≤ maxLen := by
  rcases open_slice Try.underlying36 h with ⟨hcs, _⟩ | ⟨a, len, cap, m, n, D, Pl, hcs, hb, hl, hm, hmm, _, hx⟩
  · injection hcs with hcs _
    subst hcs
    exact ⟨[], ⟨none, 0, rfl, fun h0 => absurd h0 (Nat.lt_irrefl _)⟩, Nat.zero_le _⟩
  · injection hcs with hcs _
    subst hcs
    simp only [if_true] at hmm
    subst hmm
    have hce : Try.prog.cellsOf 38 = 3 := by kernel_rfl
    obtain ⟨ops, hol, hop⟩ := list_of (α := COp) (n := len) (p := fun i o => ∃ u, W.cell? (a.add (i * 3)) = some (.int .i64 o.1) ∧ W.cell? (a.add (i * 3 + 1)) = some (.int .i64 o.2.1) ∧ W.cell? (a.add (i * 3 + 2)) = some u ∧ IntsAt W W.heap.size u o.2.2) fun i hi => by
      obtain ⟨cs', h1, h2⟩ := hx i (by omega)
      rw [hce] at h1
      obtain ⟨_, hlen, hcell⟩ := World.cells?_some h1
      obtain ⟨xs, k, hk, hxy, _, hxl, hf⟩ := DataW.trod_struct Try.underlying38 h2
      match xs, hxl, cs', hlen with
      | [y0, y1, y2], _, [v0, v1, v2], _ =>
        have g0 := hf 0 _ rfl
        have g1 := hf 1 _ rfl
        have g2 := hf 2 _ rfl
        have c1 : Try.prog.cellsOf 3 = 1 := by kernel_rfl
        have c2 : Try.prog.cellsOf 25 = 1 := by kernel_rfl
        simp [c1, c2] at g0 g1 g2
        have e0 := hcell 0 (by omega)
        have e1 := hcell 1 (by omega)
        have e2 := hcell 2 (by omega)
        rw [add_add] at e0 e1 e2
        obtain ⟨z0, q0, _, _⟩ := DataW.trod_int Try.underlying3 g0
        obtain ⟨z1, q1, _, _⟩ := DataW.trod_int Try.underlying3 g1
        injection q0 with q0 _
        injection q1 with q1 _
        subst q0 q1
        obtain ⟨l, hl', _⟩ := open_item g2
        exact ⟨(z0, z1, l), v2, by simpa using e0, by simpa using e1, by simpa using e2, hl'⟩
    subst hol
    refine ⟨ops, ⟨some a, m, rfl, fun h0 => ⟨a, rfl, ?_, fun k hk => ?_⟩⟩, by omega⟩
    · obtain ⟨u, q0, _⟩ := hop 0 h0
      have := ka_block_lt q0
      rwa [block_of_add] at this
    · obtain ⟨u, q0, q1, q2, q3⟩ := hop k hk
      rw [← add_add] at q1 q2
      exact ⟨u, q0, q1, q2, q3⟩
end
end Go.Proofs.Ytpfhnpmcfjfmiaa
