/- A transition system that came in as an argument: what it reads as. -/
import Derived.Test.YtbilciiffecdgaaKA
import Derived.Test.YtbilciiffecdgaaC9
import Derived.Lib.SmallJoins
namespace Go.Proofs.Ytbilciiffecdgaa
open Go.ChangeShapes Go.WideShapes Go.ChangeAt Go.RowKit Go.Deep Go.Joins

section
variable {H : Type} {enc : TypeId × Value → H} {W : World} {base : Nat} {held : Bool}
theorem open_arcs {fuel : Nat} {v : Value} {x : DataW H × List MemPlace} (h : DataW.trod enc Try.prog W base (fun _ => true) held fuel 39 [v] = some x) :
    ∃ l : List Arc, ArcsAt W W.heap.size v l ∧ ∀ a ∈ l, a.1 < 4294967296 := by
  obtain ⟨A, c, zs, hcs, hm, hn, hr, hz⟩ := open_pairs_at (k0 := .u32) (k1 := .i64) Try.underlying39 Try.underlying42 (by kernel_rfl) rfl rfl (by kernel_rfl) (by kernel_rfl) Try.underlying40 Try.underlying3 h
  injection hcs with hcs _
  subst hcs
  refine ⟨zs.map fun z => (z.1.toNat, z.2), ⟨A, c, by simp, ?_⟩, ?_⟩
  · have e : (zs.map fun z => (z.1.toNat, z.2)).flatMap arcCells = zs.flatMap fun z => [Value.int .u32 z.1, Value.int .i64 z.2] := by
      clear hr hm hn h
      induction zs with
      | nil => rfl
      | cons z l ih =>
        have a1 := u32_wf (hz z (by simp)).1
        rw [List.map_cons, List.flatMap_cons, List.flatMap_cons, ih fun x hx => hz x (by simp [hx])]
        unfold arcCells
        rw [show ((z.1.toNat : Nat) : Int) = z.1 by omega]
    rw [e, List.length_map]
    exact hr
  · intro a ha
    obtain ⟨z, hz1, rfl⟩ := List.mem_map.1 ha
    have a1 := u32_wf (hz z hz1).1
    simp only
    omega

theorem open_space {r : Reach} {b0 : Nat} {v : Value} {d : DataW H} {p : List MemPlace} (hv : Value.okWide Try.prog W r b0 25 v) (h : DataW.Trod enc Try.prog W base (fun _ => true) held 25 v d p) :
    ∃ (E : List Nat) (L : List (List Arc)), SpaceAt W W.heap.size v E L ∧ WfE E ∧ WfV L := by
  obtain ⟨ve, va, y0, y1, n, rfl, rfl, rfl, h0, h1⟩ := open_agg2 Try.underlying25 (by kernel_rfl) (by kernel_rfl) hv h
  obtain ⟨Ae, ce, zs, hcs, hm, hn, hr, hz⟩ := open_ints_at (k := .u32) Try.underlying22 Try.underlying40 (by kernel_rfl) h0
  injection hcs with hcs _
  subst hcs
  obtain ⟨ns, rfl, hns⟩ := nats_of hz
  obtain ⟨Aa, na, ca, V, hca, hma, hna, hVl, hra, hx⟩ := open_list1 Try.underlying23 (by kernel_rfl) h1
  injection hca with hca _
  subst hca
  obtain ⟨L, hLl, hL⟩ := list_of (α := List Arc) (n := V.length) (p := fun i l => ∀ (hi : i < V.length), ArcsAt W W.heap.size V[i] l ∧ ∀ a ∈ l, a.1 < 4294967296) fun i hi => by
    obtain ⟨m, y, hy⟩ := hx i hi
    obtain ⟨l, hl, hw⟩ := open_arcs hy
    exact ⟨l, fun _ => ⟨hl, hw⟩⟩
  refine ⟨ns, L, ⟨_, _, rfl, ⟨Ae, ce, by simp, ?_⟩, ⟨Aa, ca, V, by rw [hLl, hVl], by rw [hLl, hVl]; exact hra, fun k l hk => ?_⟩⟩, fun k hk => hns _ (List.getElem_mem _), fun k hk j hj => ?_⟩
  · rw [List.length_map, List.map_map] at hr
    exact hr
  · obtain ⟨hk1, rfl⟩ := List.getElem?_eq_some_iff.1 hk
    have hk2 : k < V.length := by omega
    exact ⟨V[k], List.getElem?_eq_getElem hk2, (hL k hk1 hk2).1⟩
  · exact (hL k hk (by omega)).2 _ (List.getElem_mem _)
end
end Go.Proofs.Ytbilciiffecdgaa
