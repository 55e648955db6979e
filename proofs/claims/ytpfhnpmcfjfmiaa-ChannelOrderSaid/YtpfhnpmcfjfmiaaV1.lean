/- Operations that a law makes, and lists of items of two kinds. -/
import Derived.Test.YtpfhnpmcfjfmiaaT2
namespace Go.Proofs.Ytpfhnpmcfjfmiaa
open Go.RowKit

theorem Try.infoOp : (Try.prog.info? 38).map (fun i => (i.zero, i.size, i.bytes)) = some (some (.agg #[.int .i64 0, .int .i64 0, .slice none 0 0]), 3, 40) := by kernel_rfl
/-- an item in a block of its own, or none -/
def ItB (w : World) (u : Value) (q : List Int) : Prop := (u = .slice none 0 0 ∧ q = []) ∨ ∃ g, u = .slice (some ⟨g, 0, none⟩) q.length q.length ∧ Blk w g 3 (q.map Iz).toArray
section
variable {w W : World} {u : Value} {q : List Int}
theorem ItB.keep (h : ItB w u q) (hk : ∀ g cs, Blk w g 3 cs → Blk W g 3 cs) : ItB W u q := by
  rcases h with h | ⟨g, e, hb⟩
  · exact .inl h
  · exact .inr ⟨g, e, hk _ _ hb⟩
theorem ItB.alloc (h : ItB w u q) (o : Obj) : ItB (w.alloc o) u q := h.keep fun _ _ hb => hb.alloc o
theorem ItB.below (h : ItB w u q) (hb : Below w.heap.size w W) : ItB W u q := h.keep fun _ _ h => h.below hb h.lt
theorem ItB.own {base e size n : Nat} {v : Value} {xs : List Value} (h : ItB w u q) (ho : w.ownsRow base e size v n xs) (he : e ≠ 3) (hg : w.grownBy W v.ownBlock) : ItB W u q :=
  h.keep fun _ _ hb => hb.grown hg (Ne.symm (own_blk_ne ho hb he))
theorem ItB.set (h : ItB w u q) {g t : Nat} {cs : Array Value} (hb : Blk w g t cs) (ht : 3 ≠ t) (i : Nat) (x : Value) : ItB (w.setCell ⟨g, i, none⟩ x) u q :=
  h.keep fun _ _ h => h.far (h.ne_ hb ht) _
theorem ItB.ints (h : ItB w u q) : IntsAt w w.heap.size u q := by
  rcases h with ⟨rfl, rfl⟩ | ⟨g, rfl, hb⟩
  · exact ⟨none, 0, rfl, Reads.none_⟩
  · exact ⟨_, _, rfl, reads_blk hb hb.lt (by simp)⟩
theorem ItB.one (w : World) (z : Int) : ItB (w.alloc (.cells #[.int .i64 z] 3)) (.slice (some ⟨w.heap.size, 0, none⟩) 1 1) [z] := .inr ⟨_, rfl, Blk.new _ _ _⟩
end
abbrev OpV := COp × Value
def opc (z : OpV) : List Value := [.int .i64 z.1.1, .int .i64 z.1.2.1, z.2]
structure OpsOwn (base : Nat) (w : World) (vo : Value) (zs : List OpV) : Prop where
  own : w.ownsRow base 38 3 vo zs.length (zs.flatMap opc)
  it : ∀ z ∈ zs, ItB w z.2 z.1.2.2
section
variable {base : Nat} {w W : World} {vo : Value} {zs : List OpV}
theorem OpsOwn.alloc (h : OpsOwn base w vo zs) (o : Obj) : OpsOwn base (w.alloc o) vo zs := ⟨h.own.alloc o, fun z hz => (h.it z hz).alloc o⟩
theorem OpsOwn.below (h : OpsOwn base w vo zs) (hb : Below w.heap.size w W) : OpsOwn base W vo zs := ⟨own_below' h.own hb, fun z hz => (h.it z hz).below hb⟩
theorem opc_get : ∀ (zs : List OpV) (k : Nat) (h : k < zs.length), (zs.flatMap opc)[k * 3]? = some (.int .i64 zs[k].1.1) ∧ (zs.flatMap opc)[k * 3 + 1]? = some (.int .i64 zs[k].1.2.1) ∧ (zs.flatMap opc)[k * 3 + 2]? = some zs[k].2
  | [], k, h => by simp at h
  | z :: zs, 0, h => ⟨rfl, rfl, rfl⟩
  | z :: zs, k + 1, h => by
    have := opc_get zs k (by simpa using h)
    rw [List.flatMap_cons]
    have e : ∀ j, (opc z ++ zs.flatMap opc)[(k + 1) * 3 + j]? = (zs.flatMap opc)[k * 3 + j]? := fun j => by
      rw [List.getElem?_append_right (by show 3 ≤ _; omega)]
      congr 1
      show (k + 1) * 3 + j - 3 = _
      omega
    have e0 := e 0
    simp only [Nat.add_zero] at e0
    rw [e0, e 1, e 2]
    simpa using this
theorem own_form3 {e n size : Nat} {v : Value} {xs : List Value} (ho : w.ownsRow base e size v n xs) : ∃ (A : Option Addr) (c : Nat), v = .slice A n c := by
  rcases ho.2 with ⟨rfl, e0⟩ | ⟨g', cap, cur, rfl, _⟩
  · rw [e0]; exact ⟨_, _, rfl⟩
  · exact ⟨_, _, rfl⟩
theorem OpsOwn.at (h : OpsOwn base w vo zs) : OpsAt w w.heap.size vo (zs.map (·.1)) := by
  obtain ⟨A, c, rfl⟩ := own_form3 h.own
  have hr := Reads.of_own h.own
  refine ⟨A, c, by simp, fun h0 => ?_⟩
  obtain ⟨ad, hA, hb, hc⟩ := hr.2 (by simpa using h0)
  refine ⟨ad, hA, hb, fun k hk => ?_⟩
  have hk' : k < zs.length := by simpa using hk
  obtain ⟨g0, g1, g2⟩ := opc_get zs k hk'
  have c1 := hc _ _ g1
  have c2 := hc _ _ g2
  rw [← add_add'] at c1 c2
  rw [List.getElem_map]
  exact ⟨zs[k].2, hc _ _ g0, c1, c2, (h.it _ (List.getElem_mem _)).ints⟩
theorem OpsOwn.other {e size n : Nat} {v : Value} {xs : List Value} (h : OpsOwn base w vo zs) (ho : w.ownsRow base e size v n xs) (he : e ≠ 3) (he' : e ≠ 38) (hg : w.grownBy W v.ownBlock) : OpsOwn base W vo zs := by
  refine ⟨h.own.kept hg ?_, fun z hz => (h.it z hz).own ho he hg⟩
  cases hv : vo.ownBlock with
  | none => exact .inl rfl
  | some b =>
    right
    rcases h.own.2 with ⟨rfl, _⟩ | ⟨g, c, cur, rfl, _, hh, _⟩
    · cases hv
    · have hb : g = b := by simpa [Value.ownBlock] using hv
      subst hb
      exact Ne.symm (own_blk_ne ho (show Blk w g 38 cur from hh) he')
theorem OpsOwn.nil (base : Nat) (w : World) : OpsOwn base w (.slice none 0 0) [] := ⟨World.ownsRow_nil _ _ _ _, by simp⟩
/-- more operations, out of a block -/
theorem OpsOwn.app (h : OpsOwn base w vo zs) {W x : World} {ys : List OpV} {v' : Value} (hW : Below w.heap.size w W) (ho : x.ownsRow base 38 3 v' (zs.length + ys.length) (zs.flatMap opc ++ ys.flatMap opc)) (hg : W.grownBy x vo.ownBlock)
    (hy : ∀ z ∈ ys, ItB W z.2 z.1.2.2) : OpsOwn base x v' (zs ++ ys) := by
  have hw := h.below hW
  refine ⟨by rw [List.length_append, List.flatMap_append]; exact ho, fun z hz => ?_⟩
  rcases List.mem_append.1 hz with hz | hz
  · exact (hw.it z hz).own hw.own (by decide) hg
  · exact (hy z hz).own hw.own (by decide) hg
end

/-- items of which some lie in old memory -/
def AllOwn (w0 : World) (base : Nat) (w : World) (va : Value) (Q : List (List Int)) : Prop :=
  ∃ rs, w.ownsRow base 25 1 va Q.length rs ∧ ∀ (k : Nat) q, Q[k]? = some q → ∃ u, rs[k]? = some u ∧ (IntsAt w0 w0.heap.size u q ∨ ItB w u q)
section
variable {w0 w W : World} {base : Nat} {va : Value} {Q : List (List Int)}
theorem AllOwn.below (h : AllOwn w0 base w va Q) (hb : Below w.heap.size w W) : AllOwn w0 base W va Q :=
  let ⟨rs, ho, hk⟩ := h
  ⟨rs, own_below' ho hb, fun k q hq => let ⟨u, h1, h2⟩ := hk k q hq; ⟨u, h1, h2.imp id fun h => h.below hb⟩⟩
theorem AllOwn.grown {e size n : Nat} {v : Value} {xs : List Value} (h : AllOwn w0 base w va Q) (ho : w.ownsRow base e size v n xs) (he : e ≠ 3) (he' : e ≠ 25) (hg : w.grownBy W v.ownBlock) : AllOwn w0 base W va Q := by
  obtain ⟨rs, h1, hk⟩ := h
  refine ⟨rs, h1.kept hg ?_, fun k q hq => let ⟨u, h1, h2⟩ := hk k q hq; ⟨u, h1, h2.imp id fun h => h.own ho he hg⟩⟩
  cases hv : va.ownBlock with
  | none => exact .inl rfl
  | some b =>
    right
    rcases h1.2 with ⟨rfl, _⟩ | ⟨g, c, cur, rfl, _, hh, _⟩
    · cases hv
    · have hb : g = b := by simpa [Value.ownBlock] using hv
      subst hb
      exact Ne.symm (own_blk_ne ho (show Blk w g 25 cur from hh) he')
theorem AllOwn.items (h : AllOwn w0 base w va Q) (hb : Below w0.heap.size w0 w) : ItemsAt w w.heap.size va Q := by
  obtain ⟨rs, ho, hk⟩ := h
  obtain ⟨A, c, rfl⟩ := own_form ho
  exact ⟨A, c, rs, rfl, Reads.of_own ho, fun k q hq => let ⟨u, h1, h2⟩ := hk k q hq; ⟨u, h1, h2.elim (fun h => h.go hb) fun h => h.ints⟩⟩
theorem AllOwn.app (h : AllOwn w0 base w va Q) {x : World} {u : Value} {q : List Int} {rs : List Value} {v' : Value} (hrs : w.ownsRow base 25 1 va Q.length rs ∧ ∀ (k : Nat) q, Q[k]? = some q → ∃ u, rs[k]? = some u ∧ (IntsAt w0 w0.heap.size u q ∨ ItB w u q)) (hW : Below w.heap.size w W)
    (ho : x.ownsRow base 25 1 v' (Q.length + 1) (rs ++ [u])) (hg : W.grownBy x va.ownBlock) (hu : ItB W u q) : AllOwn w0 base x v' (Q ++ [q]) := by
  have _ := h
  obtain ⟨h1, hk⟩ := hrs
  have h1W := own_below' h1 hW
  have hl : rs.length = Q.length := by have := h1.1; omega
  refine ⟨rs ++ [u], by rw [List.length_append]; exact ho, fun k q' hq => ?_⟩
  by_cases hlt : k < Q.length
  · rw [List.getElem?_append_left hlt] at hq
    obtain ⟨u', e1, e2⟩ := hk k q' hq
    exact ⟨u', by rw [List.getElem?_append_left (by omega)]; exact e1, e2.imp id fun h => (h.below hW).own h1W (by decide) hg⟩
  · rw [List.getElem?_append_right (by omega)] at hq
    have hk0 : k - Q.length = 0 := by
      have := (List.getElem?_eq_some_iff.1 hq).1
      simp at this
      omega
    rw [hk0] at hq
    injection hq with hq
    subst hq
    exact ⟨u, by rw [List.getElem?_append_right (by omega), show k - rs.length = 0 by omega]; rfl, .inr (hu.own h1W (by decide) hg)⟩
end
theorem alloc2_below (w : World) (o o' : Obj) : Below w.heap.size w ((w.alloc o).alloc o') := balloc (balloc (Below.refl _ _) _) _
theorem reads_new2 (w : World) (o : Obj) (t size n : Nat) (l : List Value) (hl : l.length = n * size) : Reads ((w.alloc o).alloc (.cells l.toArray t)) (w.heap.size + 1 + 1) size (some ⟨w.heap.size + 1, 0, none⟩) n l := by
  have h0 := Blk.new (w.alloc o) t l.toArray
  rw [World.size_alloc] at h0
  exact reads_blk h0 (Nat.lt_succ_self _) hl
end Go.Proofs.Ytpfhnpmcfjfmiaa
