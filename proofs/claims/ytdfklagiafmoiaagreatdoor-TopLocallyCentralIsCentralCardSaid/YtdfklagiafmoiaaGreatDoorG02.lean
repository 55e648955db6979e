/- Lemmas of this seat, laid together out of 5 texts: no statement of the seat is proved here. -/
import Derived.WalkKit
import Derived.WalkSpells
import Derived.WalkLawsBesides
import Derived.Deep.QuietTactic
import Derived.BigQuiet
import Derived.Lib.Hide
import Derived.Deep.Draws
import Derived.Below
import Derived.Laws.OwnMore
import Derived.Deep.AppendLies
import Derived.Laws.Rows
import Derived.Maps.AppendAt
import Derived.RegionTactic
import Derived.OwnWalk
import Derived.Test.YtdfklagiafmoiaaGreatDoorG01
/- Small words for the walks (after the guide's pages of small lemmas): quiet calls, frames. -/
namespace Go.Proofs.YtdfklagiafmoiaaGreatDoor
open Go.RowKit

theorem ret_int {k : IntKind} {a b : Int} (h : a = b) : Ending.returned (.int k a) = .returned (.int k b) := by rw [h]
theorem ret_bool {a b : Bool} (h : a = b) : Ending.returned (.bool a) = .returned (.bool b) := by rw [h]
theorem bool_ext {a b : Bool} (h : a = true ↔ b = true) : a = b := Bool.eq_iff_iff.2 h
theorem val_int {k : IntKind} {a b : Int} (h : a = b) : Value.int k a = .int k b := by rw [h]

theorem quiet_add_left {P : Program} {f : FuncId} {args : Array Value} {w : World} {a n : Nat} {v : Value}
    (h : Calls P f args (w.drewN (a + n)) fun e w' => e = .returned v ∧ w.drewN (a + n) = w') :
    Calls P f args (w.drewN (a + n)) fun e w'' => e = .returned v ∧ ∃ m, w'' = w.drewN (a + m) :=
  h.mono fun _ _ ⟨he, hm⟩ => ⟨he, n, hm.symm⟩
theorem quiet_left {P : Program} {f : FuncId} {args : Array Value} {w : World} {n : Nat} {v : Value}
    (h : Calls P f args (w.drewN n) fun e w' => e = .returned v ∧ w.drewN n = w') : Calls P f args (w.drewN n) fun e w'' => e = .returned v ∧ ∃ m, w'' = w.drewN m :=
  h.mono fun _ _ ⟨he, hm⟩ => ⟨he, n, hm.symm⟩
theorem below_drewN {B : Nat} {a w : World} (h : Below B a w) (n : Nat) : Below B a (w.drewN n) := ⟨h.os, h.tape, h.output, h.size, h.block⟩
theorem bcell {W w1 : World} (hb : Below W.heap.size W w1) : (∀ b o, b < W.heap.size → w1.cell? ⟨b, o, none⟩ = W.cell? ⟨b, o, none⟩) ∧ (∀ b o, b < W.heap.size → w1.frozen? ⟨b, o, none⟩ = W.frozen? ⟨b, o, none⟩) :=
  ⟨fun b o h => hb.cell (p := ⟨b, o, none⟩) h, fun b o h => hb.frozen (p := ⟨b, o, none⟩) h⟩
end Go.Proofs.YtdfklagiafmoiaaGreatDoor

/- Words for memory, after the guide's page of words: a slice that reads as a list, a block that is known whole, append from such a slice. -/
namespace Go.Proofs.YtdfklagiafmoiaaGreatDoor
open Go.RowKit

theorem block_of_add (a : Addr) (n : Nat) : (a.add n).block = a.block := by unfold Addr.add; split <;> rfl
theorem add_of_add (a : Addr) (i j : Nat) : (a.add i).add j = a.add (i + j) := by
  unfold Addr.add
  by_cases hi : i = 0 <;> by_cases hj : j = 0 <;> simp [hi, hj, Nat.add_assoc]

def Reads (w : World) (B size : Nat) (A : Option Addr) (n : Nat) (xs : List Value) : Prop :=
  xs.length = n * size ∧ (0 < n → ∃ ad, A = some ad ∧ ad.block < B ∧ ∀ j u, xs[j]? = some u → w.cell? (ad.add j) = some u)

section
variable {w w' : World} {B B' size n : Nat} {A : Option Addr} {xs : List Value}
theorem Reads.none_ : Reads w B size A 0 [] := ⟨by simp, fun h => absurd h (by omega)⟩
theorem Reads.at_ {k : Nat} (h : Reads w B 1 A n xs) (hk : k < n) : ∃ ad u, A = some ad ∧ ad.block < B ∧ xs[k]? = some u ∧ w.cell? (ad.add k) = some u := by
  obtain ⟨ad, e, hb, hc⟩ := h.2 (by omega)
  have hl : k < xs.length := by have := h.1; omega
  exact ⟨ad, xs[k], e, hb, List.getElem?_eq_getElem hl, hc k _ (List.getElem?_eq_getElem hl)⟩
theorem Reads.keep (h : Reads w B size A n xs) (hk : ∀ p : Addr, p.block < B → w'.cell? p = w.cell? p) : Reads w' B size A n xs :=
  ⟨h.1, fun hn => by
    obtain ⟨ad, e, hb, hc⟩ := h.2 hn
    exact ⟨ad, e, hb, fun j u hu => (hk _ (by rw [block_of_add]; exact hb)).trans (hc j u hu)⟩⟩
theorem Reads.more (h : Reads w B size A n xs) (hB : B ≤ B') : Reads w B' size A n xs :=
  ⟨h.1, fun hn => by
    obtain ⟨ad, e, hb, hc⟩ := h.2 hn
    exact ⟨ad, e, by omega, hc⟩⟩
theorem Reads.below (h : Reads w B size A n xs) (hb : Below B w w') : Reads w' B size A n xs := h.keep fun _ hp => hb.cell hp
theorem Reads.drew (h : Reads w B size A n xs) : Reads w.drew B size A n xs := h
theorem Reads.drewN (h : Reads w B size A n xs) (k : Nat) : Reads (w.drewN k) B size A n xs := h
theorem Reads.alloc (h : Reads w B size A n xs) (hB : B ≤ w.heap.size) (o : Obj) : Reads (w.alloc o) B size A n xs := h.keep fun p hp => World.cell?_alloc_lt w o p (by omega)
theorem Reads.setCell (h : Reads w B size A n xs) {p : Addr} (hB : B ≤ p.block) (u : Value) : Reads (w.setCell p u) B size A n xs :=
  h.keep fun q hq => World.cell?_setCell_other w p q u (fun e => by subst e; omega)
theorem Reads.grown (h : Reads w B size A n xs) {row : Option Nat} (hg : w.grownBy w' row) (hB : B ≤ w.heap.size) (hr : ∀ g, row = some g → B ≤ g) : Reads w' B size A n xs :=
  h.keep fun p hp => World.cell?_of_block (hg.block p.block (by omega) (fun e => by have := hr _ e.symm; omega))
theorem Reads.cut (h : Reads w B size A n xs) {k cap : Nat} (hk : k ≤ n) (hc : n ≤ cap) :
    Reads w B size (if cap = k then A else A.map (·.add (k * size))) (n - k) (xs.drop (k * size)) := by
  refine ⟨by rw [List.length_drop, h.1, Nat.sub_mul], fun hn => ?_⟩
  obtain ⟨ad, rfl, hb, hcell⟩ := h.2 (by omega)
  rw [if_neg (by omega)]
  refine ⟨ad.add (k * size), rfl, by rw [block_of_add]; exact hb, fun j u hu => ?_⟩
  rw [add_of_add]
  exact hcell _ u (by rw [← hu, List.getElem?_drop])
theorem Reads.of_own {base : Nat} {e : TypeId} {c : Nat} (h : w.ownsRow base e size (.slice A n c) n xs) : Reads w w.heap.size size A n xs := by
  refine ⟨h.1, fun hn => ?_⟩
  obtain ⟨g, cap, hv, _, hlt⟩ := h.form hn
  have hA : A = some ⟨g, 0, none⟩ := by injection hv
  subst hA
  exact ⟨_, rfl, hlt, h.cells (g := g) rfl⟩
end

def Blk (w : World) (g : Nat) (t : TypeId) (cs : Array Value) : Prop := w.heap[g]? = some (.cells cs t (0, 0))

section
variable {w w' : World} {g : Nat} {t : TypeId} {cs : Array Value}
theorem Blk.lt (h : Blk w g t cs) : g < w.heap.size := by
  rcases Nat.lt_or_ge g w.heap.size with hlt | hge
  · exact hlt
  · unfold Blk at h; rw [Array.getElem?_eq_none hge] at h; cases h
theorem Blk.cell (h : Blk w g t cs) (i : Nat) : w.cell? ⟨g, i, none⟩ = cs[i]? := cell_of_row w g i cs t (0, 0) h
theorem Blk.frozen (h : Blk w g t cs) (i : Nat) : w.frozen? ⟨g, i, none⟩ = false := by
  unfold Blk at h
  simp [World.frozen?, h]
theorem Blk.new (w : World) (t : TypeId) (cs : Array Value) : Blk (w.alloc (.cells cs t)) w.heap.size t cs := heap_alloc_new w _
theorem Blk.drew (h : Blk w g t cs) : Blk w.drew g t cs := h
theorem Blk.drewN (h : Blk w g t cs) (n : Nat) : Blk (w.drewN n) g t cs := h
theorem Blk.alloc (h : Blk w g t cs) (o : Obj) : Blk (w.alloc o) g t cs := (Below.heap_alloc w o g h.lt).trans h
theorem Blk.set_ (h : Blk w g t cs) (i : Nat) (u : Value) : Blk (w.setCell ⟨g, i, none⟩ u) g t (cs.setIfInBounds i u) := by
  unfold Blk at h ⊢
  simp [World.setCell, Array.getElem?_modify, h]
theorem Blk.far (h : Blk w g t cs) {p : Addr} (hp : g ≠ p.block) (u : Value) : Blk (w.setCell p u) g t cs := (Below.heap_setCell w p u g hp).trans h
theorem Blk.below {B : Nat} (h : Blk w g t cs) (hb : Below B w w') (hg : g < B) : Blk w' g t cs := (hb.block g hg).trans h
theorem Blk.grown {row : Option Nat} (h : Blk w g t cs) (hb : w.grownBy w' row) (hg : some g ≠ row) : Blk w' g t cs := (hb.block g h.lt hg).trans h
theorem Blk.ne_ {g' : Nat} {t' : TypeId} {cs' : Array Value} (h : Blk w g t cs) (h' : Blk w g' t' cs') (hne : t ≠ t') : g ≠ g' := by
  rintro rfl
  unfold Blk at h h'
  rw [h] at h'
  injection h' with h'
  injection h' with _ ht
  exact hne ht
theorem own_blk_ne {base : Nat} {e : TypeId} {size n : Nat} {v : Value} {xs : List Value} (h : w.ownsRow base e size v n xs) (hg : Blk w g t cs) (hne : e ≠ t) : v.ownBlock ≠ some g := by
  rcases h.2 with ⟨rfl, _⟩ | ⟨g', cap, cur, rfl, _, hh, _⟩
  · simp [Value.ownBlock]
  · intro he
    have : g' = g := by simpa [Value.ownBlock] using he
    subst this
    exact Blk.ne_ (t := e) hh hg hne rfl
end

theorem blk5 {w : World} {g : Nat} {t : TypeId} {a0 a1 a2 a3 a4 : Value} (h : Blk w g t #[a0, a1, a2, a3, a4]) :
    w.cell? ⟨g, 0, none⟩ = some a0 ∧ w.cell? ⟨g, 1, none⟩ = some a1 ∧ w.cell? ⟨g, 2, none⟩ = some a2 ∧ w.cell? ⟨g, 3, none⟩ = some a3 ∧ w.cell? ⟨g, 4, none⟩ = some a4 ∧ (∀ o, w.frozen? ⟨g, o, none⟩ = false) :=
  ⟨h.cell 0, h.cell 1, h.cell 2, h.cell 3, h.cell 4, h.frozen⟩
theorem blk1 {w : World} {g : Nat} {t : TypeId} {a0 : Value} (h : Blk w g t #[a0]) :
    w.cell? ⟨g, 0, none⟩ = some a0 ∧ (∀ o, w.frozen? ⟨g, o, none⟩ = false) :=
  ⟨h.cell 0, h.frozen⟩
theorem blk2 {w : World} {g : Nat} {t : TypeId} {a0 a1 : Value} (h : Blk w g t #[a0, a1]) :
    w.cell? ⟨g, 0, none⟩ = some a0 ∧ w.cell? ⟨g, 1, none⟩ = some a1 ∧ (∀ o, w.frozen? ⟨g, o, none⟩ = false) :=
  ⟨h.cell 0, h.cell 1, h.frozen⟩

section
variable {P : Program} (w : World)

theorem run_append_of_nil (base : Nat) (t ty e : TypeId) (i : TypeInfo) (size : Nat) (ht : P.underlying t = some (.slice e)) (hi : P.info? e = some i)
    (v : Value) (n : Nat) (xs : List Value) (hown : w.ownsRow base e size v n xs) (c : Nat) : (Builtin.append_ #[t, t] ty #[v, .slice none 0 c]).run P w = .ok v w := by
  rcases hown.2 with ⟨rfl, rfl⟩ | ⟨g, cap, cur, rfl, _, _, hnc, _⟩
  · simp [Builtin.append_, run_underlying ht, sizeOf, typeInfo, hi, Builtin.lenOf, Builtin.firstCells]
  · simp [Builtin.append_, run_underlying ht, sizeOf, typeInfo, hi, Builtin.lenOf, Builtin.firstCells, hnc, storeCells]

theorem run_append_any (base : Nat) (t ty e : TypeId) (i : TypeInfo) (z : Value) (size bytes : Nat) (ht : P.underlying t = some (.slice e)) (hi : P.info? e = some i) (hz : i.zero = some z)
    (hsize : i.size = size) (hby : i.bytes = bytes) (hzs : z.cells.size = size) (hsz : 0 < size)
    (v : Value) (n : Nat) (xs : List Value) (hown : w.ownsRow base e size v n xs)
    (B : Nat) (A : Option Addr) (m c : Nat) (news : List Value) (hr : Reads w B size A m news) (h1 : ∀ u ∈ news, u.oneCell' = true)
    (h63 : n + m ≤ maxLen) (hbytes : (n + m) * bytes ≤ 140737488355328) (hbase : base ≤ w.heap.size) :
    ∃ v' w', (Builtin.append_ #[t, t] ty #[v, .slice A m c]).run P w = .ok v' w' ∧ w'.ownsRow base e size v' (n + m) (xs ++ news) ∧ w.grownBy w' v.ownBlock ∧
      (v'.ownBlock = v.ownBlock ∨ v'.ownBlock = some w.heap.size) := by
  rcases A with _ | ad
  · have hm : m = 0 := by
      rcases Nat.eq_zero_or_pos m with h0 | h0
      · exact h0
      · obtain ⟨ad, h, _⟩ := hr.2 h0
        cases h
    subst hm
    have hn : news = [] := List.eq_nil_of_length_eq_zero (by simpa using hr.1)
    subst hn
    exact ⟨v, w, run_append_of_nil w base t ty e i size ht hi v n xs hown c, by simpa using hown, World.grownBy.refl w _, .inl rfl⟩
  · have hcells : ∀ j u, news[j]? = some u → w.cell? (ad.add j) = some u := by
      intro j u hu
      rcases Nat.eq_zero_or_pos m with h0 | h0
      · subst h0
        have hn : news = [] := List.eq_nil_of_length_eq_zero (by simpa using hr.1)
        subst hn
        simp at hu
      · obtain ⟨ad', h, _, hc⟩ := hr.2 h0
        injection h with h
        subst h
        exact hc j u hu
    obtain ⟨v', w', hrun, h2, h3, _, h5⟩ := run_append_own_at (P := P) w base t ty e i z size bytes ht hi hz hsize hby hzs hsz v n xs hown ad m c news hr.1 hcells h1 h63 hbytes hbase
    exact ⟨v', w', hrun, h2, h3, h5⟩

theorem wp_append_any {o : Oper} {a : Act} {K : Act → World → Prop} {Q : Exit → Act → World → Prop} (s x : Operand) (t : TypeId)
    (ho : o.op = .call { callee := .builtin .append, args := #[s, x], argTypes := #[t, t] })
    (base : Nat) (e : TypeId) (i : TypeInfo) (z : Value) (size bytes : Nat) (ht : P.underlying t = some (.slice e)) (hi : P.info? e = some i) (hz : i.zero = some z)
    (hsize : i.size = size) (hby : i.bytes = bytes) (hzs : z.cells.size = size) (hsz : 0 < size)
    (v : Value) (n : Nat) (xs : List Value) (hs : a.eval s = v) (hown : w.ownsRow base e size v n xs)
    (B : Nat) (A : Option Addr) (m c : Nat) (news : List Value) (hx : a.eval x = .slice A m c) (hr : Reads w B size A m news) (h1 : ∀ u ∈ news, u.oneCell' = true)
    (h63 : n + m ≤ maxLen) (hbytes : (n + m) * bytes ≤ 140737488355328) (hbase : base ≤ w.heap.size)
    (h : ∀ v' w', w'.ownsRow base e size v' (n + m) (xs ++ news) → w.grownBy w' v.ownBlock → (v'.ownBlock = v.ownBlock ∨ v'.ownBlock = some w.heap.size) → K (a.put o.dst v') w') : o.wp P a w K Q := by
  obtain ⟨v', w', hrun, h2, h3, h4⟩ := run_append_any (P := P) w base t o.type e i z size bytes ht hi hz hsize hby hzs hsz v n xs hown B A m c news hr h1 h63 hbytes hbase
  unfold Oper.wp execOp
  simp only [ho, resolve, invoke, builtin, Sem.run_bind, Sem.run_pure, Result.andThen_ok, List.map_toArray, List.map_cons, List.map_nil, hs, hx, hrun]
  exact h v' w' h2 h3 h4

theorem wpList_append_any {ops : Array Oper} {rest : List Oper} {o : Oper} {a : Act} {Q : Exit → Act → World → Prop} (hgd : o.guard = none) (s x : Operand) (t : TypeId)
    (ho : o.op = .call { callee := .builtin .append, args := #[s, x], argTypes := #[t, t] })
    (base : Nat) (e : TypeId) (i : TypeInfo) (z : Value) (size bytes : Nat) (ht : P.underlying t = some (.slice e)) (hi : P.info? e = some i) (hz : i.zero = some z)
    (hsize : i.size = size) (hby : i.bytes = bytes) (hzs : z.cells.size = size) (hsz : 0 < size)
    (v : Value) (n : Nat) (xs : List Value) (hs : a.eval s = v) (hown : w.ownsRow base e size v n xs)
    (B : Nat) (A : Option Addr) (m c : Nat) (news : List Value) (hx : a.eval x = .slice A m c) (hr : Reads w B size A m news) (h1 : ∀ u ∈ news, u.oneCell' = true)
    (h63 : n + m ≤ maxLen) (hbytes : (n + m) * bytes ≤ 140737488355328) (hbase : base ≤ w.heap.size)
    (h : ∀ v' w', w'.ownsRow base e size v' (n + m) (xs ++ news) → w.grownBy w' v.ownBlock → (v'.ownBlock = v.ownBlock ∨ v'.ownBlock = some w.heap.size) → wpList P ops Q rest (a.put o.dst v') w') : wpList P ops Q (o :: rest) a w :=
  wpList_plain hgd fun _ hK => wp_append_any w s x t ho base e i z size bytes ht hi hz hsize hby hzs hsz v n xs hs hown B A m c news hx hr h1 h63 hbytes hbase fun v' w' h2 h3 h4 => hK _ _ (h v' w' h2 h3 h4)

theorem step_append_any {ops : Array Oper} {o : Oper} {a : Act} {K : Act → World → Prop} {Q : Exit → Act → World → Prop} {E : Prop} (hgd : o.guard = none) (s x : Operand) (t : TypeId)
    (ho : o.op = .call { callee := .builtin .append, args := #[s, x], argTypes := #[t, t] })
    (base : Nat) (e : TypeId) (i : TypeInfo) (z : Value) (size bytes : Nat) (ht : P.underlying t = some (.slice e)) (hi : P.info? e = some i) (hz : i.zero = some z)
    (hsize : i.size = size) (hby : i.bytes = bytes) (hzs : z.cells.size = size) (hsz : 0 < size)
    (v : Value) (n : Nat) (xs : List Value) (hs : a.eval s = v) (hown : w.ownsRow base e size v n xs)
    (B : Nat) (A : Option Addr) (m c : Nat) (news : List Value) (hx : a.eval x = .slice A m c) (hr : Reads w B size A m news) (h1 : ∀ u ∈ news, u.oneCell' = true)
    (h63 : n + m ≤ maxLen) (hbytes : (n + m) * bytes ≤ 140737488355328) (hbase : base ≤ w.heap.size)
    (h : ∀ v' w', w'.ownsRow base e size v' (n + m) (xs ++ news) → w.grownBy w' v.ownBlock → (v'.ownBlock = v.ownBlock ∨ v'.ownBlock = some w.heap.size) → K (a.put o.dst v') w') :
    if Region.wanted o (yielded ops a.tmps) = true then Oper.wp P o a w K Q else E := by
  have hw : Region.wanted o (yielded ops a.tmps) = true := by simp [Region.wanted, hgd]
  rw [if_pos hw]
  exact wp_append_any w s x t ho base e i z size bytes ht hi hz hsize hby hzs hsz v n xs hs hown B A m c news hx hr h1 h63 hbytes hbase h
end

end Go.Proofs.YtdfklagiafmoiaaGreatDoor

/- Small functions on operations: both sides' Arity, Aggregate, Near, argument. -/
namespace Go.Proofs.YtdfklagiafmoiaaGreatDoor
open Go.RowKit

set_option maxHeartbeats 1000000 in
theorem ar_r (op : Int) (w : World) : Calls Tryz.prog 181 #[.int .i64 op] w fun e w' => e = .returned (.int .i64 (ar op)) ∧ w = w' := by
  go_enter Tryz.func181, Tryz.ntmps181
  go_wp2
  all_goals (go_ret; exact ⟨ret_int (by (try simp only [beq_iff_eq, beq_eq_false_iff_ne, ne_eq] at *); unfold ar; (repeat' split) <;> first | rfl | omega), rfl⟩)
set_option maxHeartbeats 1000000 in
theorem ar_p (op : Int) (w : World) : Calls Tryz.prog 152 #[.int .i64 op] w fun e w' => e = .returned (.int .i64 (ar op)) ∧ w = w' := by
  go_enter Tryz.func152, Tryz.ntmps152
  go_wp2
  all_goals (go_ret; exact ⟨ret_int (by unfold ar; (repeat' split) <;> first | rfl | omega), rfl⟩)
theorem agg_r (op : Int) (w : World) : Calls Tryz.prog 184 #[.int .i64 op] w fun e w' => e = .returned (.bool (agg op)) ∧ w = w' := by
  go_enter Tryz.func184, Tryz.ntmps184
  go_wp2
  all_goals ((go_ret; refine ⟨ret_bool (bool_ext ?_), ?_⟩; ((try simp only [decide_eq_true_eq] at *); (try unfold agg); (try dsimp only); (repeat' split) <;> (try simp only [decide_eq_true_eq, Bool.false_eq_true, false_iff]) <;> (try omega))); rfl)
theorem agg_p (op : Int) (w : World) : Calls Tryz.prog 156 #[.int .i64 op] w fun e w' => e = .returned (.bool (agg op)) ∧ w = w' := by
  go_enter Tryz.func156, Tryz.ntmps156
  go_wp2
  all_goals ((go_ret; refine ⟨ret_bool (bool_ext ?_), ?_⟩; ((try simp only [decide_eq_true_eq] at *); (try unfold agg); (try dsimp only); (repeat' split) <;> (try simp only [decide_eq_true_eq, Bool.false_eq_true, false_iff]) <;> (try omega))); rfl)
theorem near_p (op : Int) (w : World) : Calls Tryz.prog 157 #[.int .i64 op] w fun e w' => e = .returned (.bool (near op)) ∧ w = w' := by
  go_enter Tryz.func157, Tryz.ntmps157
  go_wp2
  all_goals ((go_ret; refine ⟨ret_bool (bool_ext ?_), ?_⟩; ((try simp only [decide_eq_true_eq] at *); (try unfold near); (try dsimp only); (repeat' split) <;> (try simp only [decide_eq_true_eq, Bool.false_eq_true, false_iff]) <;> (try omega))); rfl)
set_option maxHeartbeats 1000000 in
theorem arg_p (t : Tm) (n : Int) (w : World) : Calls Tryz.prog 126 #[.agg #[.int .i64 t.1, .int .i64 t.2], .int .i64 n] w fun e w' => e = .returned (.bool (argOk n t)) ∧ Below w.heap.size w w' := by
  go_enter Tryz.func126, Tryz.ntmps126
  go_wp2
  all_goals ((go_ret; refine ⟨ret_bool (bool_ext ?_), ?_⟩; ((try simp only [beq_iff_eq, beq_eq_false_iff_ne, ne_eq, decide_eq_true_eq] at *); (try unfold argOk); (try dsimp only); (repeat' split) <;> (try simp only [decide_eq_true_eq, Bool.false_eq_true, false_iff]) <;> (try omega))); (repeat (with_reducible first | exact Below.refl _ _ | refine Below.setCell ?_ (by first | exact Nat.le_refl _ | (simp only [World.size_alloc]; omega)) _ | refine below_drewN ?_ _ | refine Below.drew ?_ | refine Below.alloc ?_ (by first | exact Nat.le_refl _ | (simp only [World.size_alloc]; omega)) _ | assumption)))
set_option maxHeartbeats 1000000 in
theorem arg_r (t : Tm) (n : Int) (w : World) : Calls Tryz.prog 180 #[.agg #[.int .i64 t.1, .int .i64 t.2], .int .i64 n] w fun e w' => e = .returned (.bool (argOk n t)) ∧ Below w.heap.size w w' := by
  go_enter Tryz.func180, Tryz.ntmps180
  go_wp2
  all_goals ((go_ret; refine ⟨ret_bool (bool_ext ?_), ?_⟩; ((try simp only [beq_iff_eq, beq_eq_false_iff_ne, ne_eq, decide_eq_true_eq] at *); (try unfold argOk); (try dsimp only); (repeat' split) <;> (try simp only [decide_eq_true_eq, Bool.false_eq_true, false_iff]) <;> (try omega))); (repeat (with_reducible first | exact Below.refl _ _ | refine Below.setCell ?_ (by first | exact Nat.le_refl _ | (simp only [World.size_alloc]; omega)) _ | refine below_drewN ?_ _ | refine Below.drew ?_ | refine Below.alloc ?_ (by first | exact Nat.le_refl _ | (simp only [World.size_alloc]; omega)) _ | assumption)))
end Go.Proofs.YtdfklagiafmoiaaGreatDoor

/- How programs, graphs and configurations lie in memory. -/
namespace Go.Proofs.YtdfklagiafmoiaaGreatDoor
open Go.RowKit

/-- a slice whose elements take so many cells each, each read by R -/
def ListAt {α : Type} (w : World) (B size : Nat) (R : α → List Value → Prop) (v : Value) (L : List α) : Prop :=
  ∃ (A : Option Addr) (c : Nat) (vals : List Value), v = .slice A L.length c ∧ Reads w B size A L.length vals ∧ ∀ (k : Nat) x, L[k]? = some x → ∃ us : List Value, us.length = size ∧ R x us ∧ ∀ j u, us[j]? = some u → vals[k * size + j]? = some u

structure Vr where
  name : ByteArray
  kind : Int
  lo : Int
  hi : Int
  pn : Int
  pid : Int
abbrev St := Int × List Tm
structure Rl where
  name : ByteArray
  guard : List Tm
  sets : List St
structure Pg where
  name : ByteArray
  vars : List Vr
  rules : List Rl
structure Gr where
  ids : List Int
  ports : List (List Tm)

def rPair (t : Tm) (us : List Value) : Prop := us = [.int .i64 t.1, .int .i64 t.2]
def rInt (z : Int) (us : List Value) : Prop := us = [.int .i64 z]
def rStr (s : ByteArray) (us : List Value) : Prop := us = [.string s]
def PairsAt (w : World) (B : Nat) := ListAt w B 2 rPair
def IntsAt (w : World) (B : Nat) := ListAt w B 1 rInt
def StrsAt (w : World) (B : Nat) := ListAt w B 1 rStr
def rRow (w : World) (B : Nat) (l : List Tm) (us : List Value) : Prop := ∃ u, us = [u] ∧ PairsAt w B u l
def rInts (w : World) (B : Nat) (l : List Int) (us : List Value) : Prop := ∃ u, us = [u] ∧ IntsAt w B u l
def rSet (w : World) (B : Nat) (x : St) (us : List Value) : Prop := ∃ u, us = [.int .i64 x.1, u] ∧ PairsAt w B u x.2
def SetsAt (w : World) (B : Nat) := ListAt w B 2 (rSet w B)
def rRule (w : World) (B : Nat) (r : Rl) (us : List Value) : Prop := ∃ ug vs, us = [.string r.name, ug, vs] ∧ PairsAt w B ug r.guard ∧ SetsAt w B vs r.sets
def rVar (x : Vr) (us : List Value) : Prop := us = [.string x.name, .int .i64 x.kind, .int .i64 x.lo, .int .i64 x.hi, .int .i64 x.pn, .int .i64 x.pid]
def VarsAt (w : World) (B : Nat) := ListAt w B 6 rVar
def RulesAt (w : World) (B : Nat) := ListAt w B 3 (rRule w B)
def PortsAt (w : World) (B : Nat) := ListAt w B 1 (rRow w B)
def ConfAt (w : World) (B : Nat) := ListAt w B 1 (rInts w B)
def ProgAt (w : World) (B : Nat) (v : Value) (p : Pg) : Prop := ∃ vv vr, v = .agg #[.string p.name, vv, vr] ∧ VarsAt w B vv p.vars ∧ RulesAt w B vr p.rules
def GraphAt (w : World) (B : Nat) (v : Value) (g : Gr) : Prop := ∃ vi vp, v = .agg #[vi, vp] ∧ IntsAt w B vi g.ids ∧ PortsAt w B vp g.ports

section
variable {w w' : World} {B B' size : Nat} {v : Value} {α : Type} {R R' : α → List Value → Prop} {L : List α}
/-- what lies below B stands, and B may grow -/
def Holds_ (B B' : Nat) (w w' : World) : Prop := B ≤ B' ∧ ∀ p : Addr, p.block < B → w'.cell? p = w.cell? p
theorem Holds_.below (hb : Below B w w') : Holds_ B B w w' := ⟨Nat.le_refl _, fun _ hp => hb.cell hp⟩
theorem Holds_.go (hb : Below w.heap.size w w') : Holds_ w.heap.size w'.heap.size w w' := ⟨hb.size, fun _ hp => hb.cell hp⟩
theorem Holds_.more (w : World) (h : B ≤ B') : Holds_ B B' w w := ⟨h, fun _ _ => rfl⟩
theorem ListAt.to (h : ListAt w B size R v L) (k : Holds_ B B' w w') (hR : ∀ x us, R x us → R' x us) : ListAt w' B' size R' v L :=
  let ⟨A, c, vals, e, hr, hk⟩ := h
  ⟨A, c, vals, e, (hr.keep k.2).more k.1, fun k x hx => let ⟨us, h1, h2, h3⟩ := hk k x hx; ⟨us, h1, hR x us h2, h3⟩⟩
end
section
variable {w w' : World} {B B' : Nat} (k : Holds_ B B' w w') {v : Value}
include k
theorem PairsAt.to {l : List Tm} (h : PairsAt w B v l) : PairsAt w' B' v l := ListAt.to h k fun _ _ h => h
theorem IntsAt.to {l : List Int} (h : IntsAt w B v l) : IntsAt w' B' v l := ListAt.to h k fun _ _ h => h
theorem StrsAt.to {l : List ByteArray} (h : StrsAt w B v l) : StrsAt w' B' v l := ListAt.to h k fun _ _ h => h
theorem VarsAt.to {l : List Vr} (h : VarsAt w B v l) : VarsAt w' B' v l := ListAt.to h k fun _ _ h => h
theorem SetsAt.to {l : List St} (h : SetsAt w B v l) : SetsAt w' B' v l := ListAt.to h k fun _ _ ⟨u, e, h⟩ => ⟨u, e, h.to k⟩
theorem PortsAt.to {l : List (List Tm)} (h : PortsAt w B v l) : PortsAt w' B' v l := ListAt.to h k fun _ _ ⟨u, e, h⟩ => ⟨u, e, h.to k⟩
theorem ConfAt.to {l : List (List Int)} (h : ConfAt w B v l) : ConfAt w' B' v l := ListAt.to h k fun _ _ ⟨u, e, h⟩ => ⟨u, e, h.to k⟩
theorem RulesAt.to {l : List Rl} (h : RulesAt w B v l) : RulesAt w' B' v l := ListAt.to h k fun _ _ ⟨u, s, e, h1, h2⟩ => ⟨u, s, e, h1.to k, h2.to k⟩
theorem ProgAt.to {p : Pg} (h : ProgAt w B v p) : ProgAt w' B' v p := let ⟨vv, vr, e, h1, h2⟩ := h; ⟨vv, vr, e, h1.to k, h2.to k⟩
theorem GraphAt.to {g : Gr} (h : GraphAt w B v g) : GraphAt w' B' v g := let ⟨vv, vr, e, h1, h2⟩ := h; ⟨vv, vr, e, h1.to k, h2.to k⟩
end

section
variable {w : World} {B : Nat} {v : Value}
theorem ListAt.sl {α : Type} {size : Nat} {R : α → List Value → Prop} {L : List α} (h : ListAt w B size R v L) : ∃ A c, v = .slice A L.length c := let ⟨A, c, _, e, _⟩ := h; ⟨A, c, e⟩
/-- an element's cells -/
theorem ListAt.at_ {α : Type} {size : Nat} {R : α → List Value → Prop} {L : List α} {A : Option Addr} {n c : Nat} (h : ListAt w B size R (.slice A n c) L) {k : Nat} (hk : k < L.length) :
    ∃ ad us, A = some ad ∧ ad.block < B ∧ R L[k] us ∧ us.length = size ∧ ∀ j u, us[j]? = some u → w.cell? ((ad.add (k * size)).add j) = some u := by
  obtain ⟨A', c', vals, e, hr, hx⟩ := h
  injection e with e1 e2 e3
  subst e1
  obtain ⟨us, h1, h2, h3⟩ := hx k _ (List.getElem?_eq_getElem hk)
  obtain ⟨ad, e, hb, hc⟩ := hr.2 (by omega)
  exact ⟨ad, us, e, hb, h2, h1, fun j u hu => by rw [add_of_add]; exact hc _ _ (h3 j u hu)⟩
theorem pair_at {l : List Tm} {A : Option Addr} {n c k : Nat} (h : PairsAt w B (.slice A n c) l) (hk : k < l.length) :
    ∃ ad, A = some ad ∧ ad.block < B ∧ w.cell? (ad.add (k * 2)) = some (.int .i64 l[k].1) ∧ w.cell? ⟨(ad.add (k * 2)).block, (ad.add (k * 2)).off + 1, none⟩ = some (.int .i64 l[k].2) := by
  obtain ⟨ad, us, e, hb, rfl, _, hc⟩ := ListAt.at_ h hk
  exact ⟨ad, e, hb, hc 0 _ rfl, hc 1 _ rfl⟩
theorem int_at {l : List Int} {A : Option Addr} {n c k : Nat} (h : IntsAt w B (.slice A n c) l) (hk : k < l.length) :
    ∃ ad, A = some ad ∧ ad.block < B ∧ w.cell? (ad.add k) = some (.int .i64 l[k]) := by
  obtain ⟨ad, us, e, hb, rfl, _, hc⟩ := ListAt.at_ h hk
  have := hc 0 _ rfl
  rw [Nat.mul_one] at this
  exact ⟨ad, e, hb, this⟩
theorem str_at {l : List ByteArray} {A : Option Addr} {n c k : Nat} (h : StrsAt w B (.slice A n c) l) (hk : k < l.length) :
    ∃ ad, A = some ad ∧ ad.block < B ∧ w.cell? (ad.add k) = some (.string l[k]) := by
  obtain ⟨ad, us, e, hb, rfl, _, hc⟩ := ListAt.at_ h hk
  have := hc 0 _ rfl
  rw [Nat.mul_one] at this
  exact ⟨ad, e, hb, this⟩
theorem set_at {l : List St} {A : Option Addr} {n c k : Nat} (h : SetsAt w B (.slice A n c) l) (hk : k < l.length) :
    ∃ ad Ae ce, A = some ad ∧ ad.block < B ∧ w.cell? (ad.add (k * 2)) = some (.int .i64 l[k].1) ∧ w.cell? ⟨(ad.add (k * 2)).block, (ad.add (k * 2)).off + 1, none⟩ = some (.slice Ae l[k].2.length ce) ∧ PairsAt w B (.slice Ae l[k].2.length ce) l[k].2 := by
  obtain ⟨ad, us, e, hb, ⟨u, rfl, hu⟩, _, hc⟩ := ListAt.at_ h hk
  obtain ⟨Ae, ce, rfl⟩ := ListAt.sl hu
  exact ⟨ad, Ae, ce, e, hb, hc 0 _ rfl, hc 1 _ rfl, hu⟩
theorem rule_at {l : List Rl} {A : Option Addr} {n c k : Nat} (h : RulesAt w B (.slice A n c) l) (hk : k < l.length) :
    ∃ ad Ag cg As cs, A = some ad ∧ ad.block < B ∧ w.cell? (ad.add (k * 3)) = some (.string l[k].name) ∧ w.cell? ⟨(ad.add (k * 3)).block, (ad.add (k * 3)).off + 1, none⟩ = some (.slice Ag l[k].guard.length cg) ∧
      w.cell? ⟨(ad.add (k * 3)).block, (ad.add (k * 3)).off + 2, none⟩ = some (.slice As l[k].sets.length cs) ∧ PairsAt w B (.slice Ag l[k].guard.length cg) l[k].guard ∧ SetsAt w B (.slice As l[k].sets.length cs) l[k].sets := by
  obtain ⟨ad, us, e, hb, ⟨ug, vs, rfl, hu, hs⟩, _, hc⟩ := ListAt.at_ h hk
  obtain ⟨Ag, cg, rfl⟩ := ListAt.sl hu
  obtain ⟨As, cs, rfl⟩ := ListAt.sl hs
  exact ⟨ad, Ag, cg, As, cs, e, hb, hc 0 _ rfl, hc 1 _ rfl, hc 2 _ rfl, hu, hs⟩
theorem var_at {l : List Vr} {A : Option Addr} {n c k : Nat} (h : VarsAt w B (.slice A n c) l) (hk : k < l.length) :
    ∃ ad, A = some ad ∧ ad.block < B ∧ w.cell? (ad.add (k * 6)) = some (.string l[k].name) ∧ w.cell? ⟨(ad.add (k * 6)).block, (ad.add (k * 6)).off + 1, none⟩ = some (.int .i64 l[k].kind) ∧
      w.cell? ⟨(ad.add (k * 6)).block, (ad.add (k * 6)).off + 2, none⟩ = some (.int .i64 l[k].lo) ∧ w.cell? ⟨(ad.add (k * 6)).block, (ad.add (k * 6)).off + 3, none⟩ = some (.int .i64 l[k].hi) ∧
      w.cell? ⟨(ad.add (k * 6)).block, (ad.add (k * 6)).off + 4, none⟩ = some (.int .i64 l[k].pn) ∧ w.cell? ⟨(ad.add (k * 6)).block, (ad.add (k * 6)).off + 5, none⟩ = some (.int .i64 l[k].pid) := by
  obtain ⟨ad, us, e, hb, rfl, _, hc⟩ := ListAt.at_ h hk
  exact ⟨ad, e, hb, hc 0 _ rfl, hc 1 _ rfl, hc 2 _ rfl, hc 3 _ rfl, hc 4 _ rfl, hc 5 _ rfl⟩
theorem row_at {l : List (List Tm)} {A : Option Addr} {n c k : Nat} (h : PortsAt w B (.slice A n c) l) (hk : k < l.length) :
    ∃ ad Ae ce, A = some ad ∧ ad.block < B ∧ w.cell? (ad.add k) = some (.slice Ae l[k].length ce) ∧ PairsAt w B (.slice Ae l[k].length ce) l[k] := by
  obtain ⟨ad, us, e, hb, ⟨u, rfl, hu⟩, _, hc⟩ := ListAt.at_ h hk
  obtain ⟨Ae, ce, rfl⟩ := ListAt.sl hu
  have := hc 0 _ rfl
  rw [Nat.mul_one] at this
  exact ⟨ad, Ae, ce, e, hb, this, hu⟩
theorem conf_at {l : List (List Int)} {A : Option Addr} {n c k : Nat} (h : ConfAt w B (.slice A n c) l) (hk : k < l.length) :
    ∃ ad Ae ce, A = some ad ∧ ad.block < B ∧ w.cell? (ad.add k) = some (.slice Ae l[k].length ce) ∧ IntsAt w B (.slice Ae l[k].length ce) l[k] := by
  obtain ⟨ad, us, e, hb, ⟨u, rfl, hu⟩, _, hc⟩ := ListAt.at_ h hk
  obtain ⟨Ae, ce, rfl⟩ := ListAt.sl hu
  have := hc 0 _ rfl
  rw [Nat.mul_one] at this
  exact ⟨ad, Ae, ce, e, hb, this, hu⟩
end
end Go.Proofs.YtdfklagiafmoiaaGreatDoor

/- Both sides' End; the reference's one, Operand. -/
namespace Go.Proofs.YtdfklagiafmoiaaGreatDoor
open Go.RowKit

theorem ar_bd (op : Int) : -1 ≤ ar op ∧ ar op ≤ 3 := by rcases ar_cases op with h | h | h | h | h <;> (unfold ar at *; (repeat' split) <;> omega)
/-- what is answered when so many are wanted at a place -/
def endW (l : List Tm) (m i : Nat) : Int := match fin m (l.drop i) with | some j => i + j | none => -1
theorem endW_end {l : List Tm} {m i : Nat} (h : l.length ≤ i) : endW l m i = -1 := by unfold endW; rw [List.drop_eq_nil_of_le h]; rfl
theorem endW_step {l : List Tm} {m i : Nat} (h : i < l.length) (hm : 1 ≤ m) : endW l m i = if ar l[i].1 < 0 then -1 else if (m : Int) + (ar l[i].1 - 1) = 0 then (i : Int) + 1 else endW l ((m : Int) + (ar l[i].1 - 1)).toNat (i + 1) := by
  unfold endW
  rw [List.drop_eq_getElem_cons h]
  conv => lhs; unfold fin
  by_cases h1 : ar l[i].1 < 0
  · simp [h1]
  · rw [if_neg h1, if_neg h1]
    by_cases h2 : m + (ar l[i].1).toNat = 1
    · rw [if_pos h2, if_pos (by omega)]; simp
    · rw [if_neg h2, if_neg (by omega), show ((m : Int) + (ar l[i].1 - 1)).toNat = m + (ar l[i].1).toNat - 1 by omega]
      cases fin (m + (ar l[i].1).toNat - 1) (l.drop (i + 1)) with
      | none => rfl
      | some j => simp; omega

def EndRel (l : List Tm) (R : Int) (m i : Value) : Prop := ∃ m' i' : Nat, m = .int .i64 m' ∧ i = .int .i64 i' ∧ 1 ≤ m' ∧ m' ≤ 2 * i' + 1 ∧ i' ≤ l.length ∧ endW l m' i' = R
set_option maxHeartbeats 1000000 in
theorem end_r (l : List Tm) (hl : l.length ≤ 1000000000) (k : Nat) (A : Option Addr) (c B : Nat) (w : World) (h : PairsAt w B (.slice A l.length c) l) :
    Calls Tryz.prog 197 #[.slice A l.length c, .int .i64 (k : Int)] w fun e w' => e = .returned (.int .i64 (endAt l k)) ∧ w = w' := by
  have H := Lib.hid h
  clear h
  by_cases hk : k < l.length
  · have k0 : (0 : Int) ≤ (k : Int) := by omega
    have k1 : (k : Int) < (l.length : Int) := by omega
    have d0 : decide ((k : Int) < 0) = false := by simp
    have d1 : decide (l.length ≤ k) = false := by simp; omega
    have HR := Lib.hid (show endW l 1 k = endAt l k from rfl)
    generalize endAt l k = R at *
    go_enter Tryz.func197, Tryz.ntmps197
    go_wp2
    go_loop [5, 6] (EndRel l R) (fun _ i => l.length - (intOf i).toNat)
    case atStart => exact ⟨1, k, rfl, rfl, by omega, by omega, by omega, HR.out⟩
    case round =>
      obtain ⟨m, i, rfl, rfl, hm, hm2, hi, hW⟩ := hrel
      by_cases hlt : i < l.length
      · obtain ⟨ad, rfl, hb, c0, c1⟩ := pair_at H.out hlt
        have hs := endW_step (m := m) hlt hm
        rw [hW] at hs
        obtain ⟨b0, b1⟩ := ar_bd l[i].1
        have HS := Lib.hid hs
        clear hs hW HR
        generalize l[i] = t at *
        have i0 : (0 : Int) ≤ (i : Int) := by omega
        have i1 : (i : Int) < (l.length : Int) := by omega
        have m0 : (1 : Int) ≤ (m : Int) := by omega
        go_wp2_with (go_at_call 181; refine (ar_r _ _).mono ?_; rintro e w' ⟨rfl, rfl⟩)
        · go_ret
          exact ⟨ret_int (by rw [HS.out, if_pos (by omega)]), rfl⟩
        · go_ret
          exact ⟨ret_int (by rw [HS.out]; (try simp only [beq_iff_eq, decide_eq_false_iff_not] at *); rw [if_neg (by omega), if_pos (by omega)]), rfl⟩
        · go_round
          case rel => exact ⟨((m : Int) + (ar t.1 - 1)).toNat, i + 1, val_int (by (try simp only [beq_eq_false_iff_ne, ne_eq, decide_eq_false_iff_not] at *); omega), by go_num, by (try simp only [beq_eq_false_iff_ne, ne_eq, decide_eq_false_iff_not] at *); omega, by omega, by omega, by rw [HS.out]; (try simp only [beq_eq_false_iff_ne, ne_eq, decide_eq_false_iff_not] at *); rw [if_neg (by omega), if_neg (by omega)]⟩
          case measure => simp [intOf]; omega
      · have e : R = -1 := by rw [← hW]; exact endW_end (by omega)
        have HE := Lib.hid e
        clear e hW HR
        go_wp2
        go_ret
        exact ⟨ret_int HE.out.symm, rfl⟩
  · have HE := Lib.hid (show endAt l k = -1 from endW_end (m := 1) (by omega))
    generalize endAt l k = R at *
    go_enter Tryz.func197, Tryz.ntmps197
    go_wp2
    go_ret
    exact ⟨ret_int HE.out.symm, rfl⟩
set_option maxHeartbeats 1000000 in
theorem end_p (l : List Tm) (hl : l.length ≤ 1000000000) (k : Nat) (A : Option Addr) (c B : Nat) (w : World) (h : PairsAt w B (.slice A l.length c) l) :
    Calls Tryz.prog 125 #[.slice A l.length c, .int .i64 (k : Int)] w fun e w' => e = .returned (.int .i64 (endAt l k)) ∧ w = w' := by
  have H := Lib.hid h
  clear h
  by_cases hk : k < l.length
  · have k0 : (0 : Int) ≤ (k : Int) := by omega
    have k1 : (k : Int) < (l.length : Int) := by omega
    have d0 : decide ((k : Int) < 0) = false := by simp
    have d1 : decide (l.length ≤ k) = false := by simp; omega
    have HR := Lib.hid (show endW l 1 k = endAt l k from rfl)
    generalize endAt l k = R at *
    go_enter Tryz.func125, Tryz.ntmps125
    go_wp2
    go_loop [5, 1] (EndRel l R) (fun _ i => l.length - (intOf i).toNat)
    case atStart => exact ⟨1, k, rfl, rfl, by omega, by omega, by omega, HR.out⟩
    case round =>
      obtain ⟨m, i, rfl, rfl, hm, hm2, hi, hW⟩ := hrel
      by_cases hlt : i < l.length
      · obtain ⟨ad, rfl, hb, c0, c1⟩ := pair_at H.out hlt
        have hs := endW_step (m := m) hlt hm
        rw [hW] at hs
        obtain ⟨b0, b1⟩ := ar_bd l[i].1
        have HS := Lib.hid hs
        clear hs hW HR
        generalize l[i] = t at *
        have i0 : (0 : Int) ≤ (i : Int) := by omega
        have i1 : (i : Int) < (l.length : Int) := by omega
        have m0 : (1 : Int) ≤ (m : Int) := by omega
        go_wp2_with (go_at_call 152; refine (ar_p _ _).mono ?_; rintro e w' ⟨rfl, rfl⟩)
        · go_ret
          exact ⟨ret_int (by rw [HS.out, if_pos (by omega)]), rfl⟩
        · go_ret
          exact ⟨ret_int (by rw [HS.out]; (try simp only [beq_iff_eq, decide_eq_false_iff_not] at *); rw [if_neg (by omega), if_pos (by omega)]), rfl⟩
        · go_round
          case rel => exact ⟨((m : Int) + (ar t.1 - 1)).toNat, i + 1, val_int (by (try simp only [beq_eq_false_iff_ne, ne_eq, decide_eq_false_iff_not] at *); omega), by go_num, by (try simp only [beq_eq_false_iff_ne, ne_eq, decide_eq_false_iff_not] at *); omega, by omega, by omega, by rw [HS.out]; (try simp only [beq_eq_false_iff_ne, ne_eq, decide_eq_false_iff_not] at *); rw [if_neg (by omega), if_neg (by omega)]⟩
          case measure => simp [intOf]; omega
      · have e : R = -1 := by rw [← hW]; exact endW_end (by omega)
        have HE := Lib.hid e
        clear e hW HR
        go_wp2
        go_ret
        exact ⟨ret_int HE.out.symm, rfl⟩
  · have HE := Lib.hid (show endAt l k = -1 from endW_end (m := 1) (by omega))
    generalize endAt l k = R at *
    go_enter Tryz.func125, Tryz.ntmps125
    go_wp2
    go_ret
    exact ⟨ret_int HE.out.symm, rfl⟩

/-- an operand's place: so many expressions behind each other -/
theorem opnd_r (l : List Tm) (hl : l.length ≤ 1000000000) (k j : Nat) (pl : Nat → Nat) (hk : k < l.length) (h0 : 0 ≤ endAt l k) (hj : (j : Int) < ar l[k].1) (p0 : pl 0 = k + 1) (hp : ∀ i, i < j → endAt l (pl i) = pl (i + 1)) (A : Option Addr) (c B : Nat) (w : World) (h : PairsAt w B (.slice A l.length c) l) :
    Calls Tryz.prog 186 #[.slice A l.length c, .int .i64 (k : Int), .int .i64 (j : Int)] w fun e w' => e = .returned (.int .i64 (pl j : Int)) ∧ w = w' := by
  have H := Lib.hid h
  have HP := Lib.hid hp
  obtain ⟨ad, rfl, hb, c0, c1⟩ := pair_at h hk
  obtain ⟨b0, b1⟩ := ar_bd l[k].1
  clear h hp
  generalize l[k] = t at *
  have hE := Lib.hid (rfl : endAt l k = endAt l k)
  have P0 := Lib.hid p0
  clear p0
  have k0 : (0 : Int) ≤ (k : Int) := by omega
  have k1 : (k : Int) < (l.length : Int) := by omega
  have d0 : decide (endAt l k < 0) = false := by simp; omega
  have d1 : decide ((j : Int) < 0) = false := by simp
  have d2 : decide (ar t.1 ≤ (j : Int)) = false := by simp; omega
  go_enter Tryz.func186, Tryz.ntmps186
  go_wp2_with (first | (go_at_call 181; refine (ar_r _ _).mono ?_; rintro e w' ⟨rfl, rfl⟩) | (go_at_call 197; refine (end_r l hl k _ c B _ H.out).mono ?_; rintro e w' ⟨rfl, rfl⟩))
  go_loop [7, 8] (fun p i => ∃ i' : Nat, i = .int .i64 i' ∧ p = .int .i64 (pl i') ∧ i' ≤ j) (fun _ i => j - (intOf i).toNat)
  case atStart => exact ⟨0, rfl, by rw [P0.out]; go_num, by omega⟩
  case round =>
    obtain ⟨i, rfl, rfl, hi⟩ := hrel
    by_cases hlt : i < j
    · have i0 : (0 : Int) ≤ (i : Int) := by omega
      have i1 : (i : Int) < (j : Int) := by omega
      go_wp2_with (go_at_call 197; refine (end_r l hl (pl i) _ c B _ H.out).mono ?_; rintro e w' ⟨rfl, rfl⟩)
      go_round
      case rel => exact ⟨i + 1, by go_num, by rw [HP.out i hlt], by omega⟩
      case measure => simp [intOf]; omega
    · obtain rfl : i = j := by omega
      go_wp2
      go_ret
      exact ⟨rfl, rfl⟩
end Go.Proofs.YtdfklagiafmoiaaGreatDoor
