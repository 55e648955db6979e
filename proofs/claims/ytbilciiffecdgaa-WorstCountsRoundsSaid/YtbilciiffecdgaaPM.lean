/- Maps whose keys are pairs (a struct of two integers): look-up and store in a map of the call's own. -/
import Derived.Test.YtbilciiffecdgaaMC
import Derived.Maps.OwnOps
import Derived.Maps.OwnSet
namespace Go.Proofs.Ytbilciiffecdgaa
open Go.RowKit Go.ChangeMaps

def pK (x : Nat × Nat) : Value := .agg #[.int .i64 (x.1 : Int), .int .u32 (x.2 : Int)]
theorem pk_check (e : Bool) (s p : Int) (w : World) : (Instr.checkKey e 10000 65 (.agg #[.int .i64 s, .int .u32 p])).run Try.prog w = .ok () w := by kernel_rfl
theorem pk_eq1 (a c : Int) (w : World) : (Op.equalIn 9999 3 (.int .i64 a) (.int .i64 c)).run Try.prog w = .ok (a == c) w := by kernel_rfl
theorem pk_eq2 (a c : Int) (w : World) : (Op.equalIn 9999 40 (.int .u32 a) (.int .u32 c)).run Try.prog w = .ok (a == c) w := by kernel_rfl
theorem pk_stood (_w : World) : Try.prog.stoodInHeld 65 = false := by kernel_rfl
theorem pk_part1 (a b : Int) (w : World) : (part 3 #[.int .i64 a, .int .u32 b] 0).run Try.prog w = .ok (.int .i64 a) w := by kernel_rfl
theorem pk_part2 (a b : Int) (w : World) : (part 40 #[.int .i64 a, .int .u32 b] 1).run Try.prog w = .ok (.int .u32 b) w := by kernel_rfl
theorem pk_equal (a b c d : Int) (w : World) : (Op.equal 65 (.agg #[.int .i64 a, .int .u32 b]) (.agg #[.int .i64 c, .int .u32 d])).run Try.prog w = .ok (a == c && b == d) w := by
  show (Op.equalIn (9999 + 1) _ _ _).run Try.prog w = _
  rw [Op.equalIn]
  simp only [Sem.run_bind, run_underlying Try.underlying65, Result.andThen_ok]
  rw [show (program).run Try.prog w = .ok Try.prog w from rfl]
  simp only [Result.andThen_ok]
  cases h1 : a == c
  · simp [pk_part1, pk_eq1, h1, Sem.run_bind]
  · cases h2 : b == d
    · simp [pk_part1, pk_part2, pk_eq1, pk_eq2, h1, h2, Sem.run_bind]
    · simp [pk_part1, pk_part2, pk_eq1, pk_eq2, h1, h2, Sem.run_bind]
/-- block b holds the map whose entries are kv, in order -/
def MapIs (w : World) (b : Nat) (kv : List ((Nat × Nat) × Value)) : Prop :=
  ∃ es clock, w.heap[b]? = some (.map es clock) ∧ es.toList.map (fun e => (e.key, e.val)) = kv.map (fun x => (pK x.1, x.2))
theorem MapIs.lt {w : World} {b : Nat} {kv : List ((Nat × Nat) × Value)} (h : MapIs w b kv) : b < w.heap.size := by
  obtain ⟨es, clock, hb, _⟩ := h
  exact (Array.getElem?_eq_some_iff.1 hb).1
theorem MapIs.kept {w w' : World} {b : Nat} {kv : List ((Nat × Nat) × Value)} {row : Option Nat} (h : MapIs w b kv) (hg : w.grownBy w' row) (hne : some b ≠ row) : MapIs w' b kv := by
  have hlt := h.lt
  obtain ⟨es, clock, hb, hk⟩ := h
  exact ⟨es, clock, (hg.block b hlt hne).trans hb, hk⟩
theorem MapIs.made (w : World) : MapIs (w.alloc (.map #[] 0)) w.heap.size [] := ⟨#[], 0, (MapKept.heap_alloc w _).1, rfl⟩
/-- the chunk -/
def cM (B b : Nat) (kv : List ((Nat × Nat) × Value)) : Ch B :=
  ⟨fun w => B ≤ b ∧ MapIs w b kv, fun g => g = b, fun h hg hr => ⟨h.1, h.2.kept hg (fun e => hr b e.symm rfl)⟩, fun h e => by subst e; exact ⟨h.1, h.2.lt⟩⟩
/-- what is found -/
def mGet (kv : List ((Nat × Nat) × Value)) (x : Nat × Nat) : Option Value := (kv.find? fun y => y.1 == x).map (·.2)
theorem pk_find (x : Nat × Nat) (w : World) (i : Nat) : ∀ (es : List MapEntry) (kv : List ((Nat × Nat) × Value)), es.map (fun e => (e.key, e.val)) = kv.map (fun y => (pK y.1, y.2)) →
    ∃ r, (Instr.findAsking 65 (pK x) es i).run Try.prog w = .ok r w ∧ r.map (·.2) = mGet kv x := by
  intro es
  induction es generalizing i with
  | nil =>
    intro kv h
    cases kv with
    | nil => exact ⟨none, rfl, rfl⟩
    | cons => cases h
  | cons e es ih =>
    intro kv h
    cases kv with
    | nil => cases h
    | cons y kv =>
      simp only [List.map_cons, List.cons.injEq, Prod.mk.injEq] at h
      obtain ⟨⟨h1, h2⟩, h3⟩ := h
      rw [Instr.findAsking]
      have he : (Op.equal 65 (pK x) e.key).run Try.prog w = .ok (y.1 == x) w := by
        rw [h1]
        unfold pK
        rw [pk_equal]
        congr 1
        obtain ⟨⟨y1, y2⟩, yv⟩ := y
        obtain ⟨x1, x2⟩ := x
        rw [Bool.eq_iff_iff]
        simp only [Bool.and_eq_true, beq_iff_eq, Prod.mk.injEq]
        omega
      simp only [Sem.run_bind, he, Result.andThen_ok]
      cases hb : y.1 == x
      · simp only [Bool.false_eq_true, if_false]
        obtain ⟨r, hr, hm⟩ := ih (i + 1) kv h3
        refine ⟨r, hr, ?_⟩
        rw [hm]
        unfold mGet
        rw [List.find?_cons, hb]
      · simp only [if_true]
        refine ⟨some (i, e.val), rfl, ?_⟩
        unfold mGet
        rw [List.find?_cons, hb, h2]
        rfl
theorem pk_key {x : Nat × Nat} {w : World} {es : List MapEntry} {kv : List ((Nat × Nat) × Value)} (h : es.map (fun e => (e.key, e.val)) = kv.map (fun y => (pK y.1, y.2))) :
    ∃ r, (Instr.findKey 65 (pK x) es).run Try.prog w = .ok r w ∧ r.map (·.2) = mGet kv x := by
  obtain ⟨r, hr, hm⟩ := pk_find x w 0 es kv h
  unfold Instr.findKey
  simp only [Sem.run_bind, run_underlying Try.underlying65, Result.andThen_ok]
  cases es with
  | nil =>
    cases kv with
    | nil => exact ⟨none, rfl, rfl⟩
    | cons => cases h
  | cons e es => exact ⟨r, hr, hm⟩
theorem pk_lookup {t e : TypeId} (ht : Try.prog.underlying t = some (.map 65 e)) {z : Value} {w : World} (hz : (zeroValue e).run Try.prog w = .ok z w) {b : Nat} {kv : List ((Nat × Nat) × Value)} (h : MapIs w b kv) (x : Nat × Nat) :
    (Instr.lookup t (.map (some b)) (pK x) false).run Try.prog w = .ok ((mGet kv x).getD z) w := by
  obtain ⟨es, clock, hb, hk⟩ := h
  obtain ⟨r, hr, hm⟩ := pk_key (x := x) (w := w) hk
  unfold Instr.lookup
  have hg : (getObj b).run Try.prog w = .ok (.map es clock) w := by
    simp [getObj, Sem.run, hb]
  simp only [Sem.run_bind, run_underlying ht, Result.andThen_ok, hg, Sem.run_pure]
  rw [show (Instr.checkKey es.isEmpty 10000 65 (pK x)).run Try.prog w = .ok () w from pk_check _ _ _ w]
  simp only [Result.andThen_ok, hr]
  cases r with
  | none =>
    simp only [Sem.run_bind, hz, Result.andThen_ok, Sem.run_pure]
    rw [← hm]; rfl
  | some q =>
    simp only []
    rw [← hm]; rfl
theorem pk_update {t e : TypeId} (ht : Try.prog.underlying t = some (.map 65 e)) {w : World} {b : Nat} {kv : List ((Nat × Nat) × Value)} (h : MapIs w b kv) {x : Nat × Nat} (hx : mGet kv x = none) (v : Value) :
    ∃ w', (Instr.mapUpdate t (.map (some b)) (pK x) v).run Try.prog w = .ok () w' ∧ MapIs w' b (kv ++ [(x, v)]) ∧ w.grownBy w' (some b) := by
  obtain ⟨es, clock, hb, hk⟩ := h
  obtain ⟨r, hr, hm⟩ := pk_key (x := x) (w := w) hk
  have hrn : r = none := by
    rw [hx] at hm
    cases r with
    | none => rfl
    | some q => cases hm
  subst hrn
  refine ⟨setBlock w b (.map (es.push { key := pK x, val := v, born := clock }) (clock + 1)), ?_, ⟨es.push { key := pK x, val := v, born := clock }, clock + 1, heap_setBlock_same hb _, ?_⟩, ⟨rfl, rfl, rfl, by simp [setBlock], fun i _ hi => heap_setBlock_other hb _ (fun e => hi (by rw [e]))⟩⟩
  · unfold Instr.mapUpdate
    have hg : (getObj b).run Try.prog w = .ok (.map es clock) w := by
      simp [getObj, Sem.run, hb]
    simp only [Sem.run_bind, run_underlying ht, Result.andThen_ok, hg]
    rw [show (Instr.checkKey false 10000 65 (pK x)).run Try.prog w = .ok () w from pk_check _ _ _ w]
    simp only [Result.andThen_ok, hr]
    simp [setObj, Sem.run, hb, setBlock]
  · rw [Array.toList_push, List.map_append, List.map_append, hk]
    rfl
theorem wpList_lookup_pair (w : World) {ops : Array Oper} {rest : List Oper} {o : Oper} {a : Act} {Q : Exit → Act → World → Prop}
    (hg : o.guard = none) (m x : Operand) (t : TypeId) (hop : o.op = Op.lookup t m x false) (e : TypeId) (ht : Try.prog.underlying t = some (.map 65 e)) (z : Value) (hz : (zeroValue e).run Try.prog w = .ok z w) (b : Nat) (kv : List ((Nat × Nat) × Value))
    (hm : a.eval m = .map (some b)) (hown : MapIs w b kv) (k : Nat × Nat) (hx : a.eval x = pK k) (v : Value) (hv : (mGet kv k).getD z = v)
    (hK : wpList Try.prog ops Q rest (a.put o.dst v) w) : wpList Try.prog ops Q (o :: rest) a w := by
  refine wpList_plain hg fun K' hK' => ?_
  have hrun := pk_lookup ht hz hown k
  rw [hv] at hrun
  unfold Oper.wp
  simp [execOp, hop, hm, hx, hrun, Result.andThen]
  exact hK' _ _ hK
theorem wpList_update_pair (w : World) {ops : Array Oper} {rest : List Oper} {o : Oper} {a : Act} {Q : Exit → Act → World → Prop}
    (hg : o.guard = none) (m x v : Operand) (t : TypeId) (hop : o.op = Op.mapUpdate t m x v) (e : TypeId) (ht : Try.prog.underlying t = some (.map 65 e)) (b : Nat) (kv : List ((Nat × Nat) × Value))
    (hm : a.eval m = .map (some b)) (hown : MapIs w b kv) (k : Nat × Nat) (hx : a.eval x = pK k) (u : Value) (hv : a.eval v = u) (hn : mGet kv k = none)
    (hK : ∀ w', MapIs w' b (kv ++ [(k, u)]) → w.grownBy w' (some b) → wpList Try.prog ops Q rest (a.put o.dst undef) w') : wpList Try.prog ops Q (o :: rest) a w := by
  refine wpList_plain hg fun K' hK' => ?_
  obtain ⟨w', hrun, r1, r2⟩ := pk_update ht hown hn u
  unfold Oper.wp
  simp [execOp, hop, hm, hx, hv, hrun, Result.andThen]
  exact hK' _ _ (hK w' r1 r2)
/-- an entry more -/
theorem Mem.put {w0 w w' : World} {l : List (Ch w0.heap.size)} (h : Mem w0 l w) (i : Nat) {b : Nat} {kv kv' : List ((Nat × Nat) × Value)} (hi : l[i]? = some (cM w0.heap.size b kv)) (hm : MapIs w' b kv') (hg : w.grownBy w' (some b)) : Mem w0 (l.set i (cM w0.heap.size b kv')) w' :=
  h.step i hi hg (fun g e => by injection e with e; exact e.symm) ⟨(h.get i hi).1, hm⟩ (fun g e => .inl e)
theorem Mem.newMap {w0 w : World} {l : List (Ch w0.heap.size)} (h : Mem w0 l w) : Mem w0 (cM w0.heap.size w.heap.size [] :: l) (w.alloc (.map #[] 0)) :=
  h.push (galloc _ _) ⟨h.size, MapIs.made w⟩ (fun _g e => Nat.le_of_eq (Eq.symm e))
end Go.Proofs.Ytbilciiffecdgaa
