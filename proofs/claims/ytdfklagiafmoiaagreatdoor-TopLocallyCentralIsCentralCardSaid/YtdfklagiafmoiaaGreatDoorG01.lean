/- Expressions as trees: their terms in prefix order, types, levels. No program in sight. -/
import Derived.Test.YtdfklagiafmoiaaGreatDoorProg
namespace Go.Proofs.YtdfklagiafmoiaaGreatDoor

abbrev Tm := Int × Int
inductive Ex where
  | z (t : Tm)
  | u (t : Tm) (a : Ex)
  | b (t : Tm) (a c : Ex)
  | i (t : Tm) (a c d : Ex)

def ar (op : Int) : Int := if op < 1 ∨ 43 < op then -1 else if op ≤ 17 then 0 else if op ≤ 29 then 1 else if op ≤ 42 then 2 else 3
def agg (op : Int) : Bool := decide (20 ≤ op ∧ op ≤ 29)
def near (op : Int) : Bool := decide (11 ≤ op ∧ op ≤ 17)
/-- may a term have this argument -/
def argOk (vars : Int) (t : Tm) : Bool := if t.1 = 1 then decide (0 ≤ t.2 ∧ t.2 ≤ 1073741824) else if t.1 = 5 ∨ t.1 = 12 then decide (0 ≤ t.2 ∧ t.2 < vars) else decide (t.2 = 0)

/-- how many terms so many expressions take -/
def fin : Nat → List Tm → Option Nat
  | _, [] => none
  | m, t :: l => if ar t.1 < 0 then none else if m + (ar t.1).toNat = 1 then some 1 else (fin (m + (ar t.1).toNat - 1) l).map (· + 1)

namespace Ex
def flat : Ex → List Tm
  | z t => [t]
  | u t a => t :: a.flat
  | b t a c => t :: (a.flat ++ c.flat)
  | i t a c d => t :: (a.flat ++ (c.flat ++ d.flat))
/-- each term has its number of operands -/
def ok : Ex → Prop
  | z t => ar t.1 = 0
  | u t a => ar t.1 = 1 ∧ a.ok
  | b t a c => ar t.1 = 2 ∧ a.ok ∧ c.ok
  | i t a c d => ar t.1 = 3 ∧ a.ok ∧ c.ok ∧ d.ok
theorem flat_pos (t : Ex) : 0 < t.flat.length := by cases t <;> simp [flat]

/-- a number that is reckoned from the leaves on -/
def lev (f : Int → Int → Int) : Ex → Int
  | z t => f t.1 0
  | u t a => f t.1 (max 0 (a.lev f))
  | b t a c => f t.1 (max (max 0 (c.lev f)) (a.lev f))
  | i t a c d => f t.1 (max (max (max 0 (d.lev f)) (c.lev f)) (a.lev f))
def dep : Ex → Nat
  | z _ => 1
  | u _ a => a.dep + 1
  | b _ a c => max a.dep c.dep + 1
  | i _ a c d => max a.dep (max c.dep d.dep) + 1
def nst : Ex → Nat
  | z t => (if agg t.1 then 1 else 0)
  | u t a => a.nst + (if agg t.1 then 1 else 0)
  | b t a c => max a.nst c.nst + (if agg t.1 then 1 else 0)
  | i t a c d => max a.nst (max c.nst d.nst) + (if agg t.1 then 1 else 0)
end Ex

def fDep (_op g : Int) : Int := g + 1
def fNst (op g : Int) : Int := if agg op then g + 1 else g
theorem lev_dep (t : Ex) : t.lev fDep = t.dep := by
  induction t <;> simp only [Ex.lev, Ex.dep, fDep, *] <;> omega
theorem lev_nst (t : Ex) : t.lev fNst = t.nst := by
  induction t <;> simp only [Ex.lev, Ex.nst, fNst, *] <;> split <;> omega

theorem ar_cases (op : Int) : ar op < 0 ∨ ar op = 0 ∨ ar op = 1 ∨ ar op = 2 ∨ ar op = 3 := by
  unfold ar; split
  · left; omega
  · split
    · right; left; rfl
    · split
      · right; right; left; rfl
      · split <;> simp

theorem fin_forest (l : List Tm) : ∀ (m k : Nat), 1 ≤ m → fin m l = some k → ∃ ts : List Ex, ts.length = m ∧ (∀ t ∈ ts, t.ok) ∧ ts.flatMap Ex.flat = l.take k ∧ k ≤ l.length := by
  induction l with
  | nil => intro m k _ h; simp [fin] at h
  | cons t l ih =>
    intro m k hm h
    unfold fin at h
    by_cases ha : ar t.1 < 0
    · rw [if_pos ha] at h; cases h
    rw [if_neg ha] at h
    by_cases h1 : m + (ar t.1).toNat = 1
    · rw [if_pos h1] at h
      injection h with h
      subst h
      have e : ar t.1 = 0 := by omega
      refine ⟨[.z t], by simp; omega, fun x hx => ?_, by simp [Ex.flat], by simp⟩
      obtain rfl : x = .z t := by simpa using hx
      exact e
    · rw [if_neg h1] at h
      obtain ⟨k', hk', rfl⟩ := Option.map_eq_some_iff.1 h
      obtain ⟨ts, hl, hok, hf, hle⟩ := ih _ _ (by omega) hk'
      have fin_ : ∀ (x : Ex) (r : List Ex), r.length + 1 = m → x.ok → (∀ t ∈ r, t.ok) → x.flat ++ r.flatMap Ex.flat = t :: ts.flatMap Ex.flat →
          ∃ ts : List Ex, ts.length = m ∧ (∀ t ∈ ts, t.ok) ∧ ts.flatMap Ex.flat = (t :: l).take (k' + 1) ∧ k' + 1 ≤ (t :: l).length := by
        intro x r hr hx hro hfl
        refine ⟨x :: r, by simp [hr], fun y hy => ?_, by simp [hfl, hf], by simp; omega⟩
        rcases List.mem_cons.1 hy with rfl | hy
        · exact hx
        · exact hro y hy
      rcases ar_cases t.1 with e | e | e | e | e
      · omega
      · exact fin_ (.z t) ts (by rw [e] at hl; simp at hl; omega) e hok (by simp [Ex.flat])
      · rw [e] at hl
        match ts, hl with
        | a :: r, hl => exact fin_ (.u t a) r (by simp at hl; omega) ⟨e, hok a (by simp)⟩ (fun y hy => hok y (by simp [hy])) (by simp [Ex.flat])
        | [], hl => simp at hl; omega
      · rw [e] at hl
        match ts, hl with
        | a :: c :: r, hl => exact fin_ (.b t a c) r (by simp at hl; omega) ⟨e, hok a (by simp), hok c (by simp)⟩ (fun y hy => hok y (by simp [hy])) (by simp [Ex.flat])
        | [_], hl => simp at hl; omega
        | [], hl => simp at hl
      · rw [e] at hl
        match ts, hl with
        | a :: c :: d :: r, hl => exact fin_ (.i t a c d) r (by simp at hl; omega) ⟨e, hok a (by simp), hok c (by simp), hok d (by simp)⟩ (fun y hy => hok y (by simp [hy])) (by simp [Ex.flat])
        | [_, _], hl => simp at hl; omega
        | [_], hl => simp at hl
        | [], hl => simp at hl

theorem fin_flat (t : Ex) : ∀ (m : Nat) (r : List Tm), t.ok → 1 ≤ m → fin m (t.flat ++ r) = if m = 1 then some t.flat.length else (fin (m - 1) r).map (· + t.flat.length) := by
  induction t with
  | z t =>
    intro m r h hm
    have h : ar t.1 = 0 := h
    simp only [Ex.flat, List.cons_append, List.nil_append, fin, h]
    rw [if_neg (by omega)]
    simp only [Int.toNat_zero, Nat.add_zero, List.length_cons, List.length_nil]
  | u t a iha =>
    intro m r h hm
    obtain ⟨h, ha⟩ := h
    simp only [Ex.flat, List.cons_append, fin, h]
    rw [if_neg (by omega), if_neg (by simp; omega), show m + (1 : Int).toNat - 1 = m by simp, iha m r ha hm]
    by_cases h1 : m = 1
    · simp [h1]
    · simp only [h1, if_false, Option.map_map, List.length_cons]
      rfl
  | b t a c iha ihc =>
    intro m r h hm
    obtain ⟨h, ha, hc⟩ := h
    simp only [Ex.flat, List.cons_append, List.append_assoc, fin, h]
    rw [if_neg (by omega), if_neg (by simp), show m + (2 : Int).toNat - 1 = m + 1 by simp, iha (m + 1) _ ha (by omega), if_neg (by omega), Nat.add_sub_cancel, ihc m r hc hm]
    by_cases h1 : m = 1
    · simp [h1]; omega
    · simp only [h1, if_false, Option.map_map, List.length_cons, List.length_append]
      congr 1
      funext x
      simp only [Function.comp]
      omega
  | i t a c d iha ihc ihd =>
    intro m r h hm
    obtain ⟨h, ha, hc, hd⟩ := h
    simp only [Ex.flat, List.cons_append, List.append_assoc, fin, h]
    rw [if_neg (by omega), if_neg (by simp), show m + (3 : Int).toNat - 1 = m + 2 by simp, iha (m + 2) _ ha (by omega), if_neg (by omega), show m + 2 - 1 = m + 1 by omega, ihc (m + 1) _ hc (by omega), if_neg (by omega), Nat.add_sub_cancel, ihd m r hd hm]
    by_cases h1 : m = 1
    · simp [h1]; omega
    · simp only [h1, if_false, Option.map_map, List.length_cons, List.length_append]
      congr 1
      funext x
      simp only [Function.comp]
      omega
theorem fin_one (t : Ex) (r : List Tm) (h : t.ok) : fin 1 (t.flat ++ r) = some t.flat.length := by rw [fin_flat t 1 r h (Nat.le_refl _), if_pos rfl]
/-- a list that is one expression is a tree's -/
theorem fin_whole {l : List Tm} (h : fin 1 l = some l.length) : ∃ t : Ex, t.ok ∧ t.flat = l := by
  obtain ⟨ts, hl, hok, hf, _⟩ := fin_forest l 1 _ (Nat.le_refl _) h
  match ts, hl with
  | [t], _ => exact ⟨t, hok t (by simp), by simpa using hf⟩

/-- what 'End' answers at a place -/
def endAt (l : List Tm) (k : Nat) : Int := match fin 1 (l.drop k) with | some j => k + j | none => -1
theorem endAt_tree {l r : List Tm} {k : Nat} {t : Ex} (h : l.drop k = t.flat ++ r) (ht : t.ok) : endAt l k = k + t.flat.length := by
  unfold endAt; rw [h, fin_one t r ht]
theorem endAt_zero {l : List Tm} (h : endAt l 0 = l.length) : ∃ t : Ex, t.ok ∧ t.flat = l := by
  unfold endAt at h
  rw [List.drop_zero] at h
  cases e : fin 1 l with
  | none => rw [e] at h; simp at h
  | some j =>
    rw [e] at h
    simp at h
    exact fin_whole (by rw [e]; exact congrArg some (by omega))
end Go.Proofs.YtdfklagiafmoiaaGreatDoor
