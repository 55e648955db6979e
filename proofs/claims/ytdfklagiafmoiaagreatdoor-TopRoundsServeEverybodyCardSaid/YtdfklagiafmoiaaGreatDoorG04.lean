/- Lemmas of this seat, laid together out of 3 texts: no statement of the seat is proved here. -/
import Derived.Test.YtdfklagiafmoiaaGreatDoorG01
import Derived.RowKit
/- The levels of an expression, counted from the left by the open terms, and from the right by a stack. No program in sight. -/
namespace Go.Proofs.YtdfklagiafmoiaaGreatDoor

abbrev Op1 := Int × Bool
abbrev wr64 (z : Int) : Int := RowKit.wrap64 z
/-- the open terms behind a complete one (the innermost first) -/
def settle (a : Int) (o : Bool) (L : List Op1) : List Op1 :=
  if a = 0 then (match L with | [] => [] | (b, q) :: M => settle (wr64 (b - 1)) q M) else (a, o) :: L
def settleT : List Op1 → List Op1
  | [] => []
  | (b, q) :: M => settle (wr64 (b - 1)) q M
theorem settle_zero (o : Bool) (L : List Op1) : settle 0 o L = settleT L := by unfold settle settleT; rw [if_pos rfl]
theorem settle_else {a : Int} (h : a ≠ 0) (o : Bool) (L : List Op1) : settle a o L = (a, o) :: L := by unfold settle; rw [if_neg h]
def cntT (l : List Op1) : Nat := (l.filter (·.2)).length
structure Lv where
  L : List Op1
  d : Nat
  n : Nat
def lvStep (s : Lv) (t : Tm) : Lv := ⟨settle (ar t.1) (agg t.1) s.L, max s.d (s.L.length + 1), max s.n (cntT ((ar t.1, agg t.1) :: s.L))⟩
theorem cnt_cons (x : Op1) (L : List Op1) : cntT (x :: L) = cntT L + if x.2 then 1 else 0 := by
  unfold cntT
  cases h : x.2 <;> simp [h]
theorem lv_tree (t : Ex) (ht : t.ok) : ∀ s : Lv, t.flat.foldl lvStep s = ⟨settleT s.L, max s.d (s.L.length + t.dep), max s.n (cntT s.L + t.nst)⟩ := by
  induction t with
  | z t =>
    intro s
    have ht : ar t.1 = 0 := ht
    simp only [Ex.flat, List.foldl_cons, List.foldl_nil, lvStep, ht, settle_zero, cnt_cons, Ex.dep, Ex.nst]
  | u t a iha =>
    intro s
    obtain ⟨h, ha⟩ := ht
    simp only [Ex.flat, List.foldl_cons, lvStep, h, settle_else (show (1 : Int) ≠ 0 by decide), cnt_cons, iha ha, Ex.dep, Ex.nst, List.length_cons, settleT]
    rw [show wr64 (1 - 1) = 0 by decide +kernel, settle_zero]
    congr 1 <;> omega
  | b t a c iha ihc =>
    intro s
    obtain ⟨h, ha, hc⟩ := ht
    simp only [Ex.flat, List.foldl_cons, List.foldl_append, lvStep, h, settle_else (show (2 : Int) ≠ 0 by decide), cnt_cons, iha ha, ihc hc, Ex.dep, Ex.nst, List.length_cons, settleT]
    rw [show wr64 (2 - 1) = 1 by decide +kernel, settle_else (show (1 : Int) ≠ 0 by decide)]
    simp only [List.length_cons, cnt_cons]
    rw [show wr64 (1 - 1) = 0 by decide +kernel, settle_zero]
    congr 1 <;> omega
  | i t a c d iha ihc ihd =>
    intro s
    obtain ⟨h, ha, hc, hd⟩ := ht
    simp only [Ex.flat, List.foldl_cons, List.foldl_append, lvStep, h, settle_else (show (3 : Int) ≠ 0 by decide), cnt_cons, iha ha, ihc hc, ihd hd, Ex.dep, Ex.nst, List.length_cons, settleT]
    rw [show wr64 (3 - 1) = 2 by decide +kernel, settle_else (show (2 : Int) ≠ 0 by decide)]
    simp only [List.length_cons, cnt_cons]
    rw [show wr64 (2 - 1) = 1 by decide +kernel, settle_else (show (1 : Int) ≠ 0 by decide)]
    simp only [List.length_cons, cnt_cons]
    rw [show wr64 (1 - 1) = 0 by decide +kernel, settle_zero]
    congr 1 <;> omega
theorem lv_whole (t : Ex) (ht : t.ok) : t.flat.foldl lvStep ⟨[], 0, 0⟩ = ⟨[], t.dep, t.nst⟩ := by
  rw [lv_tree t ht]
  simp [settleT, cntT]

/-- the stack behind a list read from the right -/
def gmax (l : List Int) : Int := l.foldl max 0
def rstep (f : Int → Int → Int) (t : Tm) (S : List Int) : List Int := f t.1 (gmax (S.take (ar t.1).toNat)) :: S.drop (ar t.1).toNat
theorem rs_tree (f : Int → Int → Int) (t : Ex) (ht : t.ok) : ∀ S : List Int, t.flat.foldr (rstep f) S = t.lev (fun op g => f op g) :: S := by
  induction t with
  | z t =>
    intro S
    have ht : ar t.1 = 0 := ht
    simp [Ex.flat, rstep, ht, Ex.lev, gmax]
  | u t a iha =>
    intro S
    obtain ⟨h, ha⟩ := ht
    simp [Ex.flat, rstep, h, Ex.lev, gmax, iha ha]
  | b t a c iha ihc =>
    intro S
    obtain ⟨h, ha, hc⟩ := ht
    simp only [Ex.flat, List.foldr_cons, List.foldr_append, iha ha, ihc hc, rstep, h]
    simp [Ex.lev, gmax]
    congr 1; omega
  | i t a c d iha ihc ihd =>
    intro S
    obtain ⟨h, ha, hc, hd⟩ := ht
    simp only [Ex.flat, List.foldr_cons, List.foldr_append, iha ha, ihc hc, ihd hd, rstep, h]
    simp [Ex.lev, gmax]
    congr 1; omega
end Go.Proofs.YtdfklagiafmoiaaGreatDoor

/- The stack of a list read from the right: how long it is, its greatest. No program in sight. -/
namespace Go.Proofs.YtdfklagiafmoiaaGreatDoor

def sl : List Tm → Option Nat
  | [] => some 0
  | t :: l => match sl l with | some m => if ar t.1 < 0 ∨ m < (ar t.1).toNat then none else some (m - (ar t.1).toNat + 1) | none => none
theorem sl_tree (t : Ex) (ht : t.ok) : ∀ r : List Tm, sl (t.flat ++ r) = (sl r).map (· + 1) := by
  induction t with
  | z t =>
    intro r
    have ht : ar t.1 = 0 := ht
    simp only [Ex.flat, List.cons_append, List.nil_append, sl, ht]
    cases sl r <;> simp
  | u t a iha =>
    intro r
    obtain ⟨h, ha⟩ := ht
    simp only [Ex.flat, List.cons_append, sl, h, iha ha]
    cases sl r <;> simp
  | b t a c iha ihc =>
    intro r
    obtain ⟨h, ha, hc⟩ := ht
    simp only [Ex.flat, List.cons_append, List.append_assoc, sl, h, iha ha, ihc hc]
    cases sl r <;> simp
  | i t a c d iha ihc ihd =>
    intro r
    obtain ⟨h, ha, hc, hd⟩ := ht
    simp only [Ex.flat, List.cons_append, List.append_assoc, sl, h, iha ha, ihc hc, ihd hd]
    cases sl r <;> simp
theorem sl_drop (l : List Tm) : ∀ n, sl l = some n → ∀ k (h : k < l.length), ∃ m, sl (l.drop (k + 1)) = some m ∧ 0 ≤ ar l[k].1 ∧ (ar l[k].1).toNat ≤ m := by
  induction l with
  | nil => intro n _ k h; simp at h
  | cons t l ih =>
    intro n hn k h
    unfold sl at hn
    cases hm : sl l with
    | none => rw [hm] at hn; cases hn
    | some m =>
      rw [hm] at hn
      dsimp only at hn
      split at hn
      · cases hn
      · rcases k with _ | k
        · exact ⟨m, by simpa using hm, by simp; omega, by simp; omega⟩
        · have := ih m hm k (by simpa using h)
          simpa using this
theorem sl_len (f : Int → Int → Int) (l : List Tm) : ∀ n, sl l = some n → (l.foldr (rstep f) []).length = n := by
  induction l with
  | nil => intro n h; simp [sl] at h; simp [h]
  | cons t l ih =>
    intro n hn
    unfold sl at hn
    cases hm : sl l with
    | none => rw [hm] at hn; cases hn
    | some m =>
      rw [hm] at hn
      dsimp only at hn
      split at hn
      · cases hn
      · injection hn with hn
        have := ih m hm
        show (f t.1 _ :: (l.foldr (rstep f) []).drop (ar t.1).toNat).length = n
        rw [List.length_cons, List.length_drop, this, hn]
/-- the terms of an expression find their operands on the stack -/
theorem tree_stack (f : Int → Int → Int) {t : Ex} (ht : t.ok) {k : Nat} (h : k < t.flat.length) : 0 ≤ ar t.flat[k].1 ∧ (ar t.flat[k].1).toNat ≤ ((t.flat.drop (k + 1)).foldr (rstep f) []).length := by
  have h1 : sl t.flat = some 1 := by have := sl_tree t ht []; simpa [sl] using this
  obtain ⟨m, hm, h2, h3⟩ := sl_drop t.flat 1 h1 k h
  rw [sl_len f _ m hm]
  exact ⟨h2, h3⟩

theorem foldl_max (l : List Int) : ∀ a b : Int, l.foldl max (max a b) = max a (l.foldl max b) := by
  induction l with
  | nil => intro a b; rfl
  | cons x l ih => intro a b; rw [List.foldl_cons, List.foldl_cons, show max (max a b) x = max a (max b x) by omega, ih]
theorem gmax_rev (l : List Int) : gmax l.reverse = gmax l := by
  induction l with
  | nil => rfl
  | cons x l ih =>
    unfold gmax at *
    rw [List.reverse_cons, List.foldl_append, ih, List.foldl_cons, List.foldl_cons, List.foldl_nil, show max (0 : Int) x = max x 0 by omega, foldl_max]
    omega
def fDepW (_op g : Int) : Int := wr64 (g + 1)
def fNstW (op g : Int) : Int := if agg op then wr64 (g + 1) else g
theorem wr_in {z : Int} (h0 : -9223372036854775808 ≤ z) (h1 : z ≤ 9223372036854775807) : wr64 z = z := by unfold wr64 RowKit.wrap64; omega
theorem lev_depW (t : Ex) : t.dep ≤ 1000000 → t.lev fDepW = t.dep := by
  induction t with
  | z t => intro _; simp [Ex.lev, fDepW, Ex.dep]; decide
  | u t a iha =>
    intro h
    simp only [Ex.dep] at h
    simp only [Ex.lev, fDepW, Ex.dep, iha (by omega)]
    rw [wr_in (by omega) (by omega)]; omega
  | b t a c iha ihc =>
    intro h
    simp only [Ex.dep] at h
    simp only [Ex.lev, fDepW, Ex.dep, iha (by omega), ihc (by omega)]
    rw [wr_in (by omega) (by omega)]; omega
  | i t a c d iha ihc ihd =>
    intro h
    simp only [Ex.dep] at h
    simp only [Ex.lev, fDepW, Ex.dep, iha (by omega), ihc (by omega), ihd (by omega)]
    rw [wr_in (by omega) (by omega)]; omega
theorem lev_nstW (t : Ex) : t.nst ≤ 1000000 → t.lev fNstW = t.nst := by
  induction t with
  | z t => intro _; simp only [Ex.lev, fNstW, Ex.nst]; split <;> decide
  | u t a iha =>
    intro h
    simp only [Ex.nst] at h
    simp only [Ex.lev, fNstW, Ex.nst, iha (by omega)]
    split
    · rw [wr_in (by omega) (by omega)]; omega
    · omega
  | b t a c iha ihc =>
    intro h
    simp only [Ex.nst] at h
    simp only [Ex.lev, fNstW, Ex.nst, iha (by omega), ihc (by omega)]
    split
    · rw [wr_in (by omega) (by omega)]; omega
    · omega
  | i t a c d iha ihc ihd =>
    intro h
    simp only [Ex.nst] at h
    simp only [Ex.lev, fNstW, Ex.nst, iha (by omega), ihc (by omega), ihd (by omega)]
    split
    · rw [wr_in (by omega) (by omega)]; omega
    · omega
end Go.Proofs.YtdfklagiafmoiaaGreatDoor

/- Types of expressions. No program in sight. -/
namespace Go.Proofs.YtdfklagiafmoiaaGreatDoor

def leafTy0 (k : Int) (op : Int) : Int :=
  if op = 2 ∨ op = 3 ∨ op = 10 ∨ op = 15 then 2 else if op = 4 ∨ op = 11 ∨ op = 17 then 3 else if op = 5 ∨ op = 12 then k else 1
def leafTy (ks : List Int) (bd : Bool) (t : Tm) : Int := if bd = false ∧ (t.1 = 11 ∨ 12 ≤ t.1) then 0 else leafTy0 (ks.getD t.2.toNat 0) t.1
def wants (op : Int) : Int := if op = 19 ∨ op = 20 ∨ op = 21 ∨ op = 22 ∨ op = 23 then 2 else 1
def gives (op : Int) : Int := if op = 19 ∨ op = 20 ∨ op = 21 then 2 else if op = 23 then 3 else 1
def single (op a : Int) : Int := if a = wants op then gives op else 0
def double (op a b : Int) : Int :=
  if op = 35 ∨ op = 36 then (if a ≠ b ∨ a = 0 then 0 else 2) else if op = 41 ∨ op = 42 then (if a ≠ 2 ∨ b ≠ 2 then 0 else 2) else if a ≠ 1 ∨ b ≠ 1 then 0 else if 37 ≤ op ∧ op ≤ 40 then 2 else 1
def triple (c a b : Int) : Int := if c ≠ 2 ∨ a ≠ b then 0 else a
def Ex.ty (ks : List Int) : Bool → Ex → Int
  | bd, .z t => leafTy ks bd t
  | bd, .u t a => single t.1 (a.ty ks (bd || agg t.1))
  | bd, .b t a c => double t.1 (a.ty ks bd) (c.ty ks bd)
  | bd, .i _ a c d => triple (a.ty ks bd) (c.ty ks bd) (d.ty ks bd)
end Go.Proofs.YtdfklagiafmoiaaGreatDoor
