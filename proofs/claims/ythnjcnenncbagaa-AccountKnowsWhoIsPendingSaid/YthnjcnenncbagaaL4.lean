/- The walk of run, the execution that laws 3 and 4 look at. -/
import Derived.Test.YthnjcnenncbagaaL1
import Derived.Test.YthnjcnenncbagaaPl4
import Derived.Deep.RegionLaw
import Derived.Deep.DeepCutAuto
namespace Go.Proofs.Ythnjcnenncbagaa
open Go.RowKit

def U (z : Nat) : Value := .int .u32 (z : Int)
/-- a slice value that reads as a list of sets -/
def Sets (w : World) (v : Value) (C : List Nat) : Prop := ∃ (A : Option Addr) (c : Nat), v = .slice A C.length c ∧ Reads w w.heap.size 1 A C.length (C.map U)
def CntOf (C E : List Nat) (M : Int) : Value := cnt C.length M (Pl3.acc C E C.length).1 (Pl3.acc C E C.length).2.1 (Pl3.acc C E C.length).2.2
def RunPost (w : World) (n : Nat) (e : Ending) (w' : World) : Prop :=
  ∃ (C E : List Nat) (v1 v2 : Value) (M : Int), C.length ≤ n ∧ E.length = C.length + 1 ∧ (∀ i, C.getD i 0 < 16777216) ∧ (∀ i, E.getD i 0 < 16777216) ∧
    e = .returned (.tuple #[v1, v2, CntOf C E M, .bool true]) ∧ Sets w' v1 C ∧ Sets w' v2 E ∧ Below w.heap.size w w'

theorem below_alloc {W0 x : World} (h : Below W0.heap.size W0 x) (o : Obj) : Below W0.heap.size W0 (x.alloc o) := h.alloc h.size o

theorem below_set5 {W0 x : World} {v0 v1 v2 v3 v4 : Value} (h : Below W0.heap.size W0 x) :
    Below W0.heap.size W0 (((((x.setCell ⟨W0.heap.size, 0, none⟩ v0).setCell ⟨W0.heap.size, 1, none⟩ v1).setCell ⟨W0.heap.size, 2, none⟩ v2).setCell ⟨W0.heap.size, 3, none⟩ v3).setCell ⟨W0.heap.size, 4, none⟩ v4) :=
  ((((h.setCell (Nat.le_refl _) _).setCell (Nat.le_refl _) _).setCell (Nat.le_refl _) _).setCell (Nat.le_refl _) _).setCell (Nat.le_refl _) _

theorem run_step (C E : List Nat) (c e : Nat) (M : Int) (hl : E.length = C.length + 1) (hE : ∀ i, E.getD i 0 < 16777216) (hc0 : 0 < c) (hc : c < 16777216) (he : e < 16777216) (hn : C.length < 4096)
    (hM1 : (C.length : Int) ≤ M) (hM2 : M ≤ 24 * (C.length : Int)) :
    addV C.length M (Pl3.acc C E C.length).1 (Pl3.acc C E C.length).2.1 (Pl3.acc C E C.length).2.2 c e = .tuple #[CntOf (C ++ [c]) (E ++ [e]) (M + Pl.pop c), .int .i64 0] ∧
      ((C.length : Int) + 1 ≤ M + Pl.pop c) ∧ M + Pl.pop c ≤ 24 * ((C.length : Int) + 1) := by
  obtain ⟨h1, h2, h3, h4⟩ := Pl4.acc_bounds C E hE C.length
  have hp := Pl.pop_le24 c hc
  have hp' := Pl.pop_pos c (by omega) (by omega)
  refine ⟨?_, by omega, by omega⟩
  have hv : Pl.valid C.length M (Pl3.acc C E C.length).1 (Pl3.acc C E C.length).2.1 (Pl3.acc C E C.length).2.2 = true := decide_eq_true (by omega)
  have ha := Pl4.acc_succ C E c e hl
  have e1 : (C ++ [c]).length = C.length + 1 := by simp
  unfold CntOf
  rw [e1, ha]
  unfold addV
  rw [if_neg (by rw [hv]; decide), if_neg (by omega), if_neg (by omega)]
  split
  · simp
  · simp

/-- what holds at the head of the loop of run -/
def RunRel (w : World) (n g0 g : Nat) (en ch i : Value) (wr : World) : Prop :=
  ∃ (k : Nat) (C E : List Nat) (M : Int), k ≤ n ∧ C.length ≤ k ∧ E.length = C.length + 1 ∧ (∀ i, C.getD i 0 < 16777216) ∧ (∀ i, E.getD i 0 < 16777216) ∧ (C.length : Int) ≤ M ∧ M ≤ 24 * (C.length : Int) ∧
    i = .int .i64 k ∧ wr.ownsRow w.heap.size 22 1 en E.length (E.map U) ∧ wr.ownsRow w.heap.size 22 1 ch C.length (C.map U) ∧ (ch.ownBlock = none ∨ ch.ownBlock ≠ en.ownBlock) ∧
    Blk wr g 24 #[.int .i64 C.length, .int .i64 M, .int .i64 (Pl3.acc C E C.length).1, .int .i64 (Pl3.acc C E C.length).2.1, .int .u32 (Pl3.acc C E C.length).2.2] ∧
    Blk wr g0 24 #[.int .i64 0, .int .i64 0, .int .i64 0, .int .i64 0, .int .u32 0] ∧ Below w.heap.size w wr

theorem own_one (w : World) (base : Nat) (x : Nat) (h : base ≤ w.heap.size) : (w.alloc (.cells #[U x] 22)).ownsRow base 22 1 (.slice (some ⟨w.heap.size, 0, none⟩) 1 1) 1 [U x] :=
  ⟨rfl, .inr ⟨w.heap.size, 1, #[U x], rfl, h, heap_alloc_new w _, Nat.le_refl _, by unfold maxLen; omega, rfl, rfl⟩⟩

theorem stage_len {w : World} {B n k : Nat} {A : Option Addr} {zs : List (Nat × Nat)} (h : Reads w B 2 A n (zs.flatMap fun z => [U z.1, U z.2])) (hk : k < n) : k < zs.length := by
  have h1 := h.1
  have : (zs.flatMap fun z => [U z.1, U z.2]).length = zs.length * 2 := by
    clear h h1
    induction zs with
    | nil => rfl
    | cons x l ih => simp only [List.flatMap_cons, List.length_append, ih, List.length_cons, List.length_nil]; omega
  omega
theorem stage_get (l : List (Nat × Nat)) (k : Nat) (h : k < l.length) : (l.flatMap fun z => [U z.1, U z.2])[k * 2]? = some (U l[k].1) ∧ (l.flatMap fun z => [U z.1, U z.2])[k * 2 + 1]? = some (U l[k].2) := by
  induction l generalizing k with
  | nil => simp at h
  | cons x l ih =>
    rcases k with _ | k
    · simp
    · have := ih k (by simpa using h)
      have e : (k + 1) * 2 = k * 2 + 1 + 1 := by omega
      rw [e]
      simpa using this
theorem stage_at {w : World} {B n k : Nat} {A : Option Addr} {zs : List (Nat × Nat)} (h : Reads w B 2 A n (zs.flatMap fun z => [U z.1, U z.2])) (hk : k < n) :
    ∃ ad, A = some ad ∧ ad.block < B ∧ w.cell? (ad.add (k * 2)) = some (U (zs[k]'(stage_len h hk)).1) ∧ w.cell? ⟨(ad.add (k * 2)).block, (ad.add (k * 2)).off + 1, none⟩ = some (U (zs[k]'(stage_len h hk)).2) := by
  obtain ⟨ad, e, hb, hc⟩ := h.2 (by omega)
  obtain ⟨h1, h2⟩ := stage_get zs k (stage_len h hk)
  refine ⟨ad, e, hb, hc _ _ h1, ?_⟩
  have h3 := hc _ _ h2
  rw [← add_of_add] at h3
  exact h3
theorem only_setCell {a w : World} {g : Nat} (h : a.grownBy w (some g)) (i : Nat) (u : Value) : a.grownBy (w.setCell ⟨g, i, none⟩ u) (some g) :=
  ⟨h.os, h.tape, h.output, by simpa [World.setCell] using h.size, fun j hj hne => (Below.heap_setCell w ⟨g, i, none⟩ u j (by
    rintro rfl
    exact hne rfl)).trans (h.block j hj hne)⟩
theorem own_set5 {w : World} {base e size : Nat} {v : Value} {n : Nat} {xs : List Value} {g t : Nat} {cs : Array Value} (h : w.ownsRow base e size v n xs) (hb : Blk w g t cs) (hne : e ≠ t) (v0 v1 v2 v3 v4 : Value) :
    (((((w.setCell ⟨g, 0, none⟩ v0).setCell ⟨g, 1, none⟩ v1).setCell ⟨g, 2, none⟩ v2).setCell ⟨g, 3, none⟩ v3).setCell ⟨g, 4, none⟩ v4).ownsRow base e size v n xs :=
  h.kept (only_setCell (only_setCell (only_setCell (only_setCell (only_setCell (World.grownBy.refl w (some g)) 0 v0) 1 v1) 2 v2) 3 v3) 4 v4) (.inr (own_blk_ne h hb hne))
theorem reads_new (w : World) (t : TypeId) (u : Value) : Reads (w.alloc (.cells #[u] t)) (w.heap.size + 1) 1 (some ⟨w.heap.size, 0, none⟩) 1 [u] :=
  ⟨rfl, fun _ => ⟨_, rfl, Nat.lt_succ_self _, fun j x hx => by
    rcases j with _ | j
    · simp only [List.getElem?_cons_zero, Option.some.injEq] at hx
      subst hx
      exact (Blk.new w t #[u]).cell 0
    · simp at hx⟩⟩
theorem one_U (z : Nat) : ∀ u ∈ [U z], u.oneCell' = true := by simp [U, Value.oneCell']
theorem lenOk {n : Nat} (h : n ≤ 1000) : n ≤ maxLen := by unfold maxLen; omega
theorem app_keep {w W x1 : World} {N e : Nat} {o : Obj} {v9 v8 : Value} {n9 n8 : Nat} {x9 x8 : List Value} (hB : Below N w W) (hs : N ≤ W.heap.size) (o9 : W.ownsRow N e 1 v9 n9 x9) (o8 : W.ownsRow N e 1 v8 n8 x8)
    (hne : v9.ownBlock = none ∨ v9.ownBlock ≠ v8.ownBlock) (hg : (W.alloc o).grownBy x1 v9.ownBlock) :
    Below N w x1 ∧ x1.ownsRow N e 1 v8 n8 x8 ∧ (∀ g t cs, Blk W g t cs → e ≠ t → Blk x1 g t cs) ∧ W.heap.size < x1.heap.size := by
  refine ⟨(hB.alloc hs o).grown hg (by simp; omega) (fun k hk => (o9.lt k hk).1), (o8.alloc o).kept hg ?_, fun g t cs hb ht => (hb.alloc o).grown hg (fun h => own_blk_ne o9 hb ht h.symm), ?_⟩
  · cases h8 : v8.ownBlock with
    | none => exact .inl rfl
    | some g =>
      right
      rcases hne with h | h
      · rw [h]; simp
      · intro h'
        exact h (by rw [h8, h'])
  · have := hg.size
    simp at this
    omega
theorem dis_one {ge cap m m' S : Nat} {v9 v1 : Value} (hgl : ge < S) (hne : v9.ownBlock = none ∨ v9.ownBlock ≠ (Value.slice (some ⟨ge, 0, none⟩) m cap).ownBlock)
    (hv : v1.ownBlock = v9.ownBlock ∨ v1.ownBlock = some S) : (Value.slice (some ⟨ge, 0, none⟩) m' cap).ownBlock ≠ v1.ownBlock := by
  show some ge ≠ _
  intro h
  rcases hv with hv | hv
  · rcases hne with hn | hn
    · rw [hv, hn] at h; cases h
    · exact hn (by rw [← hv, ← h]; rfl)
  · rw [hv] at h
    injection h with h
    omega
theorem dis_two {ge cap m' : Nat} {v1 v2 : Value} {x1 : World} {o : Obj} {N : Nat} (hl : ∀ k, v1.ownBlock = some k → N ≤ k ∧ k < x1.heap.size) (hd : (Value.slice (some ⟨ge, 0, none⟩) m' cap).ownBlock ≠ v1.ownBlock)
    (hv : v2.ownBlock = (Value.slice (some ⟨ge, 0, none⟩) m' cap).ownBlock ∨ v2.ownBlock = some (x1.alloc o).heap.size) : v1.ownBlock = none ∨ v1.ownBlock ≠ v2.ownBlock := by
  right
  intro h
  rcases hv with hv | hv
  · exact hd (by rw [← hv, h])
  · rw [hv] at h
    have := (hl _ h).2
    simp at this
    omega
theorem sets_of_own {w : World} {N e : Nat} {v : Value} {C : List Nat} (h : w.ownsRow N e 1 v C.length (C.map U)) : Sets w v C := by
  rcases h.2 with ⟨hv, hn⟩ | ⟨g, cap, cur, hv, _⟩
  · have : C = [] := List.eq_nil_of_length_eq_zero hn
    subst this
    exact ⟨none, 0, hv, Reads.none_⟩
  · subst hv
    exact ⟨_, cap, rfl, Reads.of_own h⟩
theorem sets_drew {w : World} {v : Value} {C : List Nat} (h : Sets w v C) : Sets w.drew v C := h
theorem drew_grown {W x1 : World} {row : Option Nat} (h : W.drew.grownBy x1 row) : W.grownBy x1 row := ⟨h.os, h.tape, h.output, h.size, h.block⟩
theorem Try.infoU32 : (Try.prog.info? 22).map (fun i => (i.zero, i.size, i.bytes)) = some (some (.int .u32 0), 1, 4) := by kernel_rfl
theorem own_below {w w' : World} {base e size : Nat} {v : Value} {n : Nat} {xs : List Value} (h : w.ownsRow base e size v n xs) (hb : Below w.heap.size w w') : w'.ownsRow base e size v n xs := by
  have hg : w.grownBy w' none := ⟨hb.os, hb.tape, hb.output, hb.size, fun k hk _ => hb.block k hk⟩
  refine h.kept hg ?_
  cases v.ownBlock with
  | none => exact .inl rfl
  | some _ => exact .inr (by simp)

set_option maxHeartbeats 1000000 in
theorem run_any (first : Nat) (hf : first < 4294967296) (A : Option Addr) (n c : Nat) (hn : n ≤ 100) (zs : List (Nat × Nat)) (hz : ∀ k (h : k < zs.length), zs[k].1 < 4294967296 ∧ zs[k].2 < 4294967296) (w : World)
    (hr : Reads w w.heap.size 2 A n (zs.flatMap fun z => [U z.1, U z.2])) :
    Calls Try.prog 17 #[.int .u32 first, .slice A n c] w (RunPost w n) := by
  have m1 := Pl.and24 first hf
  have cl : first % 16777216 < 16777216 := Nat.mod_lt _ (by decide)
  have HR := Lib.hid hr
  have HZ := Lib.hid hz
  clear hr hz
  generalize hf0 : first % 16777216 = f0 at *
  have HF0 := Lib.hid hf0
  clear hf0
  obtain ⟨i0, hi0, hz0, hz1, hz2⟩ := info_parts Try.infoU32
  go_enter Try.func17, Try.ntmps17
  go_wp2_with fail
  refine (all24 _).mono ?_
  rintro e w1 ⟨rfl, rfl⟩
  go_wp2_with fail
  refine (begin_any first hf _).mono ?_
  rintro e w1 ⟨rfl, hb1⟩
  rw [HF0.out]
  unfold cnt
  have b0 := ((Blk.new w 24 #[.int .i64 0, .int .i64 0, .int .i64 0, .int .i64 0, .int .u32 0]).alloc _).below hb1 (by simp only [World.size_alloc]; omega)
  have o0 := own_below (own_one (w.alloc (.cells #[.int .i64 0, .int .i64 0, .int .i64 0, .int .i64 0, .int .u32 0] 24)) w.heap.size f0 (by simp)) hb1
  have hB1 := (((Below.refl w.heap.size w).alloc (Nat.le_refl _) (.cells #[.int .i64 0, .int .i64 0, .int .i64 0, .int .i64 0, .int .u32 0] 24)).alloc (by simp) _).trans (hb1.mono (by simp only [World.size_alloc]; omega))
  have hs1 := hb1.size
  simp only [World.size_alloc] at o0 hs1
  clear hb1
  go_wp2_with fail
  go_loopw [8, 9, 11] (RunRel w n w.heap.size w1.heap.size) (fun _ _ i _ => n - (intOf i).toNat)
  case atStart =>
    refine ⟨0, [], [f0], 0, Nat.zero_le _, Nat.zero_le _, rfl, by simp, ?_, by simp, by simp, rfl, o0.alloc _, World.ownsRow_nil _ _ _ _, .inl rfl, ?_, b0.alloc _, hB1.alloc (by omega) _⟩
    · intro i
      rcases i with _ | i
      · simpa using cl
      · simp
    · exact Blk.new _ _ _
  case round =>
    obtain ⟨k, C, E, M, hk, hCk, hEC, hC, hE, hM1, hM2, rfl, oe, oc, hne, bk, bz, hB⟩ := hrel
    have HB := Lib.hid hB
    have hBs := hB.size
    by_cases hlt : k < n
    · obtain ⟨ge, ce, rfl, hge, hgl⟩ := oe.form (by omega)
      have hsl := stage_at (HR.out.below hB) hlt
      obtain ⟨ad, hA, hblk, c0, c1⟩ := hsl
      subst hA
      have hzk := HZ.out k (stage_len HR.out hlt)
      generalize zs[k]'(stage_len HR.out hlt) = z at *
      obtain ⟨zc, za⟩ := z
      dsimp only at c0 c1 hzk
      unfold U at c0 c1
      have m2 := Pl.and24 za hzk.2
      have zl : za % 16777216 < 16777216 := Nat.mod_lt _ (by decide)
      generalize za % 16777216 = a at *
      have ce1 : wr.cell? ⟨ge, C.length, none⟩ = some (.int .u32 (E.getD C.length 0 : Nat)) := by
        rw [oe.cellAt C.length (by omega), List.getElem?_map, List.getD_eq_getElem?_getD, List.getElem?_eq_getElem (by omega)]
        rfl
      have he1 := hE C.length
      generalize hl1 : E.getD C.length 0 = e1 at *
      clear hl1
      have m3 := u32_and_nat zc e1 hzk.1 (by omega)
      have hse : zc &&& e1 ≤ e1 := Nat.and_le_right
      generalize zc &&& e1 = st at *
      rw [hEC] at oe
      have HEC := Lib.hid hEC
      clear hEC hB
      have HC := Lib.hid hC
      have HE := Lib.hid hE
      clear hC hE
      have k0 : (0 : Int) ≤ (k : Int) := by omega
      have k1 : (k : Int) < (n : Int) := by omega
      rw [HEC.out]
      by_cases hs0 : st = 0
      · subst hs0
        go_wp2
        go_roundw
        case rel => exact ⟨k + 1, C, E, M, by omega, by omega, HEC.out, HC.out, HE.out, hM1, hM2, by go_num, by rw [HEC.out]; exact oe, oc, hne, bk, bz, HB.out⟩
        case measure => simp [intOf]; omega
      · have sz : ((st : Int) == 0) = false := beq_eq_false_iff_ne.2 (by omega)
        have hCl : C.length < 4096 := by omega
        obtain ⟨hv, hM3, hM4⟩ := run_step C E st a M HEC.out HE.out (by omega) (by omega) zl hCl hM1 hM2
        have HV := Lib.hid hv
        have hab := Pl4.acc_bounds C E HE.out C.length
        clear hv
        obtain ⟨hA1, hA2, hA3, hA4⟩ := hab
        generalize Pl3.acc C E C.length = ac at *
        obtain ⟨r, b, p⟩ := ac
        dsimp only at *
        obtain ⟨p0, p1, p2, p3, p4, pf⟩ := blk5 bk
        have rule := below_rule wr
        have hb1 : (ad.add (k * 2)).block < wr.heap.size := by rw [block_of_add]; omega
        have hb2 := bk.lt
        go_upto_region 10 with fail
        go_cut [14, 15] (fun s14 s15 wx => ∃ g14 : Nat, s14 = .pointer (some ⟨g14, 0, none⟩) ∧ s15 = .int .i64 0 ∧ wr.heap.size ≤ g14 ∧ Below wr.heap.size wr wx ∧
          Blk wx g14 24 #[.int .i64 ((C.length : Int) + 1), .int .i64 (M + Pl.pop st), .int .i64 (Pl3.acc (C ++ [st]) (E ++ [a]) (C.length + 1)).1, .int .i64 (Pl3.acc (C ++ [st]) (E ++ [a]) (C.length + 1)).2.1, .int .u32 (Pl3.acc (C ++ [st]) (E ++ [a]) (C.length + 1)).2.2])
        case first =>
          go_region_held3 (fun x => Below wr.heap.size wr x) (repeat (with_reducible first | assumption | exact Below.refl _ _ | apply Below.drew | apply below_alloc | apply below_set5 | (apply below_step; assumption)))
            (first
              | (go_at_call 15; refine (all24 _).mono ?_; rintro e x1 ⟨rfl, rfl⟩)
              | (go_at_call 8; refine (add_any C.length M r b p st a (by omega) (by omega) (by omega) _).mono ?_; rintro e x2 ⟨rfl, hx2⟩; obtain ⟨bc, bf⟩ := bcell hx2; rw [HV.out]; unfold CntOf cnt))
          all_goals
            go_wp2_with fail
            go_meet
            first
              | ((with_reducible refine ⟨x2.heap.size, rfl, rfl, ?_, ?_, ?_⟩)
                 · exact hx2.size
                 · assumption
                 · exact Blk.new _ _ _)
              | ((with_reducible refine ⟨wr.heap.size, rfl, rfl, Nat.le_refl _, ?_, ?_⟩)
                 · assumption
                 · have bn := ((Blk.new wr 24 #[.int .i64 0, .int .i64 0, .int .i64 0, .int .i64 0, .int .u32 0]).drew).below hx2 (by simp)
                   exact ((((bn.set_ 0 _).set_ 1 _).set_ 2 _).set_ 3 _).set_ 4 _)
        case rest =>
          obtain ⟨g14, rfl, rfl, hg14, hx, b14⟩ := hcut
          have bk2 := bk.below hx hb2
          have bz2 := bz.below hx bz.lt
          have oe2 := own_below oe hx
          have oc2 := own_below oc hx
          have c2 := (hx.cell (p := ⟨(ad.add (k * 2)).block, (ad.add (k * 2)).off + 1, none⟩) hb1).trans c1
          have HB3 := Lib.hid (HB.out.trans (hx.mono hBs))
          have n14 := b14.lt
          have hxs := hx.size
          clear p0 p1 p2 p3 p4 pf rule bk bz oe oc c0 c1 HB ce1 hx
          obtain ⟨q0, q1, q2, q3, q4, qf⟩ := blk5 b14
          obtain ⟨p0, p1, p2, p3, p4, pf⟩ := blk5 bk2
          have cw := (HB3.out.cell (p := ⟨(ad.add (k * 2)).block, (ad.add (k * 2)).off + 1, none⟩) (by show (ad.add (k * 2)).block < _; rw [block_of_add]; exact hblk)).symm.trans c2
          go_upto_region 14 with fail
          generalize hW : World.setCell _ _ _ = W2
          have b3 : Blk W2 w1.heap.size 24 #[.int .i64 ((C.length : Int) + 1), .int .i64 (M + Pl.pop st), .int .i64 (Pl3.acc (C ++ [st]) (E ++ [a]) (C.length + 1)).1, .int .i64 (Pl3.acc (C ++ [st]) (E ++ [a]) (C.length + 1)).2.1, .int .u32 (Pl3.acc (C ++ [st]) (E ++ [a]) (C.length + 1)).2.2] := by
            rw [← hW]; exact ((((bk2.set_ 0 _).set_ 1 _).set_ 2 _).set_ 3 _).set_ 4 _
          have bz3 : Blk W2 w.heap.size 24 #[.int .i64 0, .int .i64 0, .int .i64 0, .int .i64 0, .int .u32 0] := by
            have hnz : w.heap.size ≠ w1.heap.size := by omega
            rw [← hW]; exact ((((bz2.far hnz _).far hnz _).far hnz _).far hnz _).far hnz _
          have oe3 : W2.ownsRow w.heap.size 22 1 (Value.slice (some ⟨ge, 0, none⟩) (C.length + 1) ce) (C.length + 1) (E.map U) := by
            rw [← hW]; exact own_set5 oe2 bk2 (by decide) _ _ _ _ _
          have oc3 := own_set5 oc2 bk2 (by decide) (.int .i64 ((C.length : Int) + 1)) (.int .i64 (M + Pl.pop st)) (.int .i64 (Pl3.acc (C ++ [st]) (E ++ [a]) (C.length + 1)).1) (.int .i64 (Pl3.acc (C ++ [st]) (E ++ [a]) (C.length + 1)).2.1) (.int .u32 (Pl3.acc (C ++ [st]) (E ++ [a]) (C.length + 1)).2.2)
          rw [hW] at oc3
          have hws : w.heap.size ≤ w1.heap.size := by omega
          have hB3 : Below w.heap.size w W2 := by
            rw [← hW]; exact ((((HB3.out.setCell hws _).setCell hws _).setCell hws _).setCell hws _).setCell hws _
          clear hW bk2 bz2 oe2 oc2 p0 p1 p2 p3 p4 pf q0 q1 q2 q3 q4 qf c2 HB3 b14
          have rule := below_rule w
          have hbw : (ad.add (k * 2)).block < w.heap.size := by rw [block_of_add]; exact hblk
          have hs2 := hB3.size
          have hgl2 : ge < W2.heap.size + 1 := Nat.lt_succ_of_lt (by obtain ⟨g', c', hv', _, hl'⟩ := oe3.form (by omega); injection hv' with hv' _ _; injection hv' with hv'; injection hv' with hv' _ _; omega)
          have HO := Lib.hid oc3
          have HOE := Lib.hid oe3
          have HB3 := Lib.hid hB3
          have HN := Lib.hid hne
          clear oc3 oe3 hB3 hne
          go_region_held3 (fun x => Below w.heap.size w x) (repeat (with_reducible first | assumption | exact HB3.out | apply Below.drew | apply below_alloc))
            (first
              | (go_at_call 15; refine (all24 _).mono ?_; rintro e x1 ⟨rfl, rfl⟩)
              | ((with_reducible refine step_append_any _ rfl (.tmp 60) (.tmp 62) 35 rfl w.heap.size 22 i0 (.int .u32 0) 1 4 Try.underlying35 hi0 hz0 hz1 hz2 rfl (by decide) u9 C.length (C.map U) rfl ?_ (W2.heap.size + 1) (some ⟨W2.heap.size, 0, none⟩) 1 1 [U st] rfl ?_ ?_ ?_ ?_ ?_ ?_); exact HO.out.alloc _; exact reads_new _ _ _; exact one_U st; exact lenOk (by omega); omega; (simp; omega); intro v1 x1 ho1 hg1 hv1; obtain ⟨hBx, oex, blx, hsx⟩ := app_keep HB3.out hs2 HO.out HOE.out HN.out (drew_grown hg1); have HO1 := Lib.hid ho1; have HOE1 := Lib.hid oex; have HBL := Lib.hid blx; have HV1 := Lib.hid hv1; have HD1 := Lib.hid (dis_one (m' := C.length + 1) (Nat.lt_of_lt_of_eq hgl2 (World.size_alloc _ _).symm) HN.out hv1); clear ho1 oex blx hv1 hg1)
              | ((with_reducible refine step_append_any _ rfl (.tmp 64) (.tmp 72) 35 rfl w.heap.size 22 i0 (.int .u32 0) 1 4 Try.underlying35 hi0 hz0 hz1 hz2 rfl (by decide) (Value.slice (some ⟨ge, 0, none⟩) (C.length + 1) ce) (C.length + 1) (E.map U) rfl ?_ (x1.heap.size + 1) (some ⟨x1.heap.size, 0, none⟩) 1 1 [U a] rfl ?_ ?_ ?_ ?_ ?_ ?_); exact HOE1.out.alloc _; exact reads_new _ _ _; exact one_U a; exact lenOk (by omega); omega; (simp; omega); intro v2 x2 ho2 hg2 hv2; obtain ⟨hBy, oy, bly, hsy⟩ := app_keep hBx (Nat.le_trans hs2 (Nat.le_of_lt hsx)) HOE1.out HO1.out (.inr HD1.out) hg2; have HO2 := Lib.hid ho2; have HOY := Lib.hid oy; have HBY := Lib.hid bly; have HV2 := Lib.hid hv2; clear ho2 oy bly hv2 hg2))
          go_wp2
          go_roundw
          case rel =>
            have e1 : (C ++ [st]).length = C.length + 1 := by simp
            have e2 : (E ++ [a]).length = C.length + 1 + 1 := by simp [HEC.out]
            refine ⟨k + 1, C ++ [st], E ++ [a], M + Pl.pop st, by omega, by omega, by omega, Pl4.getD_snoc_lt C st _ HC.out (by omega), Pl4.getD_snoc_lt E a _ HE.out zl, by rw [e1]; omega, by rw [e1]; omega, by go_num, ?_, ?_, ?_, ?_, ?_, hBy⟩
            · rw [e2, List.map_append]
              exact HO2.out
            · rw [e1, List.map_append]
              exact HOY.out
            · exact dis_two HO1.out.lt HD1.out HV2.out
            · rw [e1, show ((C.length + 1 : Nat) : Int) = (C.length : Int) + 1 from by omega]
              exact HBY.out _ _ _ (HBL.out _ _ _ b3 (by decide)) (by decide)
            · exact HBY.out _ _ _ (HBL.out _ _ _ bz3 (by decide)) (by decide)
          case measure => simp [intOf]; omega
    · obtain rfl : k = n := by omega
      have HEC := Lib.hid hEC
      have HC := Lib.hid hC
      have HE := Lib.hid hE
      clear hEC hC hE hB
      obtain ⟨p0, p1, p2, p3, p4, pf⟩ := blk5 bk
      obtain ⟨q0, q1, q2, q3, q4, qf⟩ := blk5 bz
      go_wp2
      go_region
      all_goals go_wp2
      all_goals
        refine bodyPost_ret (v := .tuple #[u9, u8, CntOf C E M, .bool true]) ?_ rfl ?_
        · simp [results, Try.results17, go_sem, CntOf, cnt, q0, q1, q2, q3, q4]
        · refine ⟨C, E, u9, u8, M, hCk, HEC.out, HC.out, HE.out, rfl, ?_, ?_, ?_⟩
          · exact sets_drew (sets_of_own (own_set5 oc bz (by decide) _ _ _ _ _))
          · exact sets_drew (sets_of_own (own_set5 oe bz (by decide) _ _ _ _ _))
          · exact Below.drew (((((HB.out.setCell (Nat.le_refl _) _).setCell (Nat.le_refl _) _).setCell (Nat.le_refl _) _).setCell (Nat.le_refl _) _).setCell (Nat.le_refl _) _)
end Go.Proofs.Ythnjcnenncbagaa
