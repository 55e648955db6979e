/- converge.Attractor and converge.Core. -/
import Derived.Test.YtlhheglffododaaC7
import Derived.Test.YtlhheglffododaaPlM
namespace Go.Proofs.Ytlhheglffododaa
open Go.RowKit

/-- a new list of marks for which P holds, and no error -/
def MarksPost (w : World) (n : Nat) (P : (Nat → Bool) → Prop) (e : Ending) (w' : World) : Prop :=
  ∃ (g : Nat) (f : Nat → Bool), e = .returned (.tuple #[.slice (some ⟨g, 0, none⟩) n n, .int .i64 0]) ∧ w.heap.size ≤ g ∧ Blk w' g 4 ((marks n f).map Value.bool).toArray ∧ P f ∧ Below w.heap.size w w'

theorem Try.infoBool : (Try.prog.info? 4).map (fun i => (i.zero, i.size, i.bytes)) = some (some (.bool false), 1, 1) := by kernel_rfl

theorem mark_at {w : World} {g : Nat} {n : Nat} {f : Nat → Bool} (h : Blk w g 4 ((marks n f).map Value.bool).toArray) {k : Nat} (hk : k < n) : w.cell? ⟨g, k, none⟩ = some (.bool (f k)) := by
  have := h.get (k := k) (by simpa [marks_len] using hk)
  rw [this, List.getElem_map, marks_get]
theorem mark_set {w : World} {g : Nat} {n : Nat} {f : Nat → Bool} (h : Blk w g 4 ((marks n f).map Value.bool).toArray) (k : Nat) (b : Bool) :
    Blk (w.setCell ⟨g, k, none⟩ (.bool b)) g 4 ((marks n (fun j => if j = k then b else f j)).map Value.bool).toArray := by
  have := h.setL k (.bool b)
  rwa [← List.map_set, marks_set] at this
theorem marks_new (w : World) (n : Nat) : Blk (w.alloc (.cells (madeCells #[.bool false] n) 4)) w.heap.size 4 ((marks n (fun _ => false)).map Value.bool).toArray := by
  have e : (marks n (fun _ => false)).map Value.bool = List.replicate n (.bool false) := by
    rw [marks, List.map_map]
    apply List.ext_getElem
    · simp
    · intro i h1 h2; simp
  rw [e, made_list]
  exact Blk.new _ _ _

theorem check_is (E : List Nat) (L : List (List Arc)) (v : Value) (hE : WfE E) (hL : WfL L) (A : Option Addr) (m c : Nat) (z : Int) (h : chk E L m = z) (w : World) (hS : SpaceAt w w.heap.size v E L) :
    Calls Try.prog 27 #[v, .slice A m c] w fun e w' => e = .returned (.int .i64 z) ∧ Below w.heap.size w w' := by rw [← h]; exact check_any E L v hE hL A m c w hS

set_option maxHeartbeats 1000000 in
theorem attr_err (E : List Nat) (L : List (List Arc)) (v : Value) (hE : WfE E) (hL : WfL L) (A : Option Addr) (m c : Nat) (z : Int) (hz : z ≠ 0) (h : chk E L m = z) (w : World) (hS : SpaceAt w w.heap.size v E L) :
    Calls Try.prog 12 #[v, .slice A m c] w fun e w' => e = .returned (.tuple #[.slice none 0 0, .int .i64 z]) ∧ Below w.heap.size w w' := by
  have HS := Lib.hid hS
  obtain ⟨ve, va, rfl, ⟨Ae, ce, rfl, re⟩, ⟨Aa, ca, rows, rfl, ra, hk⟩⟩ := hS
  have HB0 := Lib.hid ((Below.refl w.heap.size w).alloc (Nat.le_refl _) (.cells #[.slice Ae E.length ce, .slice Aa L.length ca] 25))
  have HE := Lib.hid hE
  have HL := Lib.hid hL
  have H := Lib.hid h
  have t1 : (z != 0) = true := by rw [bne_iff_ne]; exact hz
  clear hE hL h re ra hk
  go_enter Try.func12, Try.ntmps12
  go_wp2_with fail
  refine (check_is E L _ HE.out HL.out A m c z H.out _ (HS.out.go HB0.out)).mono ?_
  rintro e w1 ⟨rfl, hb1⟩
  have HB1 := Lib.hid (below_end hb1 HB0.out)
  clear hb1
  go_wp2
  go_ret2
  exact ⟨rfl, HB1.out⟩

set_option maxHeartbeats 1000000 in
theorem core_err (E : List Nat) (L : List (List Arc)) (v : Value) (hE : WfE E) (hL : WfL L) (A : Option Addr) (m c : Nat) (z : Int) (hz : z ≠ 0) (h : chk E L m = z) (w : World) (hS : SpaceAt w w.heap.size v E L) :
    Calls Try.prog 13 #[v, .slice A m c] w fun e w' => e = .returned (.tuple #[.slice none 0 0, .int .i64 z]) ∧ Below w.heap.size w w' := by
  have HS := Lib.hid hS
  obtain ⟨ve, va, rfl, ⟨Ae, ce, rfl, re⟩, ⟨Aa, ca, rows, rfl, ra, hk⟩⟩ := hS
  have HB0 := Lib.hid ((Below.refl w.heap.size w).alloc (Nat.le_refl _) (.cells #[.slice Ae E.length ce, .slice Aa L.length ca] 25))
  have HE := Lib.hid hE
  have HL := Lib.hid hL
  have H := Lib.hid h
  have t1 : (z != 0) = true := by rw [bne_iff_ne]; exact hz
  clear hE hL h re ra hk
  go_enter Try.func13, Try.ntmps13
  go_wp2_with fail
  refine (attr_err E L _ HE.out HL.out A m c z hz H.out _ (HS.out.go HB0.out)).mono ?_
  rintro e w1 ⟨rfl, hb1⟩
  have HB1 := Lib.hid (below_end hb1 HB0.out)
  clear hb1
  go_wp2
  go_ret2
  exact ⟨rfl, HB1.out⟩

set_option maxHeartbeats 1000000 in
theorem attr_ok (E : List Nat) (L : List (List Arc)) (v : Value) (hE : WfE E) (hL : WfL L) (hok : PlS.spaceOk E L = true) (S : List Bool) (hSl : S.length = E.length) (A : Option Addr) (c : Nat) (w : World) (hS : SpaceAt w w.heap.size v E L)
    (hSr : Reads w w.heap.size 1 A S.length (S.map Value.bool)) :
    Calls Try.prog 12 #[v, .slice A S.length c] w (MarksPost w S.length (IsAtt L.length (PlG.tg L) (isIn S))) := by
  have HS := Lib.hid hS
  obtain ⟨ve, va, rfl, ⟨Ae, ce, rfl, re⟩, ⟨Aa, ca, rows, rfl, ra, hk⟩⟩ := hS
  obtain ⟨hn1, hn2, hn3, -⟩ := PlG.ok_parts hok
  have HB0 := Lib.hid ((Below.refl w.heap.size w).alloc (Nat.le_refl _) (.cells #[.slice Ae E.length ce, .slice Aa L.length ca] 25))
  have HE := Lib.hid hE
  have HL := Lib.hid hL
  have HOK := Lib.hid hok
  have SR := Lib.hid hSr
  have H := Lib.hid (chk_ok hok hSl)
  have HSL := Lib.hid (show S.length = L.length by omega)
  have hn5 : S.length ≤ 32768 := by omega
  have hn4 : L.length ≤ 32768 := by omega
  clear hE hL hok hSr re ra hk hSl hn1 hn2 hn3
  have hmk := run_make_row' (P := Try.prog) 26 4 (.bool false) 1 Try.underlying26 Try.infoBool rfl .i64 .i64 S.length (by omega) (by omega)
  go_enter Try.func12, Try.ntmps12
  go_wp2_with fail
  refine (check_is E L _ HE.out HL.out A S.length c 0 H.out _ (HS.out.go HB0.out)).mono ?_
  rintro e w1 ⟨rfl, hb1⟩
  have HB1 := Lib.hid (below_end hb1 HB0.out)
  have bs := (Blk.new w 25 #[.slice Ae E.length ce, .slice Aa L.length ca]).below hb1 (by simp)
  have hs1 := HB1.out.size
  have HBW := Lib.hid (HB1.out.alloc hs1 (.cells (madeCells #[.bool false] S.length) 4))
  have bs2 := bs.alloc (.cells (madeCells #[.bool false] S.length) 4)
  have bm := marks_new w1 S.length
  clear hb1
  obtain ⟨p0, p1, pf⟩ := blk2 bs2
  go_wp2_with fail
  refine (order_any E L _ HL.out HOK.out S HSL.out A c _ (HS.out.go HBW.out) (SR.out.go HBW.out)).mono ?_
  rintro e w2 ⟨O, vo, rfl, ho, hO, hb2⟩
  have HB2 := Lib.hid (below_end hb2 HBW.out)
  have bm2 := bm.below hb2 bm.lt
  have HOO := Lib.hid hO
  have hol := PlC.nodup_length_le hO.nodup hO.lt
  obtain ⟨Ao, co, rfl⟩ := own_slice ho
  have HO := Lib.hid ho
  have HNE := Lib.hid (own_blk_ne ho bm2 (by decide))
  clear hb2 p0 p1 pf bs bs2 hO ho bm hmk
  go_wp2_with fail
  go_loopw [23] (fun i wr => ∃ k : Nat, k ≤ O.length ∧ i = .int .i64 k ∧ wr.ownsRow (w1.alloc (.cells (madeCells #[.bool false] S.length) 4)).heap.size 3 1 (.slice Ao O.length co) O.length (O.map I) ∧
    Blk wr w1.heap.size 4 ((marks S.length (fun j => decide (j ∈ O.take k))).map Value.bool).toArray ∧ Below w.heap.size w wr) (fun i _ => O.length - (intOf i).toNat)
  case atStart => exact ⟨0, Nat.zero_le _, rfl, HO.out, by rw [marks_congr (g := fun _ => false) (fun k _ => by simp)]; exact bm2, HB2.out⟩
  case round =>
    clear bm2
    obtain ⟨k, hk, rfl, ho, bm, hB⟩ := hrel
    have HB := Lib.hid hB
    by_cases hlt : k < O.length
    · obtain ⟨go, co', hfx, -, -⟩ := ho.form (by omega)
      injection hfx with hfx _ hcx
      subst hfx hcx
      have cj := ho.cellAt k (by omega)
      have hx := HOO.out.lt O[k] (List.getElem_mem _)
      have hmt := PlC.mem_take_succ (O := O) (i := k) (List.getElem?_eq_getElem hlt)
      rw [List.getElem?_map, List.getElem?_eq_getElem hlt] at cj
      generalize O[k] = x at *
      have hxs : x < S.length := by rw [HSL.out]; exact hx
      have cm := mark_at bm hxs
      have cf := bm.frozen x
      have hIy : (I x) = .int .i64 (x : Int) := rfl
      rw [Option.map_some, hIy] at cj
      have HMT := Lib.hid hmt
      have HO1 := Lib.hid ho
      have k0 : (0 : Int) ≤ (k : Int) := by omega
      have k1 : (k : Int) < (O.length : Int) := by omega
      have x0 : (0 : Int) ≤ (x : Int) := by omega
      have x1 : (x : Int) < (S.length : Int) := by omega
      clear hB hIy hmt ho hx
      go_wp2
      refine ⟨⟨k + 1, by omega, by go_num, ?_, ?_, HB.out.setCell (by simp; omega) _⟩, by simp [intOf]; omega⟩
      · have hg : wr.grownBy (wr.setCell ⟨w1.heap.size, x, none⟩ (.bool true)) (some w1.heap.size) := ⟨rfl, rfl, rfl, by simp [World.setCell], fun j _ hne => Below.heap_setCell wr _ _ j (by rintro rfl; exact hne rfl)⟩
        exact HO1.out.kept hg (.inr HNE.out)
      · have := mark_set bm x true
        rw [marks_congr (g := fun j => decide (j ∈ O.take (k + 1))) (fun j _ => ?_)] at this
        · exact this
        · by_cases e : j = x
          · subst e; simp [HMT.out]
          · rw [if_neg e]; simp [HMT.out, e]
    · obtain rfl : k = O.length := by omega
      have HF := Lib.hid (show MarksPost w S.length (IsAtt L.length (PlG.tg L) (isIn S)) (.returned (.tuple #[.slice (some ⟨w1.heap.size, 0, none⟩) S.length S.length, .int .i64 0])) wr from
        ⟨w1.heap.size, _, rfl, hs1, bm, ⟨O, HOO.out, fun k hk => by rw [List.take_length]; simp⟩, hB⟩)
      clear bm hB ho
      go_wp2
      go_ret2
      exact HF.out

set_option maxHeartbeats 1000000 in
theorem core_ok (E : List Nat) (L : List (List Arc)) (v : Value) (hE : WfE E) (hL : WfL L) (hok : PlS.spaceOk E L = true) (S : List Bool) (hSl : S.length = E.length) (A : Option Addr) (c : Nat) (w : World) (hS : SpaceAt w w.heap.size v E L)
    (hSr : Reads w w.heap.size 1 A S.length (S.map Value.bool)) :
    Calls Try.prog 13 #[v, .slice A S.length c] w (MarksPost w S.length (IsCore L.length (PlG.tg L) (isIn S))) := by
  have HS := Lib.hid hS
  obtain ⟨ve, va, rfl, ⟨Ae, ce, rfl, re⟩, ⟨Aa, ca, rows, rfl, ra, hk⟩⟩ := hS
  obtain ⟨hn1, hn2, hn3, -⟩ := PlG.ok_parts hok
  have HB0 := Lib.hid ((Below.refl w.heap.size w).alloc (Nat.le_refl _) (.cells #[.slice Ae E.length ce, .slice Aa L.length ca] 25))
  have HE := Lib.hid hE
  have HL := Lib.hid hL
  have HOK := Lib.hid hok
  have SR := Lib.hid hSr
  have HSL := Lib.hid hSl
  have HLL := Lib.hid hn3
  have hn5 : S.length ≤ 32768 := by omega
  clear hE hL hok hSr re ra hk hSl hn1 hn2 hn3
  go_enter Try.func13, Try.ntmps13
  go_wp2_with fail
  refine (attr_ok E L _ HE.out HL.out HOK.out S HSL.out A c _ (HS.out.go HB0.out) (SR.out.go HB0.out)).mono ?_
  rintro e w1 ⟨g, f, rfl, hg, bm, hf, hb1⟩
  have HB1 := Lib.hid (below_end hb1 HB0.out)
  have HF := Lib.hid hf
  have hg' : w.heap.size < g := by simp at hg; omega
  clear hb1 hf hg
  go_wp2_with fail
  go_loopw [20] (fun i wr => ∃ k : Nat, k ≤ S.length ∧ i = .int .i64 k ∧
    Blk wr g 4 ((marks S.length (fun j => if j < k then !f j else f j)).map Value.bool).toArray ∧ Below w.heap.size w wr) (fun i _ => S.length - (intOf i).toNat)
  case atStart => exact ⟨0, Nat.zero_le _, rfl, by rw [marks_congr (g := f) (fun k _ => by simp)]; exact bm, HB1.out⟩
  case round =>
    clear bm
    obtain ⟨k, hk, rfl, bm, hB⟩ := hrel
    have HB := Lib.hid hB
    by_cases hlt : k < S.length
    · have cm := mark_at bm hlt
      rw [if_neg (Nat.lt_irrefl k)] at cm
      have cf := bm.frozen k
      have k0 : (0 : Int) ≤ (k : Int) := by omega
      have k1 : (k : Int) < (S.length : Int) := by omega
      have HBM := Lib.hid bm
      clear hB bm
      go_wp2
      refine ⟨⟨k + 1, by omega, by go_num, ?_, HB.out.setCell (by simp; omega) _⟩, by simp [intOf]; omega⟩
      have := mark_set HBM.out k (!f k)
      rw [marks_congr (g := fun j => if j < k + 1 then !f j else f j) (fun j _ => ?_)] at this
      · exact this
      · by_cases e : j = k
        · subst e; simp
        · rw [if_neg e]
          by_cases h1 : j < k
          · rw [if_pos h1, if_pos (by omega)]
          · rw [if_neg h1, if_neg (by omega)]
    · obtain rfl : k = S.length := by omega
      obtain ⟨O, hO, hfO⟩ := HF.out
      have HFF := Lib.hid (show MarksPost w S.length (IsCore L.length (PlG.tg L) (isIn S)) (.returned (.tuple #[.slice (some ⟨g, 0, none⟩) S.length S.length, .int .i64 0])) wr from
        ⟨g, fun j => !f j, rfl, by omega, by rw [marks_congr (g := fun j => !f j) (fun k hk => by rw [if_pos hk])] at bm; exact bm, ⟨O, hO, fun k hk => by have h := hfO k hk; rw [← h]; simp⟩, hB⟩)
      clear bm hB hO hfO
      go_wp2
      go_ret2
      exact HFF.out
end Go.Proofs.Ytlhheglffododaa
