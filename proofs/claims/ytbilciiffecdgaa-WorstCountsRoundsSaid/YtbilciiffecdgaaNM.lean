/- Lists of numbers in memory; what every function of worst begins with. -/
import Derived.Test.YtbilciiffecdgaaMC
import Derived.Test.YtbilciiffecdgaaC7
import Derived.Test.YtbilciiffecdgaaPlL
namespace Go.Proofs.Ytbilciiffecdgaa
open Go.RowKit

def nums (n : Nat) (f : Nat → Nat) : List Value := (List.range n).map fun k => .int .i64 (f k : Int)
theorem nums_len (n : Nat) (f : Nat → Nat) : (nums n f).length = n := by simp [nums]
theorem nums_get {n : Nat} (f : Nat → Nat) {k : Nat} (h : k < n) : (nums n f)[k]? = some (.int .i64 (f k : Int)) := by
  unfold nums
  rw [List.getElem?_map, List.getElem?_range h]; rfl
theorem nums_congr {n : Nat} {f g : Nat → Nat} (h : ∀ k, k < n → f k = g k) : nums n f = nums n g := by
  unfold nums
  exact List.map_congr_left fun k hk => by rw [h k (List.mem_range.1 hk)]
theorem num_at {w : World} {g n : Nat} {f : Nat → Nat} (h : Blk w g 3 (nums n f).toArray) {k : Nat} (hk : k < n) : w.cell? ⟨g, k, none⟩ = some (.int .i64 (f k : Int)) := by
  rw [h.cell k, List.getElem?_toArray, nums_get f hk]
theorem nums_set (n : Nat) (f g : Nat → Nat) (k v : Nat) (h : ∀ q, g q = PlL.upd f k v q) : (nums n f).toArray.setIfInBounds k (.int .i64 (v : Int)) = (nums n g).toArray := by
  rw [List.setIfInBounds_toArray]
  congr 1
  unfold nums
  apply List.ext_getElem
  · simp
  · intro j h1 h2
    rw [List.getElem_set]
    simp only [List.getElem_map, List.getElem_range]
    rw [h]
    by_cases e : k = j
    · subst e; rw [if_pos rfl, PlL.upd_same]
    · rw [if_neg e, PlL.upd_ne _ _ (Ne.symm e)]
theorem nums_made (n : Nat) : madeCells #[.int .i64 0] n = (nums n (fun _ => 0)).toArray := by
  rw [made_list]
  congr 1
  apply List.ext_getElem
  · simp [nums]
  · intro i h1 h2; simp [nums]
theorem nums_snoc (k : Nat) (f : Nat → Nat) : nums (k + 1) f = nums k f ++ [.int .i64 (f k : Int)] := by
  unfold nums; rw [List.range_succ, List.map_append]; rfl
theorem one_Z (z : Int) : ∀ u ∈ [Value.int .i64 z], u.oneCell' = true := by simp [Value.oneCell']
theorem getD_l {α : Type} {l : List α} {k : Nat} (d : α) (h : k < l.length) : l.getD k d = l[k] := by rw [List.getD_eq_getElem?_getD, List.getElem?_eq_getElem h]; rfl
theorem own_sl {w : World} {base e size n : Nat} {v : Value} {xs : List Value} (h : w.ownsRow base e size v n xs) : ∃ (A : Option Addr) (c : Nat), v = .slice A n c := own_slice h
theorem own_at {w : World} {base e g n c k x : Nat} {l : List Nat} (h : w.ownsRow base e 1 (.slice (some ⟨g, 0, none⟩) n c) n (l.map I)) (hk : l[k]? = some x) : w.cell? ⟨g, k, none⟩ = some (.int .i64 (x : Int)) := by
  have hl : k < l.length := (List.getElem?_eq_some_iff.1 hk).1
  have h1 := h.1
  have := h.cellAt k (by rw [List.length_map] at h1; omega)
  rw [this, List.getElem?_map, hk]
  rfl
theorem Try.infoIntG : (Try.prog.info? 3).map (fun i => (i.zero, i.size, i.bytes)) = some (some (.int .i64 0), 1, 8) := by kernel_rfl
theorem Try.infoU32 : (Try.prog.info? 40).map (fun i => (i.zero, i.size, i.bytes)) = some (some (.int .u32 0), 1, 4) := by kernel_rfl
theorem reads_blk {w : World} {g t B size n : Nat} {l : List Value} (h : Blk w g t l.toArray) (hB : g < B) (hl : l.length = n * size) : Reads w B size (some ⟨g, 0, none⟩) n l :=
  ⟨hl, fun _ => ⟨_, rfl, hB, fun j u hu => by
    have := h.cell j
    rw [List.getElem?_toArray, hu] at this
    unfold Addr.add
    split
    · rename_i h0; subst h0; exact this
    · simpa using this⟩⟩
theorem tg_lt' {L : List (List Arc)} {n : Nat} (hto : ∀ k (hk : k < L.length), ∀ x ∈ L[k], 0 ≤ x.2 ∧ x.2 < (n : Int)) {k t : Nat} (h : t ∈ PlG.tg L k) : t < n := by
  unfold PlG.tg at h
  obtain ⟨a, ha, rfl⟩ := List.mem_map.1 h
  by_cases hk : k < L.length
  · rw [List.getD_eq_getElem?_getD, List.getElem?_eq_getElem hk] at ha
    have := hto k hk a ha
    omega
  · rw [List.getD_eq_getElem?_getD, List.getElem?_eq_none (by omega)] at ha
    cases ha

/-- every state comes to S -/
def Conv (L : List (List Arc)) (S : List Bool) : Prop := ∀ k, k < S.length → PlC.Att (PlG.tg L) (isIn S) k
open Classical in
/-- the error that every function of worst begins with -/
noncomputable def wchk (E : List Nat) (L : List (List Arc)) (S : List Bool) : Int := if chk E L S.length = 0 then (if Conv L S then 0 else 14) else chk E L S.length
theorem wchk_zero {E : List Nat} {L : List (List Arc)} {S : List Bool} (h : wchk E L S = 0) : PlS.spaceOk E L = true ∧ S.length = E.length ∧ Conv L S := by
  unfold wchk at h
  by_cases h0 : chk E L S.length = 0
  · rw [if_pos h0] at h
    by_cases h1 : Conv L S
    · unfold chk at h0
      by_cases h2 : PlS.spaceOk E L = true
      · rw [if_pos h2] at h0
        by_cases h3 : S.length = E.length
        · exact ⟨h2, h3, h1⟩
        · rw [if_neg h3] at h0; cases h0
      · rw [if_neg h2] at h0; cases h0
    · rw [if_neg h1] at h; cases h
  · rw [if_neg h0] at h; exact absurd h h0
theorem wchk_ok {E : List Nat} {L : List (List Arc)} {S : List Bool} (h : PlS.spaceOk E L = true) (hm : S.length = E.length) (hc : Conv L S) : wchk E L S = 0 := by
  unfold wchk; rw [if_pos (chk_ok h hm), if_pos hc]
theorem conv_ranked {L : List (List Arc)} {S : List Bool} {O : List Nat} {n : Nat} (hn : S.length = n) (hO : PlC.Order n (PlG.tg L) (isIn S) O) (hc : Conv L S) (hto : ∀ k t, t ∈ PlG.tg L k → t < n) : ∃ r, PlL.Ranked n L (isIn S) r := by
  obtain ⟨r, hr⟩ := hO.rank
  refine ⟨r, fun k hk => (hr k hk (hc k (by omega))).1, fun k hk hs => ?_⟩
  rcases (hr k hk (hc k (by omega))).2 with h | ⟨h1, h2⟩
  · rw [hs] at h; cases h
  · refine ⟨fun h0 => h1 (by unfold PlG.tg; rw [h0]; rfl), fun a ha => ⟨hto k _ (PlL.tg_mem' ha), h2 _ (PlL.tg_mem' ha)⟩⟩

/-- what order returns -/
def WOrd (w : World) (L : List (List Arc)) (S : List Bool) (e : Ending) (w' : World) : Prop :=
  ∃ (O : List Nat) (v : Value), e = .returned (.tuple #[v, .int .i64 0]) ∧ O.length = S.length ∧ w'.ownsRow w.heap.size 3 1 v S.length (O.map I) ∧ PlC.Order S.length (PlG.tg L) (isIn S) O ∧ Below w.heap.size w w'
theorem order_len {n : Nat} {G : Nat → List Nat} {S : Nat → Bool} {O : List Nat} (h : PlC.Order n G S O) (hall : ∀ k, k < n → PlC.Att G S k) : O.length = n := by
  have h1 := PlC.nodup_length_le h.nodup h.lt
  have h2 : (List.range n).length ≤ O.length := (List.nodup_range).length_le_of_subset fun x hx => (h.all x (List.mem_range.1 hx)).2 (hall x (List.mem_range.1 hx))
  simp at h2
  omega
theorem order_short {n : Nat} {G : Nat → List Nat} {S : Nat → Bool} {O : List Nat} (h : PlC.Order n G S O) (hall : ¬ ∀ k, k < n → PlC.Att G S k) : O.length < n := by
  obtain ⟨k, hk⟩ := Classical.not_forall.1 hall
  obtain ⟨hk, ha⟩ := Classical.not_imp.1 hk
  have hm : k ∉ O := fun hm => ha ((h.all k hk).1 hm)
  have := PlC.nodup_length_le (n := n) (O := k :: O) (List.nodup_cons.2 ⟨hm, h.nodup⟩) (fun x hx => by rcases List.mem_cons.1 hx with rfl | hx; exact hk; exact h.lt x hx)
  simp at this
  omega

set_option maxHeartbeats 1000000 in
theorem word_err (E : List Nat) (L : List (List Arc)) (v : Value) (hE : WfE E) (hL : WfL L) (S : List Bool) (A : Option Addr) (c : Nat) (z : Int) (hz : z ≠ 0) (h : wchk E L S = z) (w : World) (hS : SpaceAt w w.heap.size v E L) (hSr : Reads w w.heap.size 1 A S.length (S.map Value.bool)) :
    Calls Try.prog 38 #[v, .slice A S.length c] w fun e w' => e = .returned (.tuple #[.slice none 0 0, .int .i64 z]) ∧ Below w.heap.size w w' := by
  have HS := Lib.hid hS
  obtain ⟨ve, va, rfl, ⟨Ae, ce, rfl, re⟩, ⟨Aa, ca, rows, rfl, ra, hk⟩⟩ := hS
  have HB0 := Lib.hid ((Below.refl w.heap.size w).alloc (Nat.le_refl _) (.cells #[.slice Ae E.length ce, .slice Aa L.length ca] 25))
  have HE := Lib.hid hE
  have HL := Lib.hid hL
  have SR := Lib.hid hSr
  by_cases h0 : chk E L S.length = 0
  · have hnc : ¬ Conv L S := fun hc => hz (by rw [← h]; unfold wchk; rw [if_pos h0, if_pos hc])
    have hz14 : z = 14 := by rw [← h]; unfold wchk; rw [if_pos h0, if_neg hnc]
    subst hz14
    obtain ⟨hok, hSl⟩ : PlS.spaceOk E L = true ∧ S.length = E.length := by
      unfold chk at h0
      by_cases h2 : PlS.spaceOk E L = true
      · rw [if_pos h2] at h0
        by_cases h3 : S.length = E.length
        · exact ⟨h2, h3⟩
        · rw [if_neg h3] at h0; cases h0
      · rw [if_neg h2] at h0; cases h0
    have H0 := Lib.hid h0
    have HOK := Lib.hid hok
    have HNC := Lib.hid hnc
    have HSL := Lib.hid (show S.length = L.length by have := (PlG.ok_parts hok).2.2.1; omega)
    clear hE hL h re ra hk hSr h0 hnc hok hSl
    go_enter Try.func38, Try.ntmps38
    go_wp2_with fail
    refine (check_is E L _ HE.out HL.out A S.length c 0 H0.out _ (HS.out.go HB0.out)).mono ?_
    rintro e w1 ⟨rfl, hb1⟩
    have HM1 := Lib.hid (((Mem.start w).new 25 #[.slice Ae E.length ce, .slice Aa L.length ca]).below hb1)
    obtain ⟨p0, p1, pf⟩ := blk2 (HM1.out.get 0 rfl).2
    clear hb1
    go_wp2_with fail
    refine (order_any E L _ HL.out HOK.out S HSL.out A c _ (HS.out.go HM1.out.bel) (SR.out.go HM1.out.bel)).mono ?_
    rintro e w2 ⟨O, vo, rfl, ho, hO, hb2⟩
    obtain ⟨Ao, co, hvo⟩ := own_sl ho
    subst hvo
    have hlt : O.length < S.length := by have := order_short hO (fun h => HNC.out (fun k hk => h k (by have := HSL.out; omega))); have := HSL.out; omega
    have HF := Lib.hid (HM1.out.below hb2).bel
    have t1 : decide ((O.length : Int) < (S.length : Int)) = true := decide_eq_true (by omega)
    have t1' : decide (O.length < S.length) = true := decide_eq_true hlt
    clear ho hO hb2 p0 p1 pf
    go_wp2
    go_ret2
    exact ⟨rfl, HF.out⟩
  · have hz' : chk E L S.length = z := by rw [← h]; unfold wchk; rw [if_neg h0]
    have H := Lib.hid hz'
    have t1 : (z != 0) = true := by rw [bne_iff_ne]; exact hz
    clear hE hL h re ra hk hSr h0 hz'
    go_enter Try.func38, Try.ntmps38
    go_wp2_with fail
    refine (check_is E L _ HE.out HL.out A S.length c z H.out _ (HS.out.go HB0.out)).mono ?_
    rintro e w1 ⟨rfl, hb1⟩
    have HB1 := Lib.hid (below_end hb1 HB0.out)
    clear hb1
    go_wp2
    go_ret2
    exact ⟨rfl, HB1.out⟩
set_option maxHeartbeats 1000000 in
theorem word_ok (E : List Nat) (L : List (List Arc)) (v : Value) (hE : WfE E) (hL : WfL L) (S : List Bool) (A : Option Addr) (c : Nat) (h : wchk E L S = 0) (w : World) (hS : SpaceAt w w.heap.size v E L) (hSr : Reads w w.heap.size 1 A S.length (S.map Value.bool)) :
    Calls Try.prog 38 #[v, .slice A S.length c] w (WOrd w L S) := by
  have HS := Lib.hid hS
  obtain ⟨ve, va, rfl, ⟨Ae, ce, rfl, re⟩, ⟨Aa, ca, rows, rfl, ra, hk⟩⟩ := hS
  have HB0 := Lib.hid ((Below.refl w.heap.size w).alloc (Nat.le_refl _) (.cells #[.slice Ae E.length ce, .slice Aa L.length ca] 25))
  have HE := Lib.hid hE
  have HL := Lib.hid hL
  have SR := Lib.hid hSr
  obtain ⟨hok, hSl, hc⟩ := wchk_zero h
  have H0 := Lib.hid (chk_ok hok hSl)
  have HOK := Lib.hid hok
  have HC := Lib.hid hc
  have HSL := Lib.hid (show S.length = L.length by have := (PlG.ok_parts hok).2.2.1; omega)
  clear hE hL h re ra hk hSr hok hSl hc
  go_enter Try.func38, Try.ntmps38
  go_wp2_with fail
  refine (check_is E L _ HE.out HL.out A S.length c 0 H0.out _ (HS.out.go HB0.out)).mono ?_
  rintro e w1 ⟨rfl, hb1⟩
  have HM1 := Lib.hid (((Mem.start w).new 25 #[.slice Ae E.length ce, .slice Aa L.length ca]).below hb1)
  obtain ⟨p0, p1, pf⟩ := blk2 (HM1.out.get 0 rfl).2
  clear hb1
  go_wp2_with fail
  refine (order_any E L _ HL.out HOK.out S HSL.out A c _ (HS.out.go HM1.out.bel) (SR.out.go HM1.out.bel)).mono ?_
  rintro e w2 ⟨O, vo, rfl, ho, hO, hb2⟩
  obtain ⟨Ao, co, hvo⟩ := own_sl ho
  subst hvo
  rw [← HSL.out] at hO
  have hlen : O.length = S.length := order_len hO HC.out
  rw [hlen] at ho ⊢
  have HF := Lib.hid (show WOrd w L S (.returned (.tuple #[.slice Ao S.length co, .int .i64 0])) w2 from ⟨O, _, rfl, hlen, own_base ho HM1.out.size, hO, (HM1.out.below hb2).bel⟩)
  clear ho hO hb2 p0 p1 pf hlen
  go_wp2
  go_ret2
  exact HF.out
end Go.Proofs.Ytbilciiffecdgaa
