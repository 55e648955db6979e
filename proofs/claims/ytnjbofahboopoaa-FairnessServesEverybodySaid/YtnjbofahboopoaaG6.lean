/- fairness.kept. -/
import Derived.Test.YtnjbofahboopoaaMK
import Derived.Test.YtnjbofahboopoaaG1
import Derived.Test.YtnjbofahboopoaaPlW
import Derived.BigQuiet
import Derived.StillTailTactics
namespace Go.Proofs.Ytnjbofahboopoaa
open Go.RowKit

def valU (n : Nat) (f : Nat → Nat) : List Value := (List.range n).map fun k => .int .u32 (f k : Int)
theorem valU_len (n : Nat) (f : Nat → Nat) : (valU n f).length = n := by simp [valU]
theorem valU_get {n : Nat} (f : Nat → Nat) {k : Nat} (h : k < n) : (valU n f)[k]? = some (.int .u32 (f k : Int)) := by
  unfold valU
  rw [List.getElem?_map, List.getElem?_range h]; rfl
theorem valU_set {n : Nat} (f : Nat → Nat) (k : Nat) (v : Nat) : (valU n f).set k (.int .u32 (v : Int)) = valU n (PlT.upd f k v) := by
  apply List.ext_getElem?
  intro j
  by_cases hj : j < n
  · rw [valU_get _ hj, List.getElem?_set]
    by_cases e : k = j
    · subst e
      rw [if_pos rfl, if_pos (by rw [valU_len]; exact hj), PlT.upd_same]
    · rw [if_neg e, valU_get _ hj, PlT.upd_ne _ _ (Ne.symm e)]
  · rw [List.getElem?_eq_none (by rw [List.length_set, valU_len]; omega), List.getElem?_eq_none (by rw [valU_len]; omega)]
theorem valU_at {w : World} {g t n : Nat} {f : Nat → Nat} (h : Blk w g t (valU n f).toArray) {k : Nat} (hk : k < n) : w.cell? ⟨g, k, none⟩ = some (.int .u32 (f k : Int)) := by
  rw [h.cell k, List.getElem?_toArray, valU_get f hk]
theorem valU_st {w : World} {g t n : Nat} {f : Nat → Nat} (h : Blk w g t (valU n f).toArray) (k : Nat) (v : Nat) : Blk (w.setCell ⟨g, k, none⟩ (.int .u32 (v : Int))) g t (valU n (PlT.upd f k v)).toArray := by
  have := h.setL k (.int .u32 (v : Int))
  rwa [valU_set] at this
theorem valU_new (w : World) (t n : Nat) : Blk (w.alloc (.cells (madeCells #[.int .u32 0] n) t)) w.heap.size t (valU n (fun _ => 0)).toArray := by
  have e : valU n (fun _ => 0) = List.replicate n (.int .u32 0) := by
    apply List.ext_getElem
    · simp [valU]
    · intro i h1 h2; simp [valU]
  rw [e, made_list]
  exact Blk.new _ _ _
theorem not32 {e : Nat} (he : e < 4294967296) : bits .xor .u32 4294967295 (e : Int) = ((4294967295 - e : Nat) : Int) := by
  rw [show (4294967295 : Int) = ((4294967295 : Nat) : Int) from rfl, u32_xor_nat _ _ (by decide) he]
  congr 1
  apply Nat.eq_of_testBit_eq
  intro i
  have h1 := Nat.testBit_two_pow_sub_succ (n := 32) (x := e) he i
  rw [show 2 ^ 32 - (e + 1) = 4294967295 - e by omega] at h1
  rw [Nat.testBit_xor, h1, show (4294967295 : Nat) = 2 ^ 32 - 1 from rfl, Nat.testBit_two_pow_sub_one]
  by_cases hi : i < 32
  · simp [hi]
  · have : e.testBit i = false := Nat.testBit_lt_two_pow (Nat.lt_of_lt_of_le he (Nat.pow_le_pow_right (n := 2) (by decide) (show 32 ≤ i by omega)))
    simp [hi, this]
theorem Try.infoU32 : (Try.prog.info? 39).map (fun i => (i.zero, i.size, i.bytes)) = some (some (.int .u32 0), 1, 4) := by kernel_rfl

def KpRel (w : World) (sp : Array Value) (gi gs m : Nat) (s : PlT.Kp) (wr : World) : Prop :=
  Blk wr w.heap.size 25 sp ∧ Blk wr gi 4 ((marks m s.ins).map Value.bool).toArray ∧ Blk wr gs 39 (valU m s.srv).toArray ∧ Below w.heap.size w wr
def KpPost (w : World) (m : Nat) (f : Nat → Bool) (e : Ending) (w' : World) : Prop :=
  ∃ g, e = .returned (.slice (some ⟨g, 0, none⟩) m m) ∧ w.heap.size ≤ g ∧ Blk w' g 4 ((marks m f).map Value.bool).toArray ∧ Below w.heap.size w w'
theorem num_rd {w : World} {B : Nat} {A : Option Addr} {n : Nat} {c : Nat → Int} {k : Nat} (h : Reads w B 1 A n (nums n c)) (hk : k < n) : ∃ ad, A = some ad ∧ ad.block < B ∧ w.cell? (ad.add k) = some (.int .i64 (c k)) := by
  obtain ⟨ad, e, hb, hc⟩ := h.2 (by omega)
  exact ⟨ad, e, hb, hc k _ (nums_get c hk)⟩
theorem bit_is (x v : Nat) (hx : x < 4294967296) : (bits .and .u32 ((x : Int) / 2 ^ v) 1 == 0) = !x.testBit v := by
  have h := Pl.has_bit x v hx
  have e : ((x : Int) / 2 ^ v) = ((x / 2 ^ v : Nat) : Int) := by simp
  have hlt : x / 2 ^ v < 4294967296 := Nat.lt_of_le_of_lt (Nat.div_le_self _ _) hx
  rw [e, show (1 : Int) = ((1 : Nat) : Int) from rfl, u32_and_nat _ 1 hlt (by decide), nat_mask1] at h ⊢
  rw [← h]
  rcases Nat.mod_two_eq_zero_or_one (x / 2 ^ v) with h | h <;> rw [h] <;> rfl

theorem KpRel.alloc {w wr : World} {sp : Array Value} {gi gs m : Nat} {s : PlT.Kp} (h : KpRel w sp gi gs m s wr) (o : Obj) : KpRel w sp gi gs m s (wr.alloc o) :=
  ⟨h.1.alloc o, h.2.1.alloc o, h.2.2.1.alloc o, h.2.2.2.alloc h.2.2.2.size o⟩
theorem KpRel.drew {w wr : World} {sp : Array Value} {gi gs m : Nat} {s : PlT.Kp} (h : KpRel w sp gi gs m s wr) : KpRel w sp gi gs m s wr.drew := ⟨h.1, h.2.1, h.2.2.1, h.2.2.2.drew⟩
theorem KpRel.ins {w wr : World} {sp : Array Value} {gi gs m : Nat} {s : PlT.Kp} (h : KpRel w sp gi gs m s wr) (hg : w.heap.size ≤ gi) (j : Nat) (b : Bool) : KpRel w sp gi gs m ⟨PlT.upd s.ins j b, s.srv⟩ (wr.setCell ⟨gi, j, none⟩ (.bool b)) := by
  refine ⟨h.1.far (Blk.ne_ h.1 h.2.1 (by decide)) _, ?_, h.2.2.1.far (Blk.ne_ h.2.2.1 h.2.1 (by decide)) _, h.2.2.2.setCell hg _⟩
  exact mark_set h.2.1 j b
theorem KpRel.srv {w wr : World} {sp : Array Value} {gi gs m : Nat} {s : PlT.Kp} (h : KpRel w sp gi gs m s wr) (hg : w.heap.size ≤ gs) (j v : Nat) : KpRel w sp gi gs m ⟨s.ins, PlT.upd s.srv j v⟩ (wr.setCell ⟨gs, j, none⟩ (.int .u32 (v : Int))) :=
  ⟨h.1.far (Blk.ne_ h.1 h.2.2.1 (by decide)) _, h.2.1.far (Blk.ne_ h.2.1 h.2.2.1 (by decide)) _, valU_st h.2.2.1 j v, h.2.2.2.setCell hg _⟩
theorem fold_take {α β : Type} (f : β → α → β) (b : β) (l : List α) {j : Nat} (h : j < l.length) : (l.take (j + 1)).foldl f b = f ((l.take j).foldl f b) l[j] := by
  rw [List.take_add_one, List.getElem?_eq_getElem h, List.foldl_append]; rfl
theorem getD_l {α : Type} {l : List α} {k : Nat} (d : α) (h : k < l.length) : l.getD k d = l[k] := by rw [List.getD_eq_getElem?_getD, List.getElem?_eq_getElem h]; rfl
/-- the marks while the nodes of part i are looked at -/
def mk2 (s : PlT.Kp) (i v : Nat) (a : Nat) : Bool := if a < i then s.ins a && PlT.allTo (s.srv a) 24 else if a = i then s.ins a && PlT.allTo (s.srv a) v else s.ins a
theorem mk2_start (s : PlT.Kp) (a : Nat) : mk2 s 0 0 a = s.ins a := by
  unfold mk2
  rw [if_neg (Nat.not_lt_zero a)]
  split
  · simp [PlT.allTo]
  · rfl
theorem mk2_next (s : PlT.Kp) (i a : Nat) : mk2 s i 24 a = mk2 s (i + 1) 0 a := by
  unfold mk2
  by_cases h : a < i
  · rw [if_pos h, if_pos (by omega)]
  · by_cases e : a = i
    · rw [if_neg h, if_pos e, if_pos (by omega)]
    · rw [if_neg h, if_neg e, if_neg (by omega)]
      split
      · simp [PlT.allTo]
      · rfl
theorem mk2_one (s : PlT.Kp) (i v a : Nat) (h : (s.srv i).testBit v = true) : mk2 s i (v + 1) a = mk2 s i v a := by
  unfold mk2
  split
  · rfl
  · split
    · rename_i e; subst e; simp [PlT.allTo, h]
    · rfl
theorem mk2_zero (s : PlT.Kp) (i v a : Nat) (h : (s.srv i).testBit v = false) : mk2 s i (v + 1) a = if a = i then false else mk2 s i v a := by
  unfold mk2
  by_cases e : a = i
  · subst e; rw [if_neg (Nat.lt_irrefl _), if_pos rfl, if_pos rfl]; simp [PlT.allTo, h]
  · rw [if_neg e, if_neg e, if_neg e]
theorem mk2_end (s : PlT.Kp) (m a : Nat) (h : a < m) : mk2 s m 0 a = (s.ins a && PlT.allTo (s.srv a) 24) := by unfold mk2; rw [if_pos h]

set_option maxRecDepth 100000 in
set_option maxHeartbeats 4000000 in
theorem kept_ok (n : Nat) (E : List Nat) (L : List (List Arc)) (v : Value) (hE : WfE E) (hL : WfL L) (hEn : E.length = n) (hLn : L.length = n) (hn1 : 1 ≤ n) (hn : n ≤ 32768) (hto : ∀ k (hk : k < L.length), ∀ x ∈ L[k], 0 ≤ x.2 ∧ x.2 < (n : Int))
    (c : Nat → Int) (m : Nat) (cm : Nat → Nat) (hm0 : cm 0 = 0) (hmn : cm n = m) (hms : ∀ k, k < n → (cm (k + 1) : Int) = max (cm k : Int) (c k + 1)) (hmle : ∀ k, k ≤ n → cm k ≤ k) (hc : ∀ k, k < n → -1 ≤ c k ∧ c k < m)
    (Ac : Option Addr) (cc : Nat) (w : World) (hS : SpaceAt w w.heap.size v E L) (hcr : Reads w w.heap.size 1 Ac n (nums n c)) :
    Calls Try.prog 27 #[v, .slice Ac n cc] w (KpPost w m (PlT.keptB c E L n)) := by
  obtain ⟨ve, va, rfl, ⟨Ae, ce, rfl, re⟩, ⟨Aa, ca, rows, rfl, ra, hk⟩⟩ := hS
  subst hEn
  rw [hLn] at ra ⊢
  obtain ⟨aa, hA, -⟩ := ra.2 (by omega)
  subst hA
  obtain ⟨ae, hA, -⟩ := re.2 (by omega)
  subst hA
  obtain ⟨ac, hA, -⟩ := hcr.2 (by omega)
  subst hA
  have RE := Lib.hid re
  have RA := Lib.hid ra
  have HK := Lib.hid hk
  have HE := Lib.hid hE
  have HL := Lib.hid hL
  have HLN := Lib.hid hLn
  have HTO := Lib.hid hto
  have RC := Lib.hid hcr
  have HMS := Lib.hid hms
  have HMN := Lib.hid hmn
  have HMLE := Lib.hid hmle
  have HC := Lib.hid hc
  generalize hnn : E.length = n at *
  have HNN := Lib.hid hnn
  clear re ra hk hE hL hLn hto hcr hms hmn hmle hc hnn
  go_enter Try.func27, Try.ntmps27
  go_wp2_with fail
  go_loopw [5, 18] (fun x i wr => ∃ k : Nat, k ≤ n ∧ i = .int .i64 k ∧ x = .int .i64 (cm k : Int) ∧ Blk wr w.heap.size 25 #[.slice (some ae) n ce, .slice (some aa) n ca] ∧ Below w.heap.size w wr) (fun _ i _ => n - (intOf i).toNat)
  case atStart => exact ⟨0, Nat.zero_le _, rfl, by rw [hm0]; rfl, Blk.new _ _ _, (Below.refl _ _).alloc (Nat.le_refl _) _⟩
  case round =>
    obtain ⟨k, hk, rfl, rfl, bs, hB⟩ := hrel
    have HB := Lib.hid hB
    by_cases hlt : k < n
    · obtain ⟨ad', hA, hbl, c0⟩ := num_rd (RC.out.below hB) hlt
      obtain rfl : ac = ad' := by injection hA
      have hck := HC.out k hlt
      have hs1 := HMS.out k hlt
      have hl1 := HMLE.out k hk
      have hm1 : m ≤ n := by have := HMLE.out n (Nat.le_refl _); rw [HMN.out] at this; exact this
      have k0 : (0 : Int) ≤ (k : Int) := by omega
      have k1 : (k : Int) < (n : Int) := by omega
      have k2 : k < n := hlt
      clear hA hB
      generalize c k = x at *
      have HS1 := Lib.hid hs1
      clear hs1
      go_wp2
      refine ⟨⟨k + 1, by omega, by go_num, ?_, bs, HB.out⟩, by simp [intOf]; omega⟩
      rw [HS1.out, Int.max_def]
      congr 1
      split <;> split <;> omega
    · obtain rfl : n = k := by omega
      rw [HMN.out]
      have hm1 : m ≤ n := by have := HMLE.out n (Nat.le_refl _); rw [HMN.out] at this; exact this
      have hmk1 := run_make_row' (P := Try.prog) 26 4 (.bool false) 1 Try.underlying26 Try.infoBool rfl .i64 .i64 m (by omega) (by omega)
      have hmk2 := run_make_row' (P := Try.prog) 22 39 (.int .u32 0) 4 Try.underlying22 Try.infoU32 rfl .i64 .i64 m (by omega) (by omega)
      have hbz := hB.size
      have HST := Lib.hid (show KpRel w #[.slice (some ae) n ce, .slice (some aa) n ca] wr.heap.size (wr.heap.size + 1) m (PlT.kpTo c E L 0) ((wr.alloc (.cells (madeCells #[.bool false] m) 4)).alloc (.cells (madeCells #[.int .u32 0] m) 39)) from
        ⟨(bs.alloc _).alloc _, (marks_new wr m).alloc _, by have := valU_new (wr.alloc (.cells (madeCells #[.bool false] m) 4)) 39 m; rwa [World.size_alloc] at this, (hB.alloc hbz _).alloc (by simp; omega) _⟩)
      clear hB
      go_wp2_with fail
      clear hmk1 hmk2
      obtain ⟨gi, hgi⟩ : ∃ gi, wr.heap.size = gi := ⟨_, rfl⟩
      rw [hgi] at HST hbz
      try rw [hgi]
      go_loopw [33] (fun i wx => ∃ k : Nat, k ≤ n ∧ i = .int .i64 k ∧ KpRel w #[.slice (some ae) n ce, .slice (some aa) n ca] gi (gi + 1) m (PlT.kpTo c E L k) wx) (fun i _ => n - (intOf i).toNat)
      case atStart => exact ⟨0, Nat.zero_le _, rfl, HST.out⟩
      case round =>
        clear HST HB bs
        obtain ⟨k, hk, rfl, hR⟩ := hrel
        have HR := Lib.hid hR
        obtain ⟨bs, bi, bu, hB⟩ := hR
        by_cases hlt : k < n
        · obtain ⟨ad', hA, hbl, c0⟩ := num_rd (RC.out.below hB) hlt
          obtain rfl : ac = ad' := by injection hA
          have hck := HC.out k hlt
          have k0 : (0 : Int) ≤ (k : Int) := by omega
          have k1 : (k : Int) < (n : Int) := by omega
          have hstep : PlT.kpTo c E L (k + 1) = PlT.stStep c E L (PlT.kpTo c E L k) k := rfl
          unfold PlT.stStep at hstep
          by_cases hneg : c k < 0
          · rw [if_pos hneg] at hstep
            have HSTEP := Lib.hid hstep
            clear hstep hA hB bs bi bu
            generalize c k = x at *
            go_wp2
            refine ⟨⟨k + 1, by omega, by go_num, by rw [HSTEP.out]; exact HR.out⟩, by simp [intOf]; omega⟩
          · rw [if_neg hneg] at hstep
            have hkE : k < E.length := by have := HNN.out; omega
            have hkL : k < L.length := by have := HLN.out; omega
            have hek := HE.out k hkE
            obtain ⟨aE, hAE, hble, ce0⟩ := set_at (show Reads wr w.heap.size 1 (some ae) E.length (E.map fun z : Nat => Value.int .u32 (z : Int)) by rw [HNN.out]; exact RE.out.below hB) hkE
            obtain rfl : ae = aE := by injection hAE
            obtain ⟨aL, Ak, ck, hAL, hbla, cr, rk⟩ := row_at (show Reads wr w.heap.size 1 (some aa) L.length rows by rw [HLN.out]; exact RA.out.below hB) (fun k l hl => let ⟨u, hu, ha⟩ := HK.out k l hl; (⟨u, hu, ha.below hB⟩ : ∃ u, rows[k]? = some u ∧ ArcsAt wr w.heap.size u l)) hkL
            obtain rfl : aa = aL := by injection hAL
            have hll := (HL.out k hkL).1
            have HLS := Lib.hid (HL.out k hkL).2
            have HTS := Lib.hid (HTO.out k hkL)
            have RK0 := Lib.hid (show Reads w w.heap.size 2 Ak L[k].length (L[k].flatMap arcCells) from rk.keep fun p hp => (hB.cell hp).symm)
            rw [getD_l 0 hkE, getD_l [] hkL] at hstep
            generalize L[k] = l at *
            generalize E[k] = e at *
            obtain ⟨J, hJ⟩ : ∃ J : Nat, c k = (J : Int) := ⟨(c k).toNat, by omega⟩
            rw [hJ] at c0 hck hneg hstep
            rw [Int.toNat_natCast] at hstep
            have HSTEP := Lib.hid hstep
            have hJm : J < m := by omega
            have cu := valU_at bu hJm
            have cuf := bu.frozen J
            have hbu := bu.lt
            have hsv : (PlT.kpTo c E L k).srv J < 4294967296 := PlT.kp_lt (fun x a ha => by
              by_cases hx : x < L.length
              · rw [getD_l [] hx] at ha
                obtain ⟨i, hi, rfl⟩ := List.getElem_of_mem ha
                exact (HL.out x hx).2 i hi
              · rw [List.getD_eq_getElem?_getD, List.getElem?_eq_none (by omega)] at ha
                cases ha) k J
            have HK2 := Lib.hid (HR.out.srv (by omega) J ((PlT.kpTo c E L k).srv J ||| (4294967295 - e)))
            have HOL := Lib.hid (fun i => PlT.own_lt e J i (PlT.kpTo c E L k) (PlT.kp_lt (fun x a ha => by
              by_cases hx : x < L.length
              · rw [getD_l [] hx] at ha
                obtain ⟨i, hi, rfl⟩ := List.getElem_of_mem ha
                exact (HL.out x hx).2 i hi
              · rw [List.getD_eq_getElem?_getD, List.getElem?_eq_none (by omega)] at ha
                cases ha) k i))
            have HOWN := Lib.hid (show PlT.own e J (PlT.kpTo c E L k) = ⟨(PlT.kpTo c E L k).ins, PlT.upd (PlT.kpTo c E L k).srv J ((PlT.kpTo c E L k).srv J ||| (4294967295 - e))⟩ from rfl)
            generalize (PlT.kpTo c E L k).srv J = sv at *
            obtain ⟨p0, p1, pf⟩ := blk2 bs
            have J0 : (0 : Int) ≤ (J : Int) := by omega
            have J1 : (J : Int) < (m : Int) := by omega
            have hnx := not32 hek
            have hor := u32_or_nat sv (4294967295 - e) hsv (by omega)
            have hdl : decide ((J : Int) < 0) = false := decide_eq_false (by omega)
            clear hstep hA hB bs bi bu hAE hAL rk hJ
            go_upto_region 13 with fail
            go_still_tail 12, (by kernel_rfl)
            change wpList _ _ _ _ _ wr.drew
            go_upto_region 14 with fail
            generalize hW1 : World.drew _ = W1
            have hR1 : KpRel w #[.slice (some ae) n ce, .slice (some aa) n ca] gi (gi + 1) m (PlT.own e J (PlT.kpTo c E L k)) W1 := by
              rw [← hW1, HOWN.out, show (if IntKind.u32.signed = true then (-1 : Int) else IntKind.u32.max) = 4294967295 from rfl, hnx, hor]; exact HK2.out.drew
            have HR1 := Lib.hid hR1
            have crW := (hR1.2.2.2.cell (p := aa.add k) (by rw [block_of_add]; exact hbla)).trans (((HR.out.2.2.2.cell (p := aa.add k) (by rw [block_of_add]; exact hbla)).symm).trans cr)
            obtain ⟨q0, q1, qf⟩ := blk2 hR1.1
            clear hW1 hR1 p0 p1 pf cu cuf c0 ce0 cr hnx hor HR HK2 HOWN hbu hsv
            generalize PlT.own e J (PlT.kpTo c E L k) = s0 at *
            go_wp2_with fail
            clear q0 q1 qf crW
            go_loopw [58] (fun i wx => ∃ j : Nat, j ≤ l.length ∧ i = .int .i64 j ∧ KpRel w #[.slice (some ae) n ce, .slice (some aa) n ca] gi (gi + 1) m ((l.take j).foldl (PlT.arcStep c J) s0) wx) (fun i _ => l.length - (intOf i).toNat)
            case atStart => exact ⟨0, Nat.zero_le _, rfl, HR1.out⟩
            case round =>
              clear HR1
              obtain ⟨j, hj, rfl, hR⟩ := hrel
              have HR := Lib.hid hR
              by_cases hlt2 : j < l.length
              · obtain ⟨ad2, hA, hbl2, a0, a1⟩ := arc_at (RK0.out.below hR.2.2.2) hlt2
                subst hA
                have hx := HTS.out l[j] (List.getElem_mem _)
                have hx1 := HLS.out j hlt2
                have HFT := Lib.hid (fold_take (PlT.arcStep c J) s0 l hlt2)
                have HSL := Lib.hid (PlT.fold_lt (c := c) J J (l.take j) s0 (HOL.out J) (fun a ha => by obtain ⟨i, hi, rfl⟩ := List.getElem_of_mem (List.mem_of_mem_take ha); exact HLS.out i hi))
                generalize l[j] = x at *
                generalize (l.take j).foldl (PlT.arcStep c J) s0 = s1 at *
                obtain ⟨xs, xt⟩ := x
                dsimp only at a0 a1 hx hx1
                obtain ⟨t, rfl⟩ : ∃ t : Nat, xt = (t : Int) := ⟨xt.toNat, by omega⟩
                have htn : t < n := by omega
                have hft := HFT.out
                rw [show PlT.arcStep c J s1 (xs, (t : Int)) = if c t = (J : Int) then ⟨PlT.upd s1.ins J true, PlT.upd s1.srv J (s1.srv J ||| xs)⟩ else s1 from rfl] at hft
                obtain ⟨ad', hA, hbl', c0⟩ := num_rd (RC.out.below hR.2.2.2) htn
                obtain rfl : ac = ad' := by injection hA
                have c0' : (wr.alloc (.cells #[.int .u32 (xs : Int), .int .i64 (t : Int)] 41)).cell? (ac.add t) = some (.int .i64 (c t)) := (World.cell?_alloc_lt _ _ _ (by rw [block_of_add]; exact Nat.lt_of_lt_of_le hbl' hR.2.2.2.size)).trans c0
                have j0 : (0 : Int) ≤ (j : Int) := by omega
                have j1 : (j : Int) < (l.length : Int) := by omega
                have t0 : (0 : Int) ≤ (t : Int) := by omega
                have t1 : (t : Int) < (n : Int) := by omega
                clear hA HFT hx
                by_cases hct : c t = (J : Int)
                · rw [if_pos hct] at hft
                  have hqq : (c t == (J : Int)) = true := by rw [beq_iff_eq]; exact hct
                  have hRR := (HR.out.ins hbz J true).alloc (.cells #[.int .u32 (xs : Int), .int .i64 (t : Int)] 41)
                  have bA := blk_new_set wr ⟨gi, J, none⟩ (.bool true) 41 #[.int .u32 (xs : Int), .int .i64 (t : Int)]
                  have hfz := hR.2.1.frozen J
                  have HRR := Lib.hid hRR
                  have cu := valU_at hRR.2.2.1 hJm
                  have cuf := hRR.2.2.1.frozen J
                  have hbi := hR.2.1.lt
                  have cm0 := mark_at hR.2.1 hJm
                  have HST := Lib.hid ((HRR.out.srv (by omega) J (s1.srv J ||| xs)))
                  have HFT := Lib.hid hft
                  have hsl := HSL.out
                  have hor := u32_or_nat (s1.srv J) xs hsl hx1
                  obtain ⟨z0, z1, zf⟩ := blk2 bA
                  dsimp only at cu
                  generalize hsvv : s1.srv J = sv at *
                  clear hft hR hRR bA hct hsvv
                  go_upto_region 19 with fail
                  generalize hW2 : (wr.setCell ⟨gi, J, none⟩ (.bool true)).alloc (.cells #[.int .u32 (xs : Int), .int .i64 (t : Int)] 41) = W2 at *
                  clear hW2
                  go_still_tail 8, (by kernel_rfl)
                  change wpList _ _ _ _ _ W2.drew
                  go_wp2
                  refine ⟨⟨j + 1, by omega, by go_num, ?_⟩, by simp [intOf]; omega⟩
                  rw [HFT.out]
                  exact HST.out.drew
                · rw [if_neg hct] at hft
                  have hqq : (c t == (J : Int)) = false := beq_eq_false_iff_ne.2 hct
                  have HFT := Lib.hid hft
                  clear hft hR hct
                  go_wp2
                  refine ⟨⟨j + 1, by omega, by go_num, ?_⟩, by simp [intOf]; omega⟩
                  rw [HFT.out]
                  exact HR.out.alloc _
              · obtain rfl : l.length = j := by omega
                rw [List.take_length] at HR
                clear hR
                go_wp2
                refine ⟨⟨k + 1, by omega, by go_num, by rw [HSTEP.out]; exact HR.out⟩, by simp [intOf]; omega⟩
        · obtain rfl : n = k := by omega
          have HSV := Lib.hid (fun j => PlT.kp_lt (c := c) (E := E) (fun x a ha => by
              by_cases hx : x < L.length
              · rw [getD_l [] hx] at ha
                obtain ⟨i, hi, rfl⟩ := List.getElem_of_mem ha
                exact (HL.out x hx).2 i hi
              · rw [List.getD_eq_getElem?_getD, List.getElem?_eq_none (by omega)] at ha
                cases ha) n j)
          have HKB := Lib.hid (show ∀ j, PlT.keptB c E L n j = ((PlT.kpTo c E L n).ins j && PlT.allTo ((PlT.kpTo c E L n).srv j) 24) from fun _ => rfl)
          generalize PlT.kpTo c E L n = s0 at *
          clear bs bi bu hB
          go_wp2_with fail
          go_loopw [83] (fun i wx => ∃ k : Nat, k ≤ m ∧ i = .int .i64 k ∧ KpRel w #[.slice (some ae) n ce, .slice (some aa) n ca] gi (gi + 1) m ⟨mk2 s0 k 0, s0.srv⟩ wx) (fun i _ => m - (intOf i).toNat)
          case atStart =>
            refine ⟨0, Nat.zero_le _, rfl, ?_⟩
            have h := HR.out
            refine ⟨h.1, ?_, h.2.2.1, h.2.2.2⟩
            rw [marks_congr (g := s0.ins) (fun k _ => mk2_start s0 k)]
            exact h.2.1
          case round =>
            clear HR
            obtain ⟨k, hk, rfl, hR⟩ := hrel
            have HR := Lib.hid hR
            by_cases hlt : k < m
            · clear hR
              have k0 : (0 : Int) ≤ (k : Int) := by omega
              have k1 : (k : Int) < (m : Int) := by omega
              go_wp2_with fail
              go_loopw [86] (fun i wx => ∃ b : Nat, b ≤ 24 ∧ i = .int .i64 b ∧ KpRel w #[.slice (some ae) n ce, .slice (some aa) n ca] gi (gi + 1) m ⟨mk2 s0 k b, s0.srv⟩ wx) (fun i _ => 24 - (intOf i).toNat)
              case atStart => exact ⟨0, Nat.zero_le _, rfl, HR.out⟩
              case round =>
                clear HR
                obtain ⟨b, hb, rfl, hR⟩ := hrel
                have HR := Lib.hid hR
                by_cases hb2 : b < 24
                · have cu := valU_at hR.2.2.1 hlt
                  have cm0 := mark_at hR.2.1 hlt
                  have cmf := hR.2.1.frozen k
                  have hbi := hR.2.1.lt
                  have hbit := bit_is (s0.srv k) b (HSV.out k)
                  have b0 : (0 : Int) ≤ (b : Int) := by omega
                  have b1 : (b : Int) < 24 := by omega
                  cases hbb : (s0.srv k).testBit b
                  · rw [hbb] at hbit
                    have HM := Lib.hid (fun a => mk2_zero s0 k b a hbb)
                    dsimp only at cu cm0
                    generalize s0.srv k = sv at *
                    clear hR hbb
                    go_wp2
                    refine ⟨⟨b + 1, by omega, by go_num, ?_⟩, by simp [intOf]; omega⟩
                    have h := HR.out.ins hbz k false
                    refine ⟨h.1, ?_, h.2.2.1, h.2.2.2⟩
                    have h2 : Blk (wr.setCell ⟨gi, k, none⟩ (.bool false)) gi 4 ((marks m (fun a => if a = k then false else mk2 s0 k b a)).map Value.bool).toArray := h.2.1
                    rw [marks_congr (g := mk2 s0 k (b + 1)) (fun a _ => (HM.out a).symm)] at h2
                    exact h2
                  · rw [hbb] at hbit
                    have HM := Lib.hid (fun a => mk2_one s0 k b a hbb)
                    dsimp only at cu cm0
                    generalize s0.srv k = sv at *
                    clear hR hbb
                    go_wp2
                    refine ⟨⟨b + 1, by omega, by go_num, ?_⟩, by simp [intOf]; omega⟩
                    have h := HR.out
                    refine ⟨h.1, ?_, h.2.2.1, h.2.2.2⟩
                    rw [marks_congr (g := mk2 s0 k b) (fun a _ => HM.out a)]
                    exact h.2.1
                · obtain rfl : b = 24 := by omega
                  clear hR
                  go_wp2
                  refine ⟨⟨k + 1, by omega, by go_num, ?_⟩, by simp [intOf]; omega⟩
                  have h := HR.out
                  refine ⟨h.1, ?_, h.2.2.1, h.2.2.2⟩
                  rw [marks_congr (g := mk2 s0 k 24) (fun a _ => (mk2_next s0 k a).symm)]
                  exact h.2.1
            · obtain rfl : m = k := by omega
              have HF := Lib.hid (show KpPost w m (PlT.keptB c E L n) (.returned (.slice (some ⟨gi, 0, none⟩) m m)) wr from by
                refine ⟨gi, rfl, hbz, ?_, hR.2.2.2⟩
                have h := hR.2.1
                rw [marks_congr (g := PlT.keptB c E L n) (fun a ha => (mk2_end s0 m a ha).trans (HKB.out a).symm)] at h
                exact h)
              clear hR
              go_wp2
              go_ret
              exact HF.out
end Go.Proofs.Ytnjbofahboopoaa
