/- Lemmas of this seat, laid together out of 2 texts: no statement of the seat is proved here. -/
import Derived.Test.YtdfklagiafmoiaaGreatDoorG29
/- Slices of sets; the neighbours of each node. -/
namespace Go.Proofs.YtdfklagiafmoiaaGreatDoor
open Go.RowKit

def rU (s : Nat) (us : List Value) : Prop := us = [.int .u32 (s : Int)]
def U32At (w : World) (B : Nat) := ListAt w B 1 rU
def uv (l : List Nat) : List Value := l.map fun (s : Nat) => .int .u32 (s : Int)
theorem U32At.to {w w' : World} {B B' : Nat} (k : Holds_ B B' w w') {v : Value} {l : List Nat} (h : U32At w B v l) : U32At w' B' v l := ListAt.to h k fun _ _ h => h
theorem u32_at {w : World} {B : Nat} {l : List Nat} {A : Option Addr} {n c k : Nat} (h : U32At w B (.slice A n c) l) (hk : k < l.length) : ∃ ad, A = some ad ∧ ad.block < B ∧ w.cell? (ad.add k) = some (.int .u32 (l[k] : Int)) := by
  obtain ⟨ad, us, e, hb, rfl, _, hc⟩ := ListAt.at_ h hk
  have := hc 0 _ rfl
  rw [Nat.mul_one] at this
  exact ⟨ad, e, hb, this⟩
theorem u32_own {w : World} {base e n : Nat} {v : Value} {l : List Nat} (h : w.ownsRow base e 1 v n (uv l)) : ∃ A c, v = .slice A l.length c ∧ U32At w w.heap.size (.slice A l.length c) l := by
  obtain ⟨A, c, rfl⟩ := own_sl h
  obtain rfl : n = l.length := by have := h.1; unfold uv at this; simpa using this.symm
  refine ⟨A, c, rfl, A, c, _, rfl, Reads.of_own h, fun k x hx => ⟨[.int .u32 (x : Int)], rfl, rfl, fun j u hj => ?_⟩⟩
  rcases j with _ | j
  · simp only [List.getElem?_cons_zero, Option.some.injEq] at hj
    subst hj
    unfold uv
    rw [Nat.mul_one, Nat.add_zero, List.getElem?_map, hx]; rfl
  · simp at hj
theorem u32_sl {w : World} {B : Nat} {v : Value} {L : List Nat} (h : U32At w B v L) : ∃ A c, v = .slice A L.length c := ListAt.sl h
/-- the set of a node's neighbours, out of its first links -/
def nbrL (l : List Tm) : Nat := l.foldl (fun s t => s ||| 2 ^ t.1.toNat) 0
theorem nbrL_snoc (l : List Tm) (k : Nat) (h : k < l.length) : nbrL (l.take (k + 1)) = nbrL (l.take k) ||| 2 ^ l[k].1.toNat := by
  unfold nbrL; rw [List.take_succ_eq_append_getElem h, List.foldl_append]; rfl
theorem nbrL_lt {l : List Tm} (h : ∀ t ∈ l, t.1.toNat < 24) : nbrL l < 16777216 := by
  unfold nbrL
  have key : ∀ (l : List Tm) (s : Nat), s < 2 ^ 24 → (∀ t ∈ l, t.1.toNat < 24) → l.foldl (fun s t => s ||| 2 ^ t.1.toNat) s < 2 ^ 24 := by
    intro l
    induction l with
    | nil => intro s hs _; exact hs
    | cons t l ih =>
      intro s hs hl
      rw [List.foldl_cons]
      exact ih _ (Nat.or_lt_two_pow hs (Nat.pow_lt_pow_right (by decide) (hl t (by simp)))) (fun x hx => hl x (by simp [hx]))
  exact key l 0 (by decide) h
theorem nbrL_bit (l : List Tm) (i : Nat) : (nbrL l).testBit i = l.any fun t => t.1.toNat == i := by
  unfold nbrL
  have key : ∀ (l : List Tm) (s : Nat), (l.foldl (fun s t => s ||| 2 ^ t.1.toNat) s).testBit i = (s.testBit i || l.any fun t => t.1.toNat == i) := by
    intro l
    induction l with
    | nil => intro s; simp
    | cons t l ih =>
      intro s
      rw [List.foldl_cons, ih, Nat.testBit_or, Nat.testBit_two_pow, List.any_cons, Bool.or_assoc]
      congr 1
  rw [key]; simp
def nbr (g : Gr) (v : Nat) : Nat := nbrL (g.ports.getD v [])
def nets (g : Gr) : List Nat := (List.range g.ports.length).map (nbr g)
/-- v rows done, s in the next -/
def netX (g : Gr) (v s : Nat) : List Nat := (List.range g.ports.length).map fun i => if i < v then nbr g i else if i = v then s else 0
theorem netX_len (g : Gr) (v s : Nat) : (netX g v s).length = g.ports.length := by simp [netX]
theorem netX_at {g : Gr} {v s : Nat} (h : v < g.ports.length) : (netX g v s)[v]'(by rw [netX_len]; exact h) = s := by simp [netX]
theorem netX_set {g : Gr} {v s s' : Nat} : (uv (netX g v s)).set v (.int .u32 (s' : Int)) = uv (netX g v s') := by
  unfold uv
  refine List.ext_getElem (by simp [netX]) fun i h1 h2 => ?_
  rw [List.getElem_set]
  simp only [List.getElem_map, netX, List.getElem_range]
  split
  · rename_i e; subst e; simp
  · rename_i e
    have : ¬ i = v := fun h => e h.symm
    simp [this]
theorem netX_next {g : Gr} {v : Nat} (h : v < g.ports.length) : netX g v (nbr g v) = netX g (v + 1) 0 := by
  unfold netX
  apply List.map_congr_left
  intro i hi
  rcases Nat.lt_trichotomy i v with h1 | h1 | h1
  · rw [if_pos h1, if_pos (by omega)]
  · subst h1; rw [if_neg (Nat.lt_irrefl _), if_pos rfl, if_pos (by omega)]
  · rw [if_neg (by omega), if_neg (by omega), if_neg (by omega)]
    split <;> rfl
theorem netX_full (g : Gr) : netX g g.ports.length 0 = nets g := by
  unfold netX nets
  apply List.map_congr_left
  intro i hi
  rw [if_pos (by simpa using hi)]
theorem netX_zero (g : Gr) : uv (netX g 0 0) = List.replicate g.ports.length (.int .u32 0) := by
  unfold netX uv
  refine List.ext_getElem (by simp) fun i h1 h2 => ?_
  simp
/-- neighbours of a node, made by the call -/
def NetOwn (w : World) (base : Nat) (v : Value) (l : List Nat) : Prop := ∃ b, v = .slice (some ⟨b, 0, none⟩) l.length l.length ∧ w.ownsRow base 34 1 (.slice (some ⟨b, 0, none⟩) l.length l.length) l.length (uv l)
theorem NetOwn.same {w X : World} {base : Nat} {v : Value} {l : List Nat} (h : NetOwn w base v l) (hk : Same base w X) : NetOwn X base v l := by
  obtain ⟨b, e, ho⟩ := h
  exact ⟨b, e, own_same ho hk⟩
theorem NetOwn.base_ {w : World} {base base' : Nat} {v : Value} {l : List Nat} (h : NetOwn w base v l) (hb : base' ≤ base) : NetOwn w base' v l := by
  obtain ⟨b, e, ho⟩ := h
  exact ⟨b, e, own_base ho hb⟩
theorem NetOwn.at_ {w : World} {base : Nat} {v : Value} {l : List Nat} (h : NetOwn w base v l) : U32At w w.heap.size v l := by
  obtain ⟨b, rfl, ho⟩ := h
  obtain ⟨A, c, e, h⟩ := u32_own ho
  rw [e]; exact h
end Go.Proofs.YtdfklagiafmoiaaGreatDoor

/- The neighbours of each node, made. -/
namespace Go.Proofs.YtdfklagiafmoiaaGreatDoor
open Go.RowKit

theorem own_made (w : World) (base : Nat) (hB : base ≤ w.heap.size) (e : TypeId) (z : Value) (n : Nat) (hn : n ≤ maxLen) : (w.alloc (.cells (madeCells #[z] n) e)).ownsRow base e 1 (.slice (some ⟨w.heap.size, 0, none⟩) n n) n (List.replicate n z) := by
  rw [made_list]
  exact ⟨by simp, .inr ⟨w.heap.size, n, _, rfl, hB, Blk.new _ _ _, Nat.le_refl _, hn, by simp, by simp⟩⟩
theorem Mem.made {w0 w : World} {l : List (Ch w0.heap.size)} (h : Mem w0 l w) (e : TypeId) (z : Value) (n : Nat) (hn : n ≤ maxLen) : Mem w0 (cR w0.heap.size e 1 (.slice (some ⟨w.heap.size, 0, none⟩) n n) n (List.replicate n z) :: l) (w.alloc (.cells (madeCells #[z] n) e)) :=
  h.push (galloc _ _) (own_made w _ h.size e z n hn) (fun b hb => by
    have hb' : some w.heap.size = some b := hb
    injection hb' with hb'
    omega)
theorem Tryz.infoU32 : (Tryz.prog.info? 34).map (fun i => (i.zero, i.size, i.bytes)) = some (some (.int .u32 0), 1, 4) := by kernel_rfl
def NnO (w : World) (g : Gr) (cg : Array Value) (n : Nat) (i : Value) (wr : World) : Prop := ∃ v : Nat, i = .int .i64 v ∧ v ≤ n ∧ Mem w [cR w.heap.size 34 1 (.slice (some ⟨w.heap.size + 1, 0, none⟩) n n) n (uv (netX g v 0)), cB w.heap.size w.heap.size 29 cg] wr
def NnI (w : World) (g : Gr) (cg : Array Value) (n v : Nat) (row : List Tm) (i : Value) (wr : World) : Prop := ∃ x : Nat, i = .int .i64 x ∧ x ≤ row.length ∧ Mem w [cR w.heap.size 34 1 (.slice (some ⟨w.heap.size + 1, 0, none⟩) n n) n (uv (netX g v (nbrL (row.take x)))), cB w.heap.size w.heap.size 29 cg] wr
def NtPost (w : World) (g : Gr) (e : Ending) (w' : World) : Prop := ∃ v, e = .returned v ∧ NetOwn w' w.heap.size v (nets g) ∧ Below w.heap.size w w'
set_option maxRecDepth 100000 in
set_option maxHeartbeats 16000000 in
theorem net_p (g : Gr) (hg : GrOk g) (vg : Value) (w : World) (hG : GraphAt w w.heap.size vg g) : Calls Tryz.prog 40 #[vg] w (NtPost w g) := by
  obtain ⟨vi, vq, rfl, -, hq⟩ := hG
  obtain ⟨Ap, cp, rfl⟩ := ports_sl hq
  have HQ := Lib.hid hq
  have hn24 := hg.hi
  have HGK := Lib.hid hg
  have HLK := Lib.hid (show ∀ (v x : Nat) (hv : v < g.ports.length) (hx : x < (g.ports[v]'hv).length), ∃ u : Nat, u < 24 ∧ (g.ports[v]'hv)[x].1 = (u : Int) from fun v x hv hx => by
    obtain ⟨_, _, _, _, hlk, _⟩ := HGK.out.ids v hv
    obtain ⟨hu, -, -, -⟩ := hlk x hx hx
    exact ⟨(g.ports[v]'hv)[x].1.toNat, by omega, by omega⟩)
  have HNB := Lib.hid (show ∀ (v : Nat) (hv : v < g.ports.length), nbrL (g.ports[v]'hv) = nbr g v ∧ (g.ports[v]'hv).length ≤ 24 ∧ ∀ x, nbrL ((g.ports[v]'hv).take x) < 16777216 from fun v hv => by
    refine ⟨?_, ?_, fun x => nbrL_lt fun t ht => ?_⟩
    · unfold nbr; rw [List.getD_eq_getElem?_getD, List.getElem?_eq_getElem hv]; rfl
    · obtain ⟨_, _, _, h2, _⟩ := HGK.out.ids v hv
      omega
    · obtain ⟨k, hk, rfl⟩ := List.getElem_of_mem (List.mem_of_mem_take ht)
      obtain ⟨u, hu, e⟩ := HLK.out v k hv hk
      omega)
  obtain ⟨n, hn⟩ : ∃ n, g.ports.length = n := ⟨_, rfl⟩
  rw [hn] at hn24
  have HN := Lib.hid hn
  have hmk := run_make_row' (P := Tryz.prog) 63 34 (.int .u32 0) 4 Tryz.underlying63 Tryz.infoU32 rfl .i64 .i64 n (by omega) (by omega)
  have hM := ((Mem.start w).new 29 #[vi, .slice Ap n cp]).made 34 (.int .u32 0) n (len_ok (by omega))
  simp only [World.size_alloc] at hM
  have hz := netX_zero g
  rw [hn] at hz
  rw [← hz] at hM
  have HM0 := Lib.hid hM
  rw [hn]
  clear hq hM hz hg hn
  go_enter Tryz.func40, Tryz.ntmps40
  go_wp2_with fail
  clear hmk
  go_loopw [15] (NnO w g #[vi, .slice Ap n cp] n) (fun i _ => n - (intOf i).toNat)
  case atStart => exact ⟨0, rfl, Nat.zero_le _, HM0.out⟩
  case round =>
    obtain ⟨v, rfl, hv, hM⟩ := hrel
    have HM := Lib.hid hM
    clear hM HM0
    by_cases hlt : v < n
    · have hvP : v < g.ports.length := by rw [HN.out]; exact hlt
      obtain ⟨ap, Ae, ce, hA, hbp, e0, he⟩ := row_at HQ.out hvP
      subst hA
      have hx2 : (ap.add v).block < w.heap.size := by rw [block_of_add]; exact hbp
      rw [← HM.out.bel.cell hx2] at e0
      obtain ⟨hnb, hnl, hns⟩ := HNB.out v hvP
      have HLV := Lib.hid (fun x hx => HLK.out v x hvP hx)
      obtain ⟨row, hrow⟩ : ∃ row, g.ports[v]'hvP = row := ⟨_, rfl⟩
      rw [hrow] at e0 he hnb hnl hns HLV
      have HE := Lib.hid he
      have HNX := Lib.hid hnb
      have HNS := Lib.hid hns
      have v0 : (0 : Int) ≤ (v : Int) := by omega
      have v1 : (v : Int) < (n : Int) := by omega
      have HLT := Lib.hid hlt
      obtain ⟨dn, hdn⟩ : ∃ dn, row.length = dn := ⟨_, rfl⟩
      rw [hdn] at e0 hnl
      have HDN := Lib.hid hdn
      clear he hnb hrow hns hdn
      go_wp2_with fail
      go_loopw [22] (NnI w g #[vi, .slice (some ap) n cp] n v row) (fun i _ => dn - (intOf i).toNat)
      case atStart => exact ⟨0, rfl, Nat.zero_le _, HM.out⟩
      case round =>
        obtain ⟨x, rfl, hx, hM⟩ := hrel
        rw [HDN.out] at hx
        have HM1 := Lib.hid hM
        clear hM e0
        by_cases hltx : x < dn
        · have hxr : x < row.length := by rw [HDN.out]; exact hltx
          obtain ⟨ae, hA, hbe, f0, f1⟩ := pair_at HE.out hxr
          subst hA
          have hx3 : (ae.add (x * 2)).block < w.heap.size := by rw [block_of_add]; exact hbe
          rw [← HM1.out.bel.cell (p := ae.add (x * 2)) hx3] at f0
          rw [← HM1.out.bel.cell (p := ⟨(ae.add (x * 2)).block, (ae.add (x * 2)).off + 1, none⟩) hx3] at f1
          obtain ⟨u, hu, hue⟩ := HLV.out x hxr
          have hsn := nbrL_snoc row x hxr
          obtain ⟨t, ht⟩ : ∃ t : Tm, row[x]'hxr = t := ⟨_, rfl⟩
          rw [ht] at f0 f1 hue hsn
          obtain ⟨tu, wt⟩ := t
          dsimp only at f0 f1 hue hsn
          subst hue
          rw [Int.toNat_natCast] at hsn
          have hsl := HNS.out x
          obtain ⟨s, hs⟩ : ∃ s, nbrL (row.take x) = s := ⟨_, rfl⟩
          rw [hs] at HM1 hsn hsl
          have HSN := Lib.hid hsn
          have hor := or_bit s u (by omega) (by omega)
          have HMA := Lib.hid (HM1.out.new 135 #[.int .i64 (u : Int), .int .i64 wt])
          have HLX := Lib.hid hltx
          have x0 : (0 : Int) ≤ (x : Int) := by omega
          have x1 : (x : Int) < (dn : Int) := by omega
          have u0 : (0 : Int) ≤ (u : Int) := by omega
          have u1 : (u : Int) < 32 := by omega
          have hcell : (uv (netX g v s))[v]? = some (.int .u32 (s : Int)) := by
            have hvl : v < (netX g v s).length := by rw [netX_len]; exact hvP
            unfold uv
            rw [List.getElem?_map, List.getElem?_eq_getElem hvl, netX_at hvP]; rfl
          clear ht hsn hs hsl
          go_upto_region 8 with fail
          generalize hW : World.alloc _ _ = W at *
          obtain ⟨t0, t1, tf⟩ := blk2 (HMA.out.get 0 rfl).2
          obtain ⟨g0, gf⟩ := own_at (HMA.out.get 1 rfl) hcell
          clear hW f0 f1
          go_still_tail 9, (by kernel_rfl)
          change wpList _ _ _ _ _ W.drew
          go_wp2
          refine ⟨⟨x + 1, by go_num, by rw [HDN.out]; exact HLX.out, ?_⟩, by simp [intOf]; omega⟩
          rw [HSN.out]
          exact ((HMA.out.storeR 1 rfl v (.int .u32 ((s ||| 2 ^ u : Nat) : Int)) netX_set).drew).erase 0
        · obtain rfl : x = dn := by omega
          have HM2 := Lib.hid (show Mem w [cR w.heap.size 34 1 (.slice (some ⟨w.heap.size + 1, 0, none⟩) n n) n (uv (netX g (v + 1) 0)), cB w.heap.size w.heap.size 29 #[vi, .slice (some ap) n cp]] wr from by
            have h := HM1.out
            rw [List.take_of_length_le (by rw [HDN.out]; exact Nat.le_refl _), HNX.out, netX_next (by rw [HN.out]; exact HLT.out)] at h
            exact h)
          go_wp2
          go_roundw
          case rel => exact ⟨v + 1, by go_num, HLT.out, HM2.out⟩
          case measure => simp [intOf]; omega
    · obtain rfl : v = n := by omega
      have HF := Lib.hid (show NetOwn wr w.heap.size (.slice (some ⟨w.heap.size + 1, 0, none⟩) v v) (nets g) from by
        have h := HM.out.get 0 rfl
        have e := netX_full g
        rw [HN.out] at e
        rw [e] at h
        have hl : (nets g).length = v := by unfold nets; simp [HN.out]
        refine ⟨w.heap.size + 1, ?_, ?_⟩
        · rw [hl]
        · rw [hl]; exact h)
      go_wp2
      go_ret
      exact ⟨_, rfl, HF.out, HM.out.bel⟩
end Go.Proofs.YtdfklagiafmoiaaGreatDoor
