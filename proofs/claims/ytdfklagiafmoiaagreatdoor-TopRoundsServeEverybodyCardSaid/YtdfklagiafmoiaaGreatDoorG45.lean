/- Lemmas of this seat, laid together out of 3 texts: no statement of the seat is proved here. -/
import Derived.ProofKit
import Derived.OpenShut
import Derived.Carry
import Derived.Test.YtdfklagiafmoiaaGreatDoorRows
import Derived.Test.YtdfklagiafmoiaaGreatDoorG30
import Derived.LaidMore
import Derived.Stop.Joined
import Derived.Lib.LaidTab
/- A law that returns true and leaves all old memory alone: the row's post out of 'Below'. -/
namespace Go.Proofs.YtdfklagiafmoiaaGreatDoor
open Go.ChangeShapes Go.WideShapes Go.ChangeAt Go.RowKit

section
variable {H : Type} {enc : TypeId × Value → H} {P : Program}
theorem trodAll_below (hl : laidOutB P = true) {W W' : World} (hb : Below W.heap.size W W') : ∀ (ts : List TypeId) (vs : List Value) (ds : List (DataW H)) (ps : List MemPlace),
    (∀ t ∈ ts, P.readableRec t = true ∧ t < P.types.size) → DataW.TrodAll enc P W 0 (fun _ => true) true ts vs ds ps → (∀ x ∈ ps, x.block < W.heap.size) →
    DataW.TrodAll enc P W' 0 (fun b => decide (b < W.heap.size)) true ts vs ds ps := by
  intro ts
  induction ts with
  | nil =>
    intro vs ds ps _ h _
    obtain ⟨rfl, rfl, rfl⟩ := trodAll_nil h
    exact trodAll_mk0
  | cons t ts ih =>
    intro vs ds ps ht h hlt
    obtain ⟨v, vs', d, ds', p, q, rfl, rfl, rfl, h0, hr⟩ := trodAll_cons h
    have h1 := ht t (by simp)
    exact trodAll_cons_mk (Below.trod hl h1.1 h1.2 h0 hb fun x hx => hlt x (by simp [hx])) (ih vs' ds' q (fun u hu => ht u (by simp [hu])) hr fun x hx => hlt x (by simp [hx]))

theorem post_below {f : Func} {s : ChangeSpec} {apart fresh handsOn : Bool} {W W' : World} {args : Array Value} {ds gs : List (DataW H)} {before : List MemPlace} {bt : TypeId}
    (hl : laidOutB P = true) (hts : ∀ t ∈ f.params.toList, P.readableRec t = true ∧ t < P.types.size) (hbt : P.underlying bt = some .bool) (hrt : f.resultTypes = #[bt]) (hvs : s.vars = [])
    (hW : DataW.Whole enc P f.params.toList s.vars apart W args.toList ds gs before)
    (h1 : (s.fn H (ds ++ gs)).results = [.lit (.bool true)]) (h2 : (s.fn H (ds ++ gs)).args = ds) (h3 : (s.fn H (ds ++ gs)).vars = []) (hb : Below W.heap.size W W') :
    s.post enc P f apart fresh handsOn false W args (.bool true) W' := by
  have hlt : ∀ x ∈ before, x.block < W.heap.size := fun x hx => by simpa using hW.lt x hx
  have hW0 := hW
  obtain ⟨p, q, hA, hV, rfl, _, _⟩ := hW
  refine ⟨ds, gs, p ++ q, [], p, [], hW0, ?_, ?_, ?_, hb.frame _, fun h => by cases h⟩
  · rw [h1, hrt]
    exact trodAll_mk1 (shut_bool hbt _)
  · rw [h2]
    exact trodAll_below hl hb _ _ _ _ hts hA fun x hx => hlt x (by simp [hx])
  · rw [h3, hvs]
    rfl
end
end Go.Proofs.YtdfklagiafmoiaaGreatDoor

/- Closed facts of this seat that the rows' proofs share. -/
namespace Go.Proofs.YtdfklagiafmoiaaGreatDoor
open Go.ChangeShapes Go.WideShapes Go.ChangeAt Go.RowKit
theorem pb_own : ownKnob Tryz.prog.godebug = none := by kernel_rfl
theorem pb_laidOut : laidOutB Tryz.prog = true := by kernel_rfl
theorem pb_u32 {x : Int} (h : (Lit.int .u32 x).wf = true) : ∃ n : Nat, x = n ∧ n < 4294967296 := by
  simp [Lit.wf, IntKind.min, IntKind.max, IntKind.signed, IntKind.bits] at h
  exact ⟨x.toNat, by omega, by omega⟩
theorem pb_i64 {x : Int} (h : (Lit.int .i64 x).wf = true) : -9223372036854775808 ≤ x ∧ x ≤ 9223372036854775807 := by
  simp [Lit.wf, IntKind.min, IntKind.max, IntKind.signed, IntKind.bits] at h
  exact ⟨by omega, by omega⟩
end Go.Proofs.YtdfklagiafmoiaaGreatDoor

/- The listed table: what the row's condition gives the walks; a world that meets it. -/
namespace Go.Proofs.YtdfklagiafmoiaaGreatDoor
open Go.ChangeShapes Go.WideShapes Go.ChangeAt Go.RowKit

def tzLaid : List (String × DataW Unit) := [("math/bits.deBruijn32tab", Rows.laid_math_bits_deBruijn32tab)]
theorem tz_g : Tryz.prog.globalNamed "math/bits.deBruijn32tab" = some 0 := by kernel_rfl
theorem tz_t : (Tryz.prog.globals[0]?).map (·.type) = some 201 := by kernel_rfl
theorem tz_zs : (Rows.laid_math_bits_deBruijn32tab : DataW Unit) = Lib.tabData .u8 (tzT.map fun n : Nat => (n : Int)) := rfl
theorem tz_of_laid {W : World} (h : laidMetH Tryz.prog tzLaid W) : TzAt W := by
  rw [MakeChecks.laidMetH_plain _ _ _ (by kernel_rfl)] at h
  unfold tzLaid at h
  rw [tz_zs] at h
  have hT := Lib.tabIs_of_head tz_g tz_t Tryz.underlying201 Tryz.underlying5 (by kernel_rfl) (by kernel_rfl) h
  have hc : ∀ i, i < 32 → W.cell? ⟨0, i, none⟩ = some (.int .u8 (tzT.getD i 0 : Nat)) := fun i hi => by
    have := hT.cell tz_g i (by simpa [tzT] using hi)
    rw [this, List.getD_eq_getElem?_getD, List.getD_eq_getElem?_getD, List.getElem?_map]
    have hl : i < tzT.length := hi
    rw [List.getElem?_eq_getElem hl]
    rfl
  refine ⟨?_, hc⟩
  have h0 := hc 0 (by decide)
  rcases Nat.lt_or_ge 0 W.heap.size with hl | hl
  · exact hl
  · simp [World.cell?, Array.getElem?_eq_none hl] at h0
theorem tz_met (os : Os) (args : Array Value) : laidMetH Tryz.prog tzLaid ((World.doorLaid Tryz.prog 400 os).forCall (fun _ _ => 0) ⟨#[], args, []⟩).memory :=
  laidMetH_of_parts3 (fuel := 8) (laidMet_of_run' 8 (by kernel_rfl) (by kernel_rfl)) (by kernel_rfl) (by kernel_rfl)
end Go.Proofs.YtdfklagiafmoiaaGreatDoor
