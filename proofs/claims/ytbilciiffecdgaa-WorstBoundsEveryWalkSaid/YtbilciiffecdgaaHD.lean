/- A region whose first operation must come first: that operation, then the others, which only read, in the text's order. -/
import Derived.Test.YtbilciiffecdgaaK
import Derived.Still
import Derived.StillTactics
namespace Go.Proofs.Ytbilciiffecdgaa

theorem wp_region_head {P : Program} {id : Nat} {Q : Exit → Act → World → Prop} {a : Act} {w : World} {o0 : Oper} {l : List Oper} (hm : P.follows .mixedOrders = true)
    (hr : Region.ready .any (o0 :: l).toArray (Array.replicate (l.length + 1) false) = [0]) (hs : Region.noSelect (o0 :: l).toArray = true)
    (hB : Region.lexFrom .any (o0 :: l).toArray l.length 1 ((Array.replicate (l.length + 1) false).setIfInBounds 0 true) = true) (hg : o0.guard = none)
    (h : ∀ K : Act → World → Prop, (∀ a' w', wpStill P (o0 :: l).toArray w' (fun a'' => Q .normal a'' w') l a' → K a' w') → Oper.wp P o0 a w.drew K Q) :
    (Code.region id (o0 :: l).toArray true).wp P Q a w := by
  refine wp_region_any hm ?_
  rw [show (o0 :: l).toArray.size = l.length + 1 by simp]
  refine ⟨fun h0 => ?_, fun i hi => ?_⟩
  · rw [hr] at h0; cases h0
  · rw [hr, List.mem_singleton] at hi
    subst hi
    unfold wpOp
    rw [show (o0 :: l).toArray[0]? = some o0 by simp]
    have hw : Region.wanted o0 (yielded (o0 :: l).toArray a.tmps) = true := by unfold Region.wanted; rw [hg]
    simp only [hw, if_true]
    refine .inl (h _ fun a' w' hst => ?_)
    refine wpAny_of_still (Q := fun a'' => Q .normal a'' w') (fun _ h => h) _ _ _ ?_
    exact wpAnyS_lex (md := .any) hs l 1 _ a' (fun j => by simp [Nat.add_comm 1 j]) hB hst
end Go.Proofs.Ytbilciiffecdgaa
