/- A region that draws its order, inside a round of a range over a function. No condition. -/
import Derived.Test.YtmmcjcaccicheaaIter
import Derived.Test.YtmmcjcaccicheaaRegion
import Derived.OrdersIn
namespace Go.Proofs.Ytmmcjcaccicheaa
open Go.RowKit
def plainOps (ops : Array Oper) : Bool := ops.toList.all fun o => match o.op with | .defer _ => false | _ => true
theorem plainOps_spec {ops : Array Oper} (h : plainOps ops = true) {i : Nat} {o : Oper} (ho : ops[i]? = some o) : ∀ c, o.op ≠ .defer c := by
  intro c hc
  have := List.all_eq_true.1 h o (by rw [Array.mem_toList_iff]; exact Array.mem_of_getElem? ho)
  rw [hc] at this
  cases this
section
variable {P : Program} {Q : Exit → Act → World → Prop} {K : Act → World → Prop} {a : Act} {w : World}
theorem wpIn_of_wp {o : Oper} (l : Nat) (hd : ∀ c, o.op ≠ .defer c) (h : o.wp P a w K Q) : o.wpIn (Fence.wide.inRound l) 0 P a w K Q := by
  refine ⟨fun _ _ => trivial, ?_⟩
  rw [Oper.semAt_plain _ _ o hd]
  unfold Oper.wp at h
  revert h
  generalize (execOp a.eval o).run P w = r
  intro h
  cases r with
  | ok x w' =>
    cases x <;> simp only [Oper.upon, Oper.uponIn] at h ⊢ <;>
      first
        | exact h
        | exact ⟨fun hd => by simp [Fence.wide] at hd, CallsIn.inRound l (callsIn_wide.2 h)⟩
        | exact ⟨fun hd => by simp [Fence.wide] at hd, fun c cs _ => let ⟨v, w', r, s⟩ := h c cs; ⟨v, w', r, stepsIn_wide.2 s⟩⟩
  | halt x w' => cases x <;> simp only [Oper.upon, Oper.uponIn] at h ⊢ <;> exact h
theorem wpAnyIn_of {md : Region.Mode} {ops : Array Oper} (l : Nat) (hd : plainOps ops = true) (hQ : ¬ LetsOut Q) : ∀ (fuel : Nat) (listed : Array Bool) (a : Act) (w : World), wpAny P md ops Q fuel listed a w → wpAnyIn (Fence.wide.inRound l) 0 P md ops Q fuel listed a w
  | 0, _, _, _, h => h
  | fuel + 1, _, _, _, h => ⟨h.1, fun i hi => by
    have hh := wpOp_mono (fun a w => wpAnyIn_of l hd hQ fuel _ a w) (h.2 i hi)
    unfold wpOp at hh
    unfold wpOpIn
    split
    · rename_i ho; simpa [ho] using hh
    · rename_i o ho
      simp only [ho] at hh
      split
      · rename_i hw
        simp only [hw, if_true] at hh
        rcases hh with hh | hh
        · exact wpIn_of_wp l (plainOps_spec hd ho) hh
        · exact absurd hh.2 hQ
      · rename_i hw
        simp only [hw] at hh
        exact ⟨fun _ _ => trivial, hh⟩⟩
/-- A region that draws its order, inside a round. -/
theorem wpIn_region_X {T : World → Prop} {ops : Array Oper} {l id : Nat} (S : World → Prop) (hm : P.follows .mixedOrders = true) (hd : plainOps ops = true) (hQ : ¬ LetsOut Q) (hS : S w.drew) (h : wpX P .any ops Q T ops.size (Array.replicate ops.size false) S a) :
    (Code.region id ops true).wpIn (Fence.wide.inRound l) 0 P Q a w :=
  wpIn_region_any hm (wpAnyIn_of l hd hQ _ _ _ _ (wpAny_of_X _ _ _ _ h _ hS))
end
end Go.Proofs.Ytmmcjcaccicheaa
