/- A region that draws its order, in the round of a range over a function: by the plain held law. -/
import Derived.Test.YtfjgfabochiflaaRangeTc
import Derived.Deep.RegionHeld
namespace Go.Proofs.Ytfjgfabochiflaa
open Go.RowKit

def Strict (Q : Exit → Act → World → Prop) : Exit → Act → World → Prop := fun e a w => (e ≠ .outgrown) ∧ Q e a w
theorem strict_out {Q : Exit → Act → World → Prop} (h : LetsOut (Strict Q)) : False := by
  obtain ⟨a, w, h1, _⟩ := h
  exact h1 rfl
section
variable {P : Program} {ops : Array Oper} {Q : Exit → Act → World → Prop} {md : Region.Mode} {l n : Nat}
theorem oper_bridge {o : Oper} (hd : ∀ c, o.op ≠ .defer c) {a : Act} {w : World} {K K' : Act → World → Prop} (hK : ∀ a w, K a w → K' a w) (h : o.wp P a w K (Strict Q)) : o.wpIn (Fence.wide.inRound l) n P a w K' Q := by
  refine ⟨fun _ _ => trivial, ?_⟩
  unfold Oper.wp at h
  rw [Oper.semAt_plain (Fence.wide.inRound l) a.eval o hd]
  generalize (execOp a.eval o).run P w = r at h ⊢
  cases r with
  | ok m w' =>
    cases m <;> simp only [Oper.upon, Oper.uponIn] at h ⊢
    case value u => exact hK _ _ h
    case skip => exact hK _ _ h
    case defer d => exact hK _ _ h
    case enter f args =>
      refine ⟨fun h9 => (by cases h9), (callsIn_wide (n := n - 1)).2 (Calls.mono h fun e w'' he => ?_)⟩
      cases e with
      | returned u => exact hK _ _ he
      | panicked c => exact he.2
      | outgrown => exact (strict_out he).elim
    case row row args =>
      refine ⟨fun h9 => (by cases h9), fun c cs _ => ?_⟩
      obtain ⟨v, w', r, s⟩ := h c cs
      exact ⟨v, w', hK _ _ r, stepsIn_wide.2 s⟩
  | halt x w' =>
    cases x <;> simp only [Oper.upon, Oper.uponIn] at h ⊢
    case panic u => exact h.2
theorem any_bridge (hd : ∀ (j : Nat) (o : Oper), ops[j]? = some o → ∀ c, o.op ≠ .defer c) : ∀ (fuel : Nat) (listed : Array Bool) (a : Act) (w : World), wpAny P md ops (Strict Q) fuel listed a w → wpAnyIn (Fence.wide.inRound l) n P md ops Q fuel listed a w
  | 0, _, _, _, h => ⟨h.1, h.2.2⟩
  | fuel + 1, listed, a, w, h => by
    refine ⟨fun h0 => (h.1 h0).2, fun i hi => ?_⟩
    have h1 := h.2 i hi
    unfold wpOp at h1
    unfold wpOpIn
    cases ho : ops[i]? with
    | none => rw [ho] at h1; exact any_bridge hd fuel _ _ _ h1
    | some o =>
      rw [ho] at h1
      simp only at h1 ⊢
      split at h1
      · rename_i hw
        rw [if_pos hw]
        rcases h1 with h1 | ⟨_, h1⟩
        · exact oper_bridge (hd i o ho) (fun a' w' h9 => any_bridge hd fuel _ a' w' h9) h1
        · exact (strict_out h1).elim
      · rename_i hw
        rw [if_neg hw]
        exact ⟨fun _ _ => trivial, any_bridge hd fuel _ _ _ h1⟩
def plainOps (ops : Array Oper) : Bool := ops.toList.all (fun o => match o.op with | .defer _ => false | _ => true)
theorem plain_spec (h : plainOps ops = true) (j : Nat) (o : Oper) (ho : ops[j]? = some o) c : o.op ≠ .defer c := fun e => by
  have hm : o ∈ ops.toList := by
    rw [← Array.getElem?_toList] at ho
    exact List.mem_of_getElem? ho
  have := List.all_eq_true.1 h o hm
  rw [e] at this
  cases this
theorem wpIn_region_held {S : World → Prop} {id : Nat} {a : Act} {w : World} (hm : P.follows .mixedOrders = true) (hp : plainOps ops = true) (hS : S w.drew)
    (h : S w.drew → wpAnyH P .any ops (Strict Q) S ops.size (Array.replicate ops.size false) a w.drew) : (Code.region id ops true).wpIn (Fence.wide.inRound l) n P Q a w :=
  wpIn_region_any hm (any_bridge (plain_spec hp) _ _ _ _ (wpAny_of_held _ _ _ _ (h hS)))
theorem take_l {S : World → Prop} {ops : List Oper} {i : Nat} {oi : Oper} {v : Value} {fuel : Nat} {listed : Array Bool} {a : Act} {w : World} (hi : ops[i]? = some oi)
    (hs : Region.noSelect ops.toArray = true) (hf : Region.free md ops.toArray listed i = true) (hr : (Region.ready md ops.toArray listed).contains i = true)
    (hQ : ∀ c a w, Q (.panic c) (a.put oi.dst v) w → Q (.panic c) a w) (hy : YieldsIf P ops.toArray S oi v a) (hS : S w)
    (h : wpAnyH P md ops.toArray Q S fuel (listed.setIfInBounds i true) (a.put oi.dst v) w) : wpAnyH P md ops.toArray Q S (fuel + 1) listed a w :=
  wpAnyH_take (by simpa using hi) hs hf hr hQ hy hS h
theorem cons_l {S : World → Prop} {ops : List Oper} {fuel : Nat} {listed : Array Bool} {a : Act} {w : World} {i : Nat} {o : Oper} {rs : List Nat} (ho : ops[i]? = some o)
    (h : ∀ K' : Act → World → Prop, Shut (∀ a w, S w → (S w → wpAnyH P md ops.toArray Q S fuel (listed.setIfInBounds i true) a w) → K' a w) → if Region.wanted o (yielded ops.toArray a.tmps) = true then Oper.wp P o a w K' Q else K' (a.put o.dst undef) w)
    (hs : AllReadyH P md ops.toArray Q S fuel listed a w rs) : AllReadyH P md ops.toArray Q S fuel listed a w (i :: rs) :=
  AllReadyH.cons (by simpa using ho) h hs
end
end Go.Proofs.Ytfjgfabochiflaa
