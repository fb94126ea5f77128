/- A region that draws its order: a load may be taken first if nobody who may come up AHEAD of it writes its cell: behind what can come up only after it nothing is asked. -/
import Derived.OrdersHeld
import Derived.Deep.RegionHeld
namespace Go.Proofs.Ytfjhcoeehjephaa
open Go
section
variable {P : Program} {ops : Array Oper} {Q : Exit → Act → World → Prop} {md : Region.Mode} {S : Array Bool → World → Prop}
def wpAnyL (P : Program) (md : Region.Mode) (ops : Array Oper) (Q : Exit → Act → World → Prop) (S : Array Bool → World → Prop) : Nat → Array Bool → Act → World → Prop
  | 0, listed, a, w => Region.ready md ops listed = [] ∧ Q .normal a w
  | fuel + 1, listed, a, w =>
    (Region.ready md ops listed = [] → Q .normal a w) ∧
    ∀ i ∈ Region.ready md ops listed, wpOp P ops Q i (fun a' w' => S (listed.setIfInBounds i true) w' ∧ wpAnyL P md ops Q S fuel (listed.setIfInBounds i true) a' w') a w
theorem wpAny_of_L : ∀ (fuel : Nat) (listed : Array Bool) (a : Act) (w : World), wpAnyL P md ops Q S fuel listed a w → wpAny P md ops Q fuel listed a w
  | 0, _, _, _, h => h
  | fuel + 1, _, _, _, h => ⟨h.1, fun i hi => wpOp_mono (fun a' w' h' => wpAny_of_L fuel _ a' w' h'.2) (h.2 i hi)⟩
theorem getD_two {l : Array Bool} {t : Nat} (h : l.getD t true = false) : l.getD t false = false := by
  rw [Array.getD_eq_getD_getElem?] at h ⊢
  cases e : l[t]? with
  | none => rfl
  | some b => rw [e] at h; simpa using h
theorem wpAnyL_first {i : Nat} {oi : Oper} {v : Value} {R : World → Prop} {U : List Nat} (hi : ops[i]? = some oi) (hsel : ∀ (j : Nat) (o : Oper) cs b, ops[j]? = some o → o.op ≠ .select cs b)
    (hQ : ∀ c a w, Q (.panic c) (a.put oi.dst v) w → Q (.panic c) a w)
    (hup : ∀ t ∈ U, t ≠ i → ∃ o, ops[t]? = some o ∧ ∃ e ∈ o.after, Region.binds md e = true ∧ e.on ∈ U)
    (hR : ∀ (l : Array Bool) w, (∀ t ∈ U, l.getD t true = false) → S (l.setIfInBounds i true) w → R w) (hmono : ∀ (l : Array Bool) w, S (l.setIfInBounds i true) w → S l w) :
    ∀ (fuel : Nat) (listed : Array Bool) (a : Act) (w : World),
      (∀ j oj, ops[j]? = some oj → j ≠ i → listed.getD j true = false → (∀ e ∈ oj.after, Region.binds md e = true → e.on ≠ i) → oi.apart ops oj = true) →
      i ∈ Region.ready md ops listed → (∀ t ∈ U, listed.getD t true = false) → YieldsIf P ops R oi v a → S (listed.setIfInBounds i true) w →
      wpAnyL P md ops Q S fuel (listed.setIfInBounds i true) (a.put oi.dst v) w → wpAnyL P md ops Q S (fuel + 1) listed a w := by
  intro fuel
  induction fuel with
  | zero =>
    intro listed a w _ hr hU hy hS H
    refine ⟨fun h => (by rw [h] at hr; cases hr), fun j hj => ?_⟩
    by_cases hji : j = i
    · subst hji; exact hy.wpOp hi (hR _ _ hU hS) ⟨hS, H⟩
    · have := ready_mono hj hji
      rw [H.1] at this
      cases this
  | succ fuel ih =>
    intro listed a w hfree hr hU hy hS H
    refine ⟨fun h => (by rw [h] at hr; cases hr), fun j hj => ?_⟩
    by_cases hji : j = i
    · subst hji; exact hy.wpOp hi (hR _ _ hU hS) ⟨hS, H⟩
    · have h1 := H.2 j (ready_mono hj hji)
      obtain ⟨hjun, oj, hoj, hall⟩ := mem_ready.1 hj
      have hnot : ∀ e ∈ oj.after, Region.binds md e = true → e.on ≠ i := fun e he hb heq => by
        have h1 := hall e he hb
        have h0 := (mem_ready.1 hr).1
        rw [heq] at h1
        rw [getD_two h0] at h1
        cases h1
      have hjU : j ∉ U := fun hm => by
        obtain ⟨o, ho, e, he, hb, hon⟩ := hup j hm hji
        rw [hoj] at ho
        injection ho with ho
        subst ho
        have h1 := hall e he hb
        rw [getD_two (hU _ hon)] at h1
        cases h1
      have hU' : ∀ t ∈ U, (listed.setIfInBounds j true).getD t true = false := fun t ht => by
        have hne : j ≠ t := fun e => hjU (by rw [e]; exact ht)
        rw [getD_set_ne true hne]; exact hU t ht
      have h2 := wpOp_putIf (S := R) hoj (hfree j oj hoj hji hjun hnot) (fun cs b => hsel i oi cs b hi) (fun cs b => hsel j oj cs b hoj) hQ hy h1
      have hfree' : ∀ k ok, ops[k]? = some ok → k ≠ i → (listed.setIfInBounds j true).getD k true = false →
          (∀ e ∈ ok.after, Region.binds md e = true → e.on ≠ i) → oi.apart ops ok = true := fun k ok hk hki hun hno => by
        refine hfree k ok hk hki ?_ hno
        by_cases hjk : j = k
        · subst hjk; exact hjun
        · rw [getD_set_ne true hjk] at hun; exact hun
      refine wpOp_mono (fun a' w' h3 => ?_) h2
      have hc : (listed.setIfInBounds j true).setIfInBounds i true = (listed.setIfInBounds i true).setIfInBounds j true := Array.setIfInBounds_comm _ _ hji
      have hs : S ((listed.setIfInBounds j true).setIfInBounds i true) w' := hc ▸ h3.2.1
      exact ⟨hmono _ _ hs, ih (listed.setIfInBounds j true) a' w' hfree' (ready_mono hr (Ne.symm hji)) hU' h3.1 hs (hc ▸ h3.2.2)⟩
def upOk (md : Region.Mode) (ops : Array Oper) (U : List Nat) (i : Nat) : Bool := U.all fun t => t == i || (match ops[t]? with | some o => o.after.any (fun e => Region.binds md e && U.contains e.on) | none => false)
def offL (U : List Nat) (l : Array Bool) : Bool := U.all fun t => !(l.getD t true)
theorem offL_spec {U : List Nat} {l : Array Bool} (h : offL U l = true) : ∀ t ∈ U, l.getD t true = false := fun t ht => by
  have := List.all_eq_true.1 h t ht
  simpa using this
theorem upOk_spec {U : List Nat} {i : Nat} (h : upOk md ops U i = true) : ∀ t ∈ U, t ≠ i → ∃ o, ops[t]? = some o ∧ ∃ e ∈ o.after, Region.binds md e = true ∧ e.on ∈ U := fun t ht hne => by
  have h1 := List.all_eq_true.1 h t ht
  have h2 : (t == i) = false := by simpa using hne
  simp only [h2, Bool.false_or] at h1
  cases ho : ops[t]? with
  | none => rw [ho] at h1; simp at h1
  | some o =>
    rw [ho] at h1
    obtain ⟨e, he, h3⟩ : ∃ e ∈ o.after, (Region.binds md e && U.contains e.on) = true := by
      obtain ⟨n, hn, h2⟩ := Array.any_eq_true.1 h1
      exact ⟨_, Array.getElem_mem hn, h2⟩
    rw [Bool.and_eq_true] at h3
    exact ⟨o, rfl, e, he, h3.1, by simpa using h3.2⟩
/-- what must hold till a store has come up: pairs of the store's number and what its cell's loads want -/
def SL (L : List (Nat × (World → Prop))) (l : Array Bool) (w : World) : Prop := ∀ p ∈ L, l.getD p.1 true = false → p.2 w
theorem SL.set {L : List (Nat × (World → Prop))} {l : Array Bool} {w : World} {i : Nat} (hk : ∀ p ∈ L, p.1 ≠ i) : SL L (l.setIfInBounds i true) w ↔ SL L l w := by
  constructor
  · intro h p hp hl
    exact h p hp (by rw [getD_set_ne true (Ne.symm (hk p hp))]; exact hl)
  · intro h p hp hl
    exact h p hp (by rw [getD_set_ne true (Ne.symm (hk p hp))] at hl; exact hl)
def offK (L : List (Nat × (World → Prop))) (i : Nat) : Bool := (L.map (·.1)).all (· != i)
theorem offK_spec {L : List (Nat × (World → Prop))} {i : Nat} (h : offK L i = true) : ∀ p ∈ L, p.1 ≠ i := fun p hp => by
  have := List.all_eq_true.1 h p.1 (List.mem_map_of_mem hp)
  simpa using this
variable {L : List (Nat × (World → Prop))}
/-- a load is taken first; U: what comes up behind it, up to the store -/
theorem takeL {i : Nat} {oi : Oper} {v : Value} {fuel : Nat} {listed : Array Bool} {a : Act} {w : World} (k : Nat) (R : World → Prop) (U : List Nat) (hk : (k, R) ∈ L) (hi : ops[i]? = some oi)
    (hs : Region.noSelect ops = true) (hf : Region.free md ops listed i = true) (hr : (Region.ready md ops listed).contains i = true)
    (hQ : ∀ c a w, Q (.panic c) (a.put oi.dst v) w → Q (.panic c) a w) (hU : (U.contains k && upOk md ops U i && offL U listed && offK L i) = true) (hy : YieldsIf P ops R oi v a) (hS : SL L listed w)
    (h : SL L (listed.setIfInBounds i true) w → wpAnyL P md ops Q (SL L) fuel (listed.setIfInBounds i true) (a.put oi.dst v) w) : wpAnyL P md ops Q (SL L) (fuel + 1) listed a w := by
  simp only [Bool.and_eq_true] at hU
  have hkU : k ∈ U := by simpa using hU.1.1.1
  have hno := offK_spec hU.2
  have hS' := (SL.set (l := listed) (w := w) hno).2 hS
  exact wpAnyL_first (R := R) hi (Region.noSelect_spec hs) hQ (upOk_spec hU.1.1.2) (fun l w hl h1 => (SL.set hno).1 h1 (k, R) hk (hl k hkU)) (fun l w h1 => (SL.set hno).1 h1) fuel listed a w (Region.free_spec hi hf) (by simpa using hr) (offL_spec hU.1.2) hy hS' (h hS')
/-- what yields in any world is taken first -/
theorem takeP {i : Nat} {oi : Oper} {v : Value} {fuel : Nat} {listed : Array Bool} {a : Act} {w : World} (hi : ops[i]? = some oi)
    (hs : Region.noSelect ops = true) (hf : Region.free md ops listed i = true) (hr : (Region.ready md ops listed).contains i = true)
    (hQ : ∀ c a w, Q (.panic c) (a.put oi.dst v) w → Q (.panic c) a w) (hU : offK L i = true) (hy : YieldsIf P ops (fun _ => True) oi v a) (hS : SL L listed w)
    (h : SL L (listed.setIfInBounds i true) w → wpAnyL P md ops Q (SL L) fuel (listed.setIfInBounds i true) (a.put oi.dst v) w) : wpAnyL P md ops Q (SL L) (fuel + 1) listed a w := by
  have hno := offK_spec hU
  have hS' := (SL.set (l := listed) (w := w) hno).2 hS
  exact wpAnyL_first (R := fun _ => True) (U := []) hi (Region.noSelect_spec hs) hQ (fun t ht => by cases ht) (fun _ _ _ _ => trivial) (fun l w h1 => (SL.set hno).1 h1) fuel listed a w (Region.free_spec hi hf) (by simpa using hr) (fun t ht => by cases ht) hy hS' (h hS')
def AllReadyL (P : Program) (md : Region.Mode) (ops : Array Oper) (Q : Exit → Act → World → Prop) (S : Array Bool → World → Prop) (fuel : Nat) (listed : Array Bool) (a : Act) (w : World) (rs : List Nat) : Prop :=
  ∀ i ∈ rs, wpOp P ops Q i (fun a' w' => S (listed.setIfInBounds i true) w' ∧ wpAnyL P md ops Q S fuel (listed.setIfInBounds i true) a' w') a w
theorem AllReadyL.nil {fuel : Nat} {listed : Array Bool} {a : Act} {w : World} : AllReadyL P md ops Q S fuel listed a w [] := fun _ h => by cases h
theorem AllReadyL.cons {fuel : Nat} {listed : Array Bool} {a : Act} {w : World} {i : Nat} {o : Oper} {rs : List Nat} (ho : ops[i]? = some o)
    (h : ∀ K' : Act → World → Prop, Shut (∀ a w, S (listed.setIfInBounds i true) w → (S (listed.setIfInBounds i true) w → wpAnyL P md ops Q S fuel (listed.setIfInBounds i true) a w) → K' a w) → if Region.wanted o (yielded ops a.tmps) = true then Oper.wp P o a w K' Q else K' (a.put o.dst undef) w)
    (hs : AllReadyL P md ops Q S fuel listed a w rs) : AllReadyL P md ops Q S fuel listed a w (i :: rs) := fun j hj => by
  rcases List.mem_cons.1 hj with rfl | hj
  · exact wpOp_step ho (fun K' hK => h K' (fun a w hS hW => hK a w ⟨hS, hW hS⟩))
  · exact hs j hj
theorem wpAnyL_ready {rs : List Nat} {fuel : Nat} {listed : Array Bool} {a : Act} {w : World} (hr : Region.ready md ops listed = rs) (hne : rs ≠ [])
    (h : AllReadyL P md ops Q S fuel listed a w rs) : wpAnyL P md ops Q S (fuel + 1) listed a w :=
  ⟨fun h0 => absurd (hr ▸ h0) hne, hr ▸ h⟩
theorem wpAnyL_done {listed : Array Bool} {a : Act} {w : World} (hr : Region.ready md ops listed = []) (h : Q .normal a w) :
    ∀ fuel, wpAnyL P md ops Q S fuel listed a w
  | 0 => ⟨hr, h⟩
  | _ + 1 => ⟨fun _ => h, by rw [hr]; simp⟩
theorem wp_region_L {id : Nat} {a : Act} {w : World} (hm : P.follows .mixedOrders = true) (hS : S (Array.replicate ops.size false) w.drew)
    (h : S (Array.replicate ops.size false) w.drew → wpAnyL P .any ops Q S ops.size (Array.replicate ops.size false) a w.drew) : (Code.region id ops true).wp P Q a w :=
  wp_region_any hm (wpAny_of_L _ _ _ _ (h hS))
theorem SL.nil {l : Array Bool} {w : World} : SL [] l w := fun p hp => by cases hp
theorem SL.cons {k : Nat} {R : World → Prop} {l : Array Bool} {w : World} (h : R w) (hs : SL L l w) : SL ((k, R) :: L) l w := fun p hp hl => by
  rcases List.mem_cons.1 hp with rfl | hp
  · exact h
  · exact hs p hp hl
theorem SL.off {k : Nat} {R : World → Prop} {l : Array Bool} {w : World} (h : l.getD k true = true) (hs : SL L l w) : SL ((k, R) :: L) l w := fun p hp hl => by
  rcases List.mem_cons.1 hp with rfl | hp
  · rw [h] at hl; cases hl
  · exact hs p hp hl
end
end Go.Proofs.Ytfjhcoeehjephaa
