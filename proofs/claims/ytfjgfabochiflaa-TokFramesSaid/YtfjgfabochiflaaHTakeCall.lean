/- In a region that draws its order: a call of a function that leaves the world as it was may be taken first. -/
import Derived.OrdersHeld
namespace Go.Proofs.Ytfjgfabochiflaa.H14
open Go
section
variable {P : Program} {ops ops' : Array Oper} {Q : Exit → Act → World → Prop} {md : Region.Mode} {S : World → Prop} {i : Nat} {oi : Oper} {v : Value}

/-- in this state the operation calls a function that returns v, and leaves any world that meets S as it was -/
def YieldsC (P : Program) (ops : Array Oper) (S : World → Prop) (o : Oper) (v : Value) (a : Act) : Prop :=
  Region.wanted o (yielded ops a.tmps) = true ∧ ∀ w, S w → ∃ f args, (execOp a.eval o).run P w = .ok (.enter f args) w ∧ Calls P f args w fun e w' => e = .returned v ∧ w' = w
/-- two regions that are alike but for what number i does -/
structure Alike (ops ops' : Array Oper) (i : Nat) : Prop where
  size : ops'.size = ops.size
  other : ∀ j : Nat, j ≠ i → ops'[j]? = ops[j]?
  after : ∀ j : Nat, (ops'[j]?).map Oper.after = (ops[j]?).map Oper.after
  dst : ∀ j : Nat, (ops'[j]?).bind Oper.dst = (ops[j]?).bind Oper.dst
theorem Alike.symm (h : Alike ops ops' i) : Alike ops' ops i := ⟨h.size.symm, fun j hj => (h.other j hj).symm, fun j => (h.after j).symm, fun j => (h.dst j).symm⟩
theorem Alike.ready (h : Alike ops ops' i) (L : Array Bool) : Region.ready md ops' L = Region.ready md ops L := by
  unfold Region.ready
  rw [h.size]
  refine List.filter_congr fun j _ => ?_
  have h1 := h.after j
  cases h2 : ops'[j]? <;> cases h3 : ops[j]? <;> simp [h2, h3] at h1 ⊢
  rw [h1]
theorem Alike.yielded (h : Alike ops ops' i) (tmps : Array Value) : yielded ops' tmps = yielded ops tmps := by
  funext j
  unfold Go.yielded
  rw [show ((ops'[j]?).bind fun x => x.dst) = _ from h.dst j]
theorem Alike.wpOp (h : Alike ops ops' i) {j : Nat} (hj : j ≠ i) {K : Act → World → Prop} {a : Act} {w : World} (hw : wpOp P ops Q j K a w) : wpOp P ops' Q j K a w := by
  unfold Go.wpOp at *
  rw [h.other j hj, h.yielded]
  exact hw
theorem listed_set {L : Array Bool} {j k : Nat} (h : L.getD k true = true) : (L.setIfInBounds j true).getD k true = true := by
  by_cases e : j = k
  · subst e
    simp only [Array.getD_eq_getD_getElem?, Array.getElem?_setIfInBounds_self]
    split <;> rfl
  · simp only [Array.getD_eq_getD_getElem?, Array.getElem?_setIfInBounds_ne e] at h ⊢
    exact h
/-- once number i has come up the two go on alike -/
theorem Alike.held (h : Alike ops ops' i) : ∀ (fuel : Nat) (L : Array Bool) (a : Act) (w : World), L.getD i true = true → wpAnyH P md ops Q S fuel L a w → wpAnyH P md ops' Q S fuel L a w := fun fuel => by
  induction fuel with
  | zero => intro L a w _ hw; exact ⟨by rw [h.ready]; exact hw.1, hw.2⟩
  | succ fuel ih =>
    intro L a w hL hw
    refine ⟨fun h0 => hw.1 (by rw [← h.ready]; exact h0), fun j hj => ?_⟩
    rw [h.ready] at hj
    have hji : j ≠ i := fun e => by
      have := (mem_ready.1 hj).1
      rw [e, hL] at this
      cases this
    exact wpOp_mono (fun a' w' hk => ⟨hk.1, ih _ a' w' (listed_set hL) hk.2⟩) (h.wpOp hji (hw.2 j hj))
theorem YieldsC.put {a : Act} (h : YieldsC P ops S oi v a) (hs : ∀ cs b, oi.op ≠ .select cs b) (dst : Option Tmp) (u : Value) (hd : ∀ d, dst = some d → d ∉ oi.looksAt ops) : YieldsC P ops S oi v (a.put dst u) := by
  refine ⟨?_, fun w hw => ?_⟩
  · rw [wanted_put oi a dst u hd]; exact h.1
  · rw [execOp_put oi hs a dst u hd]; exact h.2 w hw
/-- behind another operation number i is where it was -/
theorem YieldsC.past (hs : ∀ cs b, oi.op ≠ .select cs b) {j : Nat} (hd : ∀ oj, ops[j]? = some oj → ∀ d, oj.dst = some d → d ∉ oi.looksAt ops) {K : Act → World → Prop} {a : Act} {w : World} (hy : YieldsC P ops S oi v a) (h : wpOp P ops Q j K a w) :
    wpOp P ops Q j (fun a' w' => K a' w' ∧ YieldsC P ops S oi v a') a w := by
  unfold Go.wpOp at *
  cases ho : ops[j]? with
  | none => simp only [ho] at h ⊢; exact ⟨h, hy⟩
  | some oj =>
    simp only [ho] at h ⊢
    have hput := fun u => hy.put hs oj.dst u (hd oj ho)
    split
    · rename_i hw
      simp only [hw, if_true] at h
      refine h.imp (fun h1 => ?_) (fun h1 => h1)
      unfold Oper.wp at *
      generalize (execOp a.eval oj).run P w = r at *
      cases r with
      | ok n w' =>
        cases n with
        | value u => exact ⟨h1, hput u⟩
        | skip => exact ⟨h1, hput undef⟩
        | defer d => exact ⟨h1, YieldsC.put (a := { a with defers := d :: a.defers }) ⟨hy.1, hy.2⟩ hs oj.dst undef (hd oj ho)⟩
        | enter f args => exact Calls.mono h1 fun e w'' he => by cases e <;> first | exact ⟨he, hput _⟩ | exact he
        | row r2 args => exact Rows.mono h1 fun u w'' he => ⟨he, hput u⟩
        | _ => exact h1
      | halt x w' => cases x <;> exact h1
    · rename_i hw
      simp only [hw] at h
      exact ⟨h, hput undef⟩
theorem Alike.past (hal : Alike ops ops' i) (hi : ops[i]? = some oi) (hi' : ops'[i]? = some { oi with op := .move (.const v) }) (hs : ∀ cs b, oi.op ≠ .select cs b) : ∀ (fuel : Nat) (L : Array Bool) (a : Act) (w : World),
    (∀ (j : Nat) oj, ops[j]? = some oj → j ≠ i → L.getD j true = false → (∀ e ∈ oj.after, Region.binds md e = true → e.on ≠ i) → ∀ d, oj.dst = some d → d ∉ oi.looksAt ops) →
    L.getD i true = false → YieldsC P ops S oi v a → S w → wpAnyH P md ops' Q S fuel L a w → wpAnyH P md ops Q S fuel L a w := fun fuel => by
  induction fuel with
  | zero => intro L a w _ _ _ _ hw; exact ⟨by rw [← hal.ready]; exact hw.1, hw.2⟩
  | succ fuel ih =>
    intro L a w hf hL hy hS hw
    refine ⟨fun h0 => hw.1 (by rw [hal.ready]; exact h0), fun j hj => ?_⟩
    have h1 := hw.2 j (by rw [hal.ready]; exact hj)
    have hlt : i < L.size := by
      apply Classical.byContradiction
      intro h9
      simp [Array.getD_eq_getD_getElem?, Array.getElem?_eq_none (Nat.le_of_not_lt h9)] at hL
    by_cases hji : j = i
    · subst hji
      have hset : (L.setIfInBounds j true).getD j true = true := by simp [Array.getD_eq_getD_getElem?, hlt]
      have h2 : S w ∧ wpAnyH P md ops' Q S fuel (L.setIfInBounds j true) (a.put oi.dst v) w := by
        unfold Go.wpOp at h1
        simp only [hi'] at h1
        rw [hal.yielded, show Region.wanted { oi with op := .move (.const v) } (Go.yielded ops a.tmps) = true from hy.1] at h1
        simp only [if_true] at h1
        rcases h1 with h1 | h1
        · exact h1
        · have h9 := h1.1.1
          change noRoomEvent ∈ (#[] : Array Event) at h9
          simp at h9
      obtain ⟨f, args, he, hc⟩ := hy.2 w hS
      unfold Go.wpOp
      simp only [hi]
      rw [hy.1]
      simp only [if_true]
      refine .inl ?_
      unfold Oper.wp
      rw [he]
      refine Calls.mono hc ?_
      rintro e w' ⟨rfl, rfl⟩
      exact ⟨h2.1, hal.symm.held fuel _ _ _ hset h2.2⟩
    · obtain ⟨hjun, oj, hoj, hall⟩ := mem_ready.1 hj
      have hnot : ∀ e ∈ oj.after, Region.binds md e = true → e.on ≠ i := fun e he hb heq => by
        have h3 := hall e he hb
        rw [heq] at h3
        simp [Array.getD_eq_getD_getElem?, hlt] at h3 hL
        rw [h3] at hL
        cases hL
      have h2 := hal.symm.wpOp hji h1
      have h3 := YieldsC.past hs (fun oj' hoj' d hd => hf j oj' hoj' hji hjun (by rw [hoj] at hoj'; cases hoj'; exact hnot) d hd) hy h2
      refine wpOp_mono (fun a' w' hk => ⟨hk.1.1, ih _ a' w' ?_ ?_ hk.2 hk.1.1 hk.1.2⟩) h3
      · intro k ok hok hki hun hno
        refine hf k ok hok hki ?_ hno
        by_cases hjk : j = k
        · subst hjk; exact hjun
        · simpa [Array.getD_eq_getD_getElem?, Array.getElem?_setIfInBounds_ne hjk] using hun
      · simpa [Array.getD_eq_getD_getElem?, Array.getElem?_setIfInBounds_ne hji] using hL
/-- TAKE THE CALL FIRST -/
theorem wpAnyH_take_call {fuel : Nat} {L : Array Bool} {a : Act} {w : World} (i : Nat) (v : Value) (hi : ops[i]? = some oi) (hs : Region.noSelect ops = true) (hs' : Region.noSelect (ops.setIfInBounds i { oi with op := .move (.const v) }) = true)
    (hf : Region.free md ops L i = true) (hf' : Region.free md (ops.setIfInBounds i { oi with op := .move (.const v) }) L i = true) (hr : (Region.ready md ops L).contains i = true)
    (hQ : ∀ c a w, Q (.panic c) (a.put oi.dst v) w → Q (.panic c) a w) (hy : YieldsC P ops S oi v a) (hS : S w)
    (h : wpAnyH P md ops Q S fuel (L.setIfInBounds i true) (a.put oi.dst v) w) : wpAnyH P md ops Q S (fuel + 1) L a w := by
  have hlt : i < ops.size := (Array.getElem?_eq_some_iff.1 hi).1
  have hi' : (ops.setIfInBounds i { oi with op := .move (.const v) })[i]? = some { oi with op := .move (.const v) } := by simp [hlt]
  have hal : Alike ops (ops.setIfInBounds i { oi with op := .move (.const v) }) i := by
    refine ⟨by simp, fun j hj => Array.getElem?_setIfInBounds_ne (Ne.symm hj), fun j => ?_, fun j => ?_⟩
    · by_cases e : j = i
      · subst e; rw [hi', hi]; rfl
      · rw [Array.getElem?_setIfInBounds_ne (Ne.symm e)]
    · by_cases e : j = i
      · subst e; rw [hi', hi]; rfl
      · rw [Array.getElem?_setIfInBounds_ne (Ne.symm e)]
  have hrd : i ∈ Region.ready md ops L := by simpa using hr
  have hL : L.getD i true = false := (mem_ready.1 hrd).1
  refine hal.past hi hi' (fun cs b => Region.noSelect_spec hs i oi cs b hi) (fuel + 1) L a w (fun j oj hoj hji hun hno d hd => (Oper.apart_spec (Region.free_spec hi hf j oj hoj hji hun hno)).2.2 d hd) hL hy hS ?_
  have hll : i < L.size := by
    apply Classical.byContradiction
    intro h9
    simp [Array.getD_eq_getD_getElem?, Array.getElem?_eq_none (Nat.le_of_not_lt h9)] at hL
  refine wpAnyH_take hi' hs' hf' (by rw [hal.ready]; exact hr) hQ (.inl ⟨by rw [hal.yielded]; exact hy.1, fun w _ => rfl⟩) hS ?_
  exact hal.held fuel _ _ _ (by simp [Array.getD_eq_getD_getElem?, hll]) h
end
end Go.Proofs.Ytfjgfabochiflaa.H14
