/- Rows cut down to the classes that some byte has: plain. -/
import Derived.Test.YtiaigdedkdeeoaaMiRows
import Derived.Test.YtiaigdedkdeeoaaRight
namespace Go.Proofs.Ytiaigdedkdeeoaa
def cntU (us : List Bool) : Nat → Nat
  | 0 => 0
  | k + 1 => if us.getD k false = true then cntU us k + 1 else cntU us k
def pick (us : List Bool) (r : List Int) : Nat → List Int
  | 0 => []
  | k + 1 => if us.getD k false = true then pick us r k ++ [r.getD k 0] else pick us r k
theorem cntU_succ (us : List Bool) (k : Nat) : cntU us (k + 1) = if us.getD k false = true then cntU us k + 1 else cntU us k := rfl
theorem pick_succ (us : List Bool) (r : List Int) (k : Nat) : pick us r (k + 1) = if us.getD k false = true then pick us r k ++ [r.getD k 0] else pick us r k := rfl
section
variable {us : List Bool} {r : List Int}
theorem pick_len : ∀ k, (pick us r k).length = cntU us k
  | 0 => rfl
  | k + 1 => by
    have := pick_len k
    rw [cntU_succ, pick_succ]
    split
    · rw [List.length_append, this]; rfl
    · exact this
theorem cntU_mono : ∀ {a b : Nat}, a ≤ b → cntU us a ≤ cntU us b := fun {a b} h => by
  induction h with
  | refl => exact Nat.le_refl _
  | @step b h ih =>
    rw [cntU_succ]
    split <;> omega
theorem cntU_le : ∀ k, cntU us k ≤ k
  | 0 => Nat.le_refl _
  | k + 1 => by
    have := cntU_le k
    rw [cntU_succ]
    split <;> omega
theorem pick_at {c : Nat} (hc : us.getD c false = true) : ∀ {k : Nat}, c < k → cntU us c < cntU us k ∧ (pick us r k).getD (cntU us c) 0 = r.getD c 0 := fun {k} h => by
  induction h with
  | refl =>
    have e1 : cntU us (c + 1) = cntU us c + 1 := if_pos hc
    have e2 : pick us r (c + 1) = pick us r c ++ [r.getD c 0] := if_pos hc
    refine ⟨by show cntU us c < cntU us (c + 1); omega, ?_⟩
    show (pick us r (c + 1)).getD _ 0 = _
    have := getD_app2 (l := pick us r c) (x := r.getD c 0) (d := 0)
    rw [pick_len] at this
    rw [e2]; exact this
  | @step k h ih =>
    have h1 : cntU us k ≤ cntU us (k + 1) := cntU_mono (Nat.le_succ k)
    refine ⟨Nat.lt_of_lt_of_le ih.1 h1, ?_⟩
    show (pick us r (k + 1)).getD _ 0 = _
    rw [pick_succ]
    split
    · rw [getD_app1 (by rw [pick_len]; exact ih.1)]; exact ih.2
    · exact ih.2
theorem pick_inv : ∀ {k p : Nat}, p < cntU us k → ∃ c, c < k ∧ us.getD c false = true ∧ cntU us c = p
  | 0, p, h => by cases h
  | k + 1, p, h => by
    have h : p < if us.getD k false = true then cntU us k + 1 else cntU us k := h
    by_cases hu : us.getD k false = true
    · rw [if_pos hu] at h
      by_cases e : p = cntU us k
      · exact ⟨k, by omega, hu, e.symm⟩
      · obtain ⟨c, h1, h2, h3⟩ := pick_inv (k := k) (p := p) (by omega)
        exact ⟨c, by omega, h2, h3⟩
    · rw [if_neg hu] at h
      obtain ⟨c, h1, h2, h3⟩ := pick_inv (k := k) (p := p) h
      exact ⟨c, by omega, h2, h3⟩
end
def autOf (D : Dfa) : Aut := ⟨D.next.length, fun i => D.acc.getD i false, fun i b => (D.next.getD i []).getD (D.cls b) 0⟩
theorem RightD.row {D : Dfa} (h : RightD D) {i : Nat} (hi : i < D.next.length) : (D.next.getD i []).length = D.many ∧ ∀ c, c < D.many → -1 ≤ (D.next.getD i []).getD c 0 ∧ (D.next.getD i []).getD c 0 < (D.next.length : Int) := by
  have h1 : ¬ RowOff D i := fun h9 => h.rows ⟨i, hi, h9⟩
  have h2 : (D.next.getD i []).length = D.many := Classical.byContradiction fun h9 => h1 (.inl h9)
  refine ⟨h2, fun c hc => ?_⟩
  have h3 : ¬ ((D.next.getD i []).getD c 0 < -1 ∨ (D.next.length : Int) ≤ (D.next.getD i []).getD c 0) := fun h9 => h1 (.inr ⟨c, by omega, h9⟩)
  omega
theorem RightD.cl {D : Dfa} (h : RightD D) {b : Nat} (hb : b < 256) : D.cls b < D.many := Nat.lt_of_not_le fun h9 => h.cls ⟨b, hb, h9⟩
theorem RightD.aut {D : Dfa} (h : RightD D) : (autOf D).Ok :=
  ⟨h.lo, fun _ _ hi hb => ((h.row hi).2 _ (h.cl hb)).1, fun _ _ hi hb => ((h.row hi).2 _ (h.cl hb)).2⟩
/-- which classes some byte below k has -/
def UsOk (us : List Bool) (cls : Nat → Nat) (k : Nat) : Prop := us.length = 256 ∧ ∀ c, us.getD c false = true ↔ ∃ b, b < k ∧ cls b = c
theorem usOk_zero (cls : Nat → Nat) : UsOk (List.replicate 256 false) cls 0 := ⟨List.length_replicate, fun c => by
  constructor
  · intro h
    rw [List.getD_eq_getElem?_getD, List.getElem?_replicate] at h
    split at h <;> simp at h
  · rintro ⟨b, hb, _⟩; omega⟩
theorem usOk_step {us : List Bool} {cls : Nat → Nat} {k : Nat} (h : UsOk us cls k) (hc : cls k < 256) : UsOk (us.set (cls k) true) cls (k + 1) := ⟨by simp [h.1], fun c => by
  have key : (us.set (cls k) true).getD c false = true ↔ (c = cls k ∨ us.getD c false = true) := by
    rw [List.getD_eq_getElem?_getD, List.getElem?_set]
    by_cases e : cls k = c
    · subst e
      rw [if_pos rfl, if_pos (by rw [h.1]; exact hc)]; simp
    · rw [if_neg e, ← List.getD_eq_getElem?_getD]
      constructor
      · exact .inr
      · rintro (h9 | h9)
        · exact (e h9.symm).elim
        · exact h9
  rw [key, h.2 c]
  constructor
  · rintro (rfl | ⟨b, hb, e⟩)
    · exact ⟨k, by omega, rfl⟩
    · exact ⟨b, by omega, e⟩
  · rintro ⟨b, hb, e⟩
    by_cases e2 : b = k
    · subst e2; exact .inl e.symm
    · exact .inr ⟨b, by omega, e⟩⟩
theorem going_of {D : Dfa} (h : RightD D) {us : List Bool} (hu : UsOk us D.cls 256) {ls : List (List Int)} (hl : ls.length = D.next.length) (hr : ∀ i, i < D.next.length → ls.getD i [] = pick us (D.next.getD i []) D.many) : Going (autOf D) ls (cntU us D.many) := by
  refine ⟨hl, fun i hi => by rw [hr i hi, pick_len], fun b hb => ?_, fun p hp => ?_⟩
  · have h1 : us.getD (D.cls b) false = true := (hu.2 _).2 ⟨b, hb, rfl⟩
    refine ⟨cntU us (D.cls b), (pick_at (r := []) h1 (h.cl hb)).1, fun i hi => ?_⟩
    rw [hr i hi, (pick_at h1 (h.cl hb)).2]; rfl
  · obtain ⟨c, hc, h1, rfl⟩ := pick_inv hp
    obtain ⟨b, hb, rfl⟩ := (hu.2 c).1 h1
    refine ⟨b, hb, fun i hi => ?_⟩
    rw [hr i hi, (pick_at h1 hc).2]; rfl
end Go.Proofs.Ytiaigdedkdeeoaa
