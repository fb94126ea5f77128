/- The plain law on runs with more and with less fuel. -/
import Derived.Test.YtgejpggbmgiocaaInv
import Derived.Test.YtgejpggbmgiocaaRun
namespace Go.Proofs.Ytgejpggbmgiocaa
theorem doF_used {mg : List Int → Option (List Int)} {p : Prog} {room : Int} {t : St} {i : Ins} : (doF mg p room t i).1.used = t.used := by
  unfold doF
  by_cases e : i.op = 1
  · rw [if_pos e]
    all_goals first | rfl | (split <;> rfl)
  rw [if_neg e]
  clear e
  by_cases e : i.op = 2
  · rw [if_pos e]
    all_goals first | rfl | (split <;> rfl)
  rw [if_neg e]
  clear e
  by_cases e : i.op = 3
  · rw [if_pos e]
    all_goals first | rfl | (split <;> rfl)
  rw [if_neg e]
  clear e
  by_cases e : i.op = 4
  · rw [if_pos e]
    all_goals first | rfl | (split <;> rfl)
  rw [if_neg e]
  clear e
  by_cases e : i.op = 5
  · rw [if_pos e]
    all_goals first | rfl | (split <;> rfl)
  rw [if_neg e]
  clear e
  by_cases e : i.op = 6
  · rw [if_pos e]
    all_goals first | rfl | (split <;> rfl)
  rw [if_neg e]
  clear e
  by_cases e : i.op = 7
  · rw [if_pos e]
    all_goals first | rfl | (split <;> rfl)
  rw [if_neg e]
  clear e
  by_cases e : i.op = 8
  · rw [if_pos e]
    all_goals first | rfl | (split <;> rfl)
  rw [if_neg e]
  clear e
  by_cases e : i.op = 9
  · rw [if_pos e]
    all_goals first | rfl | (split <;> rfl)
  rw [if_neg e]
  clear e
  by_cases e : i.op = 10
  · rw [if_pos e]
    all_goals first | rfl | (split <;> rfl)
  rw [if_neg e]
  clear e
  by_cases e : i.op = 11
  · rw [if_pos e]
    all_goals first | rfl | (split <;> rfl)
  rw [if_neg e]
  clear e
  by_cases e : i.op = 12
  · rw [if_pos e]
    all_goals first | rfl | (split <;> rfl)
  rw [if_neg e]
  clear e
  by_cases e : i.op = 13
  · rw [if_pos e]
    all_goals first | rfl | (split <;> rfl)
  rw [if_neg e]
  clear e
  by_cases e : i.op = 14
  · rw [if_pos e]
    all_goals first | rfl | (split <;> rfl)
  rw [if_neg e]
  clear e
  by_cases e : i.op = 15
  · rw [if_pos e]
    all_goals first | rfl | (split <;> rfl)
  rw [if_neg e]
  clear e
  by_cases e : i.op = 17
  · rw [if_pos e]
    all_goals first | rfl | (split <;> rfl)
  rw [if_neg e]
  clear e
  split
  · rfl
  · split <;> rfl
theorem doF_end {mg : List Int → Option (List Int)} {p : Prog} {room : Int} {t : St} {i : Ins} {c : Nat} (h : (doF mg p room t i).2 = some c) : c = 0 ∨ c = 1 ∨ c = 3 := by
  unfold doF at h
  by_cases e : i.op = 1
  · rw [if_pos e] at h
    first | (cases h; omega) | (cases h; done) | (split at h <;> cases h)
  rw [if_neg e] at h
  clear e
  by_cases e : i.op = 2
  · rw [if_pos e] at h
    first | (cases h; omega) | (cases h; done) | (split at h <;> cases h)
  rw [if_neg e] at h
  clear e
  by_cases e : i.op = 3
  · rw [if_pos e] at h
    first | (cases h; omega) | (cases h; done) | (split at h <;> cases h)
  rw [if_neg e] at h
  clear e
  by_cases e : i.op = 4
  · rw [if_pos e] at h
    first | (cases h; omega) | (cases h; done) | (split at h <;> cases h)
  rw [if_neg e] at h
  clear e
  by_cases e : i.op = 5
  · rw [if_pos e] at h
    first | (cases h; omega) | (cases h; done) | (split at h <;> cases h)
  rw [if_neg e] at h
  clear e
  by_cases e : i.op = 6
  · rw [if_pos e] at h
    first | (cases h; omega) | (cases h; done) | (split at h <;> cases h)
  rw [if_neg e] at h
  clear e
  by_cases e : i.op = 7
  · rw [if_pos e] at h
    first | (cases h; omega) | (cases h; done) | (split at h <;> cases h)
  rw [if_neg e] at h
  clear e
  by_cases e : i.op = 8
  · rw [if_pos e] at h
    first | (cases h; omega) | (cases h; done) | (split at h <;> cases h)
  rw [if_neg e] at h
  clear e
  by_cases e : i.op = 9
  · rw [if_pos e] at h
    first | (cases h; omega) | (cases h; done) | (split at h <;> cases h)
  rw [if_neg e] at h
  clear e
  by_cases e : i.op = 10
  · rw [if_pos e] at h
    first | (cases h; omega) | (cases h; done) | (split at h <;> cases h)
  rw [if_neg e] at h
  clear e
  by_cases e : i.op = 11
  · rw [if_pos e] at h
    first | (cases h; omega) | (cases h; done) | (split at h <;> cases h)
  rw [if_neg e] at h
  clear e
  by_cases e : i.op = 12
  · rw [if_pos e] at h
    first | (cases h; omega) | (cases h; done) | (split at h <;> cases h)
  rw [if_neg e] at h
  clear e
  by_cases e : i.op = 13
  · rw [if_pos e] at h
    first | (cases h; omega) | (cases h; done) | (split at h <;> cases h)
  rw [if_neg e] at h
  clear e
  by_cases e : i.op = 14
  · rw [if_pos e] at h
    first | (cases h; omega) | (cases h; done) | (split at h <;> cases h)
  rw [if_neg e] at h
  clear e
  by_cases e : i.op = 15
  · rw [if_pos e] at h
    first | (cases h; omega) | (cases h; done) | (split at h <;> cases h)
  rw [if_neg e] at h
  clear e
  by_cases e : i.op = 17
  · rw [if_pos e] at h
    first | (cases h; omega) | (cases h; done) | (split at h <;> cases h)
  rw [if_neg e] at h
  clear e
  split at h
  · cases h; omega
  · split at h
    · cases h; omega
    · cases h
theorem costF_end {p : Prog} {room : Int} {t : St} {i : Ins} {c : Nat} (h : costF p room t i = .inl c) : c = 1 ∨ c = 3 := by
  unfold costF at h
  repeat' split at h
  all_goals first | (injection h with h; omega) | cases h
theorem stepF_end {mg : List Int → Option (List Int)} {p : Prog} {room fuel : Int} {t : St} {c : Nat} (h : (stepF mg p room fuel t).2 = some c) : c = 0 ∨ c = 1 ∨ c = 3 := by
  unfold stepF at h
  split at h
  · cases h; omega
  · simp only at h
    split at h
    · rename_i e he
      cases h
      have := costF_end he
      omega
    · split at h
      · cases h; omega
      · exact doF_end h
theorem stepF_used {mg : List Int → Option (List Int)} {p : Prog} {room fuel : Int} {t : St} (h : (t.used : Int) ≤ fuel) : t.used ≤ (stepF mg p room fuel t).1.used ∧ ((stepF mg p room fuel t).1.used : Int) ≤ fuel := by
  unfold stepF
  split
  · exact ⟨Nat.le_refl _, h⟩
  · simp only
    split
    · exact ⟨Nat.le_refl _, h⟩
    · split
      · exact ⟨Nat.le_refl _, h⟩
      · rw [doF_used]
        simp only
        omega
/-- a step that did not end for want of fuel is the same wherever what it uses can be paid -/
theorem stepF_same {mg : List Int → Option (List Int)} {p : Prog} {room fuel f2 : Int} {t : St} (h : (stepF mg p room fuel t).2 ≠ some 1) (h2 : ((stepF mg p room fuel t).1.used : Int) ≤ f2) : stepF mg p room f2 t = stepF mg p room fuel t := by
  unfold stepF at h h2 ⊢
  split
  · rfl
  · rename_i hpc
    rw [if_neg hpc] at h h2
    simp only at h h2 ⊢
    split
    · rfl
    · rename_i c hc
      rw [hc] at h h2
      simp only at h h2
      split at h
      · exact absurd rfl h
      · rename_i hlt
        rw [if_neg hlt] at h2 ⊢
        rw [doF_used] at h2
        simp only at h2
        rw [if_neg (by omega)]
/-- and where it can not, the fuel is out -/
theorem stepF_less {mg : List Int → Option (List Int)} {p : Prog} {room fuel f2 : Int} {t : St} (h : (stepF mg p room fuel t).2 ≠ some 1) (h1 : (t.used : Int) ≤ f2) (h2 : f2 < ((stepF mg p room fuel t).1.used : Int)) : stepF mg p room f2 t = (t, some 1) := by
  unfold stepF at h h2 ⊢
  split
  · rename_i hpc
    rw [if_pos hpc] at h2
    simp only at h2
    omega
  · rename_i hpc
    rw [if_neg hpc] at h h2
    simp only at h h2 ⊢
    split
    · rename_i e hc
      rw [hc] at h2
      simp only at h2
      omega
    · rename_i c hc
      rw [hc] at h h2
      simp only at h h2
      split at h
      · exact absurd rfl h
      · rename_i hlt
        rw [if_neg hlt] at h2
        rw [doF_used] at h2
        simp only at h2
        rw [if_pos (by omega)]
theorem Ends.det {stp : St → St × Option Nat} {s a b : St} {c d : Nat} (h1 : Ends stp s a c) (h2 : Ends stp s b d) : a = b ∧ c = d := by
  induction h1 with
  | last e =>
    cases h2 with
    | last e2 =>
      rw [e] at e2
      injection e2 with e3 e4
      injection e4 with e4
      exact ⟨e3, e4⟩
    | more e2 _ => rw [e] at e2; injection e2 with _ e4; cases e4
  | more e _ ih =>
    cases h2 with
    | last e2 => rw [e] at e2; injection e2 with _ e4; cases e4
    | more e2 h2 =>
      rw [e] at e2
      injection e2 with e3 _
      subst e3
      exact ih h2
section
variable {mg : List Int → Option (List Int)} {p : Prog} {room fuel : Int}
theorem ends_used {t t' : St} {c : Nat} (h : Ends (stepF mg p room fuel) t t' c) (hu : (t.used : Int) ≤ fuel) : t.used ≤ t'.used ∧ (t'.used : Int) ≤ fuel ∧ (c = 0 ∨ c = 1 ∨ c = 3) := by
  induction h with
  | @last s s' e he =>
    have h1 := stepF_used (mg := mg) (p := p) (room := room) hu
    rw [he] at h1
    exact ⟨h1.1, h1.2, stepF_end (by rw [he])⟩
  | @more s s1 s' e he _ ih =>
    have h1 := stepF_used (mg := mg) (p := p) (room := room) hu
    rw [he] at h1
    have h2 := ih h1.2
    have h3 : s.used ≤ s1.used := h1.1
    exact ⟨by omega, h2.2⟩
theorem ends_same {f2 : Int} {t t' : St} {c : Nat} (h : Ends (stepF mg p room fuel) t t' c) (hu : (t.used : Int) ≤ fuel) (hc : c ≠ 1) (h2 : (t'.used : Int) ≤ f2) : Ends (stepF mg p room f2) t t' c := by
  induction h with
  | @last s s' e he => exact .last (by rw [stepF_same (fuel := fuel) (by rw [he]; exact fun e9 => hc (Option.some.inj e9)) (by rw [he]; exact h2), he])
  | @more s s1 s' e he hE ih =>
    have h1 := (stepF_used (mg := mg) (p := p) (room := room) hu).2
    rw [he] at h1
    have h3 := ends_used hE h1
    exact .more (by rw [stepF_same (fuel := fuel) (by rw [he]; exact fun e9 => by cases e9) (by rw [he]; simp only; omega), he]) (ih h1 hc h2)
theorem ends_less {f2 : Int} {t t' : St} {c : Nat} (h : Ends (stepF mg p room fuel) t t' c) (hu : (t.used : Int) ≤ fuel) (hc : c ≠ 1) (h1 : (t.used : Int) ≤ f2) (h2 : f2 < (t'.used : Int)) : ∃ t2, Ends (stepF mg p room f2) t t2 1 := by
  induction h with
  | @last s s' e he => exact ⟨s, .last (stepF_less (fuel := fuel) (by rw [he]; exact fun e9 => hc (Option.some.inj e9)) h1 (by rw [he]; exact h2))⟩
  | @more s s1 s' e he hE ih =>
    have h4 := (stepF_used (mg := mg) (p := p) (room := room) hu).2
    rw [he] at h4
    by_cases h5 : (s1.used : Int) ≤ f2
    · obtain ⟨t2, ht2⟩ := ih h4 hc h5 h2
      exact ⟨t2, .more (by rw [stepF_same (fuel := fuel) (by rw [he]; exact fun e9 => by cases e9) (by rw [he]; exact h5), he]) ht2⟩
    · exact ⟨s, .last (stepF_less (fuel := fuel) (by rw [he]; exact fun e9 => by cases e9) h1 (by rw [he]; simp only; omega))⟩
theorem costF_done {p : Prog} {t : St} {i : Ins} {c : Nat} (h : costF p room t i = .inr c) : 1 ≤ c := by
  unfold costF at h
  repeat' split at h
  all_goals first | (injection h with h; omega) | cases h
end
end Go.Proofs.Ytgejpggbmgiocaa
