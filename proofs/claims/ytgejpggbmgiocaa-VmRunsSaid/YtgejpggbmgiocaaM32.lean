/- Inv of this seat, in one text. -/
import Derived.Test.YtgejpggbmgiocaaM4
/- What a step keeps: plain. -/
namespace Go.Proofs.Ytgejpggbmgiocaa

structure Inv (room fuel : Int) (t : St) : Prop where
  used : (t.used : Int) ≤ fuel
  told : (t.told.length : Int) ≤ max room 0
  signs : t.signs.length ≤ 262144
  put : t.put.length ≤ 262144
  src : t.src.length ≤ 262144
theorem costF_pos {p : Prog} {room : Int} {s : St} {i : Ins} {c : Nat} (h : costF p room s i = .inr c) : 1 ≤ c := by
  unfold costF at h
  repeat' split at h
  all_goals first | (injection h with h; omega) | cases h
theorem doF_keeps {mg : List Int → Option (List Int)} {p : Prog} {room fuel : Int} {t t' : St} {i : Ins} {c : Nat} (hc : costF p room t i = .inr c) (h : Inv room fuel t) (hf : ¬ fuel - t.used < c) (hd : doF mg p room { t with used := t.used + c, pc := t.pc + 1 } i = (t', none)) :
    Inv room fuel t' ∧ t.used < t'.used := by
  have hp := costF_pos hc
  have hu : ((t.used + c : Nat) : Int) ≤ fuel := by omega
  have h12 : i.op = 12 → t.put.length < 262144 := fun e => by
    unfold costF at hc
    simp only [e] at hc
    repeat' split at hc
    all_goals first | omega | exact absurd trivial (by assumption) | cases hc
  have h13 : i.op = 13 → t.put.length + (textF p t i).length ≤ 262144 := fun e => by
    unfold costF at hc
    simp only [e] at hc
    repeat' split at hc
    all_goals first | omega | exact absurd trivial (by assumption) | cases hc
  have h15 : i.op = 15 → t.signs.length < 262144 := fun e => by
    unfold costF at hc
    simp only [e] at hc
    repeat' split at hc
    all_goals first | omega | exact absurd trivial (by assumption) | cases hc
  have h17 : i.op = 17 → (t.told.length : Int) < room := fun e => by
    unfold costF at hc
    simp only [e] at hc
    repeat' split at hc
    all_goals first | omega | exact absurd trivial (by assumption) | cases hc
  have base : ∀ u : St, u.used = t.used + c → u.told = t.told → u.signs = t.signs → u.put = t.put → u.src = t.src → Inv room fuel u ∧ t.used < u.used := fun u e1 e2 e3 e4 e5 =>
    ⟨⟨by rw [e1]; exact hu, by rw [e2]; exact h.told, by rw [e3]; exact h.signs, by rw [e4]; exact h.put, by rw [e5]; exact h.src⟩, by rw [e1]; omega⟩
  unfold doF at hd
  by_cases e : i.op = 1
  · rw [if_pos e] at hd
    cases hd
  rw [if_neg e] at hd
  clear e
  by_cases e : i.op = 2
  · rw [if_pos e] at hd
    cases hd
    exact base _ rfl rfl rfl rfl rfl
  rw [if_neg e] at hd
  clear e
  by_cases e : i.op = 3
  · rw [if_pos e] at hd
    cases hd
    exact base _ rfl rfl rfl rfl rfl
  rw [if_neg e] at hd
  clear e
  by_cases e : i.op = 4
  · rw [if_pos e] at hd
    cases hd
    exact base _ rfl rfl rfl rfl rfl
  rw [if_neg e] at hd
  clear e
  by_cases e : i.op = 5
  · rw [if_pos e] at hd
    cases hd
    split <;> exact base _ rfl rfl rfl rfl rfl
  rw [if_neg e] at hd
  clear e
  by_cases e : i.op = 6
  · rw [if_pos e] at hd
    cases hd
    split <;> exact base _ rfl rfl rfl rfl rfl
  rw [if_neg e] at hd
  clear e
  by_cases e : i.op = 7
  · rw [if_pos e] at hd
    cases hd
    split <;> exact base _ rfl rfl rfl rfl rfl
  rw [if_neg e] at hd
  clear e
  by_cases e : i.op = 8
  · rw [if_pos e] at hd
    cases hd
    exact base _ rfl rfl rfl rfl rfl
  rw [if_neg e] at hd
  clear e
  by_cases e : i.op = 9
  · rw [if_pos e] at hd
    cases hd
    exact base _ rfl rfl rfl rfl rfl
  rw [if_neg e] at hd
  clear e
  by_cases e : i.op = 10
  · rw [if_pos e] at hd
    cases hd
    exact base _ rfl rfl rfl rfl rfl
  rw [if_neg e] at hd
  clear e
  by_cases e : i.op = 11
  · rw [if_pos e] at hd
    cases hd
    split <;> exact base _ rfl rfl rfl rfl rfl
  rw [if_neg e] at hd
  clear e
  by_cases e : i.op = 12
  · rw [if_pos e] at hd
    cases hd
    exact ⟨⟨hu, h.told, h.signs, by have := h12 e; simp; omega, h.src⟩, by show t.used < t.used + c; omega⟩
  rw [if_neg e] at hd
  clear e
  by_cases e : i.op = 13
  · rw [if_pos e] at hd
    cases hd
    exact ⟨⟨hu, h.told, h.signs, by have := h13 e; simp only [List.length_append]; exact this, h.src⟩, by show t.used < t.used + c; omega⟩
  rw [if_neg e] at hd
  clear e
  by_cases e : i.op = 14
  · rw [if_pos e] at hd
    cases hd
    exact ⟨⟨hu, h.told, h.signs, by simp, h.put⟩, by show t.used < t.used + c; omega⟩
  rw [if_neg e] at hd
  clear e
  by_cases e : i.op = 15
  · rw [if_pos e] at hd
    cases hd
    exact ⟨⟨hu, h.told, by have := h15 e; simp; omega, h.put, h.src⟩, by show t.used < t.used + c; omega⟩
  rw [if_neg e] at hd
  clear e
  by_cases e : i.op = 17
  · rw [if_pos e] at hd
    cases hd
    exact ⟨⟨hu, by have := h17 e; simp; omega, h.signs, h.put, h.src⟩, by show t.used < t.used + c; omega⟩
  rw [if_neg e] at hd
  clear e
  simp only at hd
  split at hd
  · cases hd
  · split at hd
    · cases hd
    · rename_i hr
      cases hd
      exact ⟨⟨hu, by simp only [List.length_append] at hr ⊢; omega, by simp, h.put, h.src⟩, by show t.used < t.used + c; omega⟩
theorem stepF_keeps {mg : List Int → Option (List Int)} {p : Prog} {room fuel : Int} {t : St} (h : Inv room fuel t) (hs : (stepF mg p room fuel t).2 = none) : Inv room fuel (stepF mg p room fuel t).1 ∧ t.used < (stepF mg p room fuel t).1.used := by
  obtain ⟨r, hr⟩ : ∃ r, r = stepF mg p room fuel t := ⟨_, rfl⟩
  rw [← hr] at hs ⊢
  obtain ⟨t', o⟩ := r
  simp only at hs
  subst hs
  unfold stepF at hr
  split at hr
  · cases hr
  · simp only at hr
    split at hr
    · cases hr
    · rename_i c hc
      split at hr
      · cases hr
      · rename_i hlt
        exact doF_keeps hc h hlt hr.symm
end Go.Proofs.Ytgejpggbmgiocaa
