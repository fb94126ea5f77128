/- LPl, StepAll of this seat, in one text. -/
import Derived.Test.YtgejpggbmgiocaaM32
import Derived.Test.YtgejpggbmgiocaaM33
import Derived.Test.YtgejpggbmgiocaaM29
import Derived.Test.YtgejpggbmgiocaaM31
/- The plain law on runs with more and with less fuel. -/
namespace Go.Proofs.Ytgejpggbmgiocaa
theorem doF_used {mg : List Int → Option (List Int)} {p : Prog} {room : Int} {t : St} {i : Ins} : (doF mg p room t i).1.used = t.used := by
  unfold doF
  by_cases e : i.op = 1
  · rw [if_pos e]
    all_goals first | rfl | (split <;> rfl)
  rw [if_neg e]
  clear e
  by_cases e : i.op = 2
  · rw [if_pos e]
    all_goals first | rfl | (split <;> rfl)
  rw [if_neg e]
  clear e
  by_cases e : i.op = 3
  · rw [if_pos e]
    all_goals first | rfl | (split <;> rfl)
  rw [if_neg e]
  clear e
  by_cases e : i.op = 4
  · rw [if_pos e]
    all_goals first | rfl | (split <;> rfl)
  rw [if_neg e]
  clear e
  by_cases e : i.op = 5
  · rw [if_pos e]
    all_goals first | rfl | (split <;> rfl)
  rw [if_neg e]
  clear e
  by_cases e : i.op = 6
  · rw [if_pos e]
    all_goals first | rfl | (split <;> rfl)
  rw [if_neg e]
  clear e
  by_cases e : i.op = 7
  · rw [if_pos e]
    all_goals first | rfl | (split <;> rfl)
  rw [if_neg e]
  clear e
  by_cases e : i.op = 8
  · rw [if_pos e]
    all_goals first | rfl | (split <;> rfl)
  rw [if_neg e]
  clear e
  by_cases e : i.op = 9
  · rw [if_pos e]
    all_goals first | rfl | (split <;> rfl)
  rw [if_neg e]
  clear e
  by_cases e : i.op = 10
  · rw [if_pos e]
    all_goals first | rfl | (split <;> rfl)
  rw [if_neg e]
  clear e
  by_cases e : i.op = 11
  · rw [if_pos e]
    all_goals first | rfl | (split <;> rfl)
  rw [if_neg e]
  clear e
  by_cases e : i.op = 12
  · rw [if_pos e]
    all_goals first | rfl | (split <;> rfl)
  rw [if_neg e]
  clear e
  by_cases e : i.op = 13
  · rw [if_pos e]
    all_goals first | rfl | (split <;> rfl)
  rw [if_neg e]
  clear e
  by_cases e : i.op = 14
  · rw [if_pos e]
    all_goals first | rfl | (split <;> rfl)
  rw [if_neg e]
  clear e
  by_cases e : i.op = 15
  · rw [if_pos e]
    all_goals first | rfl | (split <;> rfl)
  rw [if_neg e]
  clear e
  by_cases e : i.op = 17
  · rw [if_pos e]
    all_goals first | rfl | (split <;> rfl)
  rw [if_neg e]
  clear e
  split
  · rfl
  · split <;> rfl
theorem doF_end {mg : List Int → Option (List Int)} {p : Prog} {room : Int} {t : St} {i : Ins} {c : Nat} (h : (doF mg p room t i).2 = some c) : c = 0 ∨ c = 1 ∨ c = 3 := by
  unfold doF at h
  by_cases e : i.op = 1
  · rw [if_pos e] at h
    first | (cases h; omega) | (cases h; done) | (split at h <;> cases h)
  rw [if_neg e] at h
  clear e
  by_cases e : i.op = 2
  · rw [if_pos e] at h
    first | (cases h; omega) | (cases h; done) | (split at h <;> cases h)
  rw [if_neg e] at h
  clear e
  by_cases e : i.op = 3
  · rw [if_pos e] at h
    first | (cases h; omega) | (cases h; done) | (split at h <;> cases h)
  rw [if_neg e] at h
  clear e
  by_cases e : i.op = 4
  · rw [if_pos e] at h
    first | (cases h; omega) | (cases h; done) | (split at h <;> cases h)
  rw [if_neg e] at h
  clear e
  by_cases e : i.op = 5
  · rw [if_pos e] at h
    first | (cases h; omega) | (cases h; done) | (split at h <;> cases h)
  rw [if_neg e] at h
  clear e
  by_cases e : i.op = 6
  · rw [if_pos e] at h
    first | (cases h; omega) | (cases h; done) | (split at h <;> cases h)
  rw [if_neg e] at h
  clear e
  by_cases e : i.op = 7
  · rw [if_pos e] at h
    first | (cases h; omega) | (cases h; done) | (split at h <;> cases h)
  rw [if_neg e] at h
  clear e
  by_cases e : i.op = 8
  · rw [if_pos e] at h
    first | (cases h; omega) | (cases h; done) | (split at h <;> cases h)
  rw [if_neg e] at h
  clear e
  by_cases e : i.op = 9
  · rw [if_pos e] at h
    first | (cases h; omega) | (cases h; done) | (split at h <;> cases h)
  rw [if_neg e] at h
  clear e
  by_cases e : i.op = 10
  · rw [if_pos e] at h
    first | (cases h; omega) | (cases h; done) | (split at h <;> cases h)
  rw [if_neg e] at h
  clear e
  by_cases e : i.op = 11
  · rw [if_pos e] at h
    first | (cases h; omega) | (cases h; done) | (split at h <;> cases h)
  rw [if_neg e] at h
  clear e
  by_cases e : i.op = 12
  · rw [if_pos e] at h
    first | (cases h; omega) | (cases h; done) | (split at h <;> cases h)
  rw [if_neg e] at h
  clear e
  by_cases e : i.op = 13
  · rw [if_pos e] at h
    first | (cases h; omega) | (cases h; done) | (split at h <;> cases h)
  rw [if_neg e] at h
  clear e
  by_cases e : i.op = 14
  · rw [if_pos e] at h
    first | (cases h; omega) | (cases h; done) | (split at h <;> cases h)
  rw [if_neg e] at h
  clear e
  by_cases e : i.op = 15
  · rw [if_pos e] at h
    first | (cases h; omega) | (cases h; done) | (split at h <;> cases h)
  rw [if_neg e] at h
  clear e
  by_cases e : i.op = 17
  · rw [if_pos e] at h
    first | (cases h; omega) | (cases h; done) | (split at h <;> cases h)
  rw [if_neg e] at h
  clear e
  split at h
  · cases h; omega
  · split at h
    · cases h; omega
    · cases h
theorem costF_end {p : Prog} {room : Int} {t : St} {i : Ins} {c : Nat} (h : costF p room t i = .inl c) : c = 1 ∨ c = 3 := by
  unfold costF at h
  repeat' split at h
  all_goals first | (injection h with h; omega) | cases h
theorem stepF_end {mg : List Int → Option (List Int)} {p : Prog} {room fuel : Int} {t : St} {c : Nat} (h : (stepF mg p room fuel t).2 = some c) : c = 0 ∨ c = 1 ∨ c = 3 := by
  unfold stepF at h
  split at h
  · cases h; omega
  · simp only at h
    split at h
    · rename_i e he
      cases h
      have := costF_end he
      omega
    · split at h
      · cases h; omega
      · exact doF_end h
theorem stepF_used {mg : List Int → Option (List Int)} {p : Prog} {room fuel : Int} {t : St} (h : (t.used : Int) ≤ fuel) : t.used ≤ (stepF mg p room fuel t).1.used ∧ ((stepF mg p room fuel t).1.used : Int) ≤ fuel := by
  unfold stepF
  split
  · exact ⟨Nat.le_refl _, h⟩
  · simp only
    split
    · exact ⟨Nat.le_refl _, h⟩
    · split
      · exact ⟨Nat.le_refl _, h⟩
      · rw [doF_used]
        simp only
        omega
/-- a step that did not end for want of fuel is the same wherever what it uses can be paid -/
theorem stepF_same {mg : List Int → Option (List Int)} {p : Prog} {room fuel f2 : Int} {t : St} (h : (stepF mg p room fuel t).2 ≠ some 1) (h2 : ((stepF mg p room fuel t).1.used : Int) ≤ f2) : stepF mg p room f2 t = stepF mg p room fuel t := by
  unfold stepF at h h2 ⊢
  split
  · rfl
  · rename_i hpc
    rw [if_neg hpc] at h h2
    simp only at h h2 ⊢
    split
    · rfl
    · rename_i c hc
      rw [hc] at h h2
      simp only at h h2
      split at h
      · exact absurd rfl h
      · rename_i hlt
        rw [if_neg hlt] at h2 ⊢
        rw [doF_used] at h2
        simp only at h2
        rw [if_neg (by omega)]
/-- and where it can not, the fuel is out -/
theorem stepF_less {mg : List Int → Option (List Int)} {p : Prog} {room fuel f2 : Int} {t : St} (h : (stepF mg p room fuel t).2 ≠ some 1) (h1 : (t.used : Int) ≤ f2) (h2 : f2 < ((stepF mg p room fuel t).1.used : Int)) : stepF mg p room f2 t = (t, some 1) := by
  unfold stepF at h h2 ⊢
  split
  · rename_i hpc
    rw [if_pos hpc] at h2
    simp only at h2
    omega
  · rename_i hpc
    rw [if_neg hpc] at h h2
    simp only at h h2 ⊢
    split
    · rename_i e hc
      rw [hc] at h2
      simp only at h2
      omega
    · rename_i c hc
      rw [hc] at h h2
      simp only at h h2
      split at h
      · exact absurd rfl h
      · rename_i hlt
        rw [if_neg hlt] at h2
        rw [doF_used] at h2
        simp only at h2
        rw [if_pos (by omega)]
theorem Ends.det {stp : St → St × Option Nat} {s a b : St} {c d : Nat} (h1 : Ends stp s a c) (h2 : Ends stp s b d) : a = b ∧ c = d := by
  induction h1 with
  | last e =>
    cases h2 with
    | last e2 =>
      rw [e] at e2
      injection e2 with e3 e4
      injection e4 with e4
      exact ⟨e3, e4⟩
    | more e2 _ => rw [e] at e2; injection e2 with _ e4; cases e4
  | more e _ ih =>
    cases h2 with
    | last e2 => rw [e] at e2; injection e2 with _ e4; cases e4
    | more e2 h2 =>
      rw [e] at e2
      injection e2 with e3 _
      subst e3
      exact ih h2
section
variable {mg : List Int → Option (List Int)} {p : Prog} {room fuel : Int}
theorem ends_used {t t' : St} {c : Nat} (h : Ends (stepF mg p room fuel) t t' c) (hu : (t.used : Int) ≤ fuel) : t.used ≤ t'.used ∧ (t'.used : Int) ≤ fuel ∧ (c = 0 ∨ c = 1 ∨ c = 3) := by
  induction h with
  | @last s s' e he =>
    have h1 := stepF_used (mg := mg) (p := p) (room := room) hu
    rw [he] at h1
    exact ⟨h1.1, h1.2, stepF_end (by rw [he])⟩
  | @more s s1 s' e he _ ih =>
    have h1 := stepF_used (mg := mg) (p := p) (room := room) hu
    rw [he] at h1
    have h2 := ih h1.2
    have h3 : s.used ≤ s1.used := h1.1
    exact ⟨by omega, h2.2⟩
theorem ends_same {f2 : Int} {t t' : St} {c : Nat} (h : Ends (stepF mg p room fuel) t t' c) (hu : (t.used : Int) ≤ fuel) (hc : c ≠ 1) (h2 : (t'.used : Int) ≤ f2) : Ends (stepF mg p room f2) t t' c := by
  induction h with
  | @last s s' e he => exact .last (by rw [stepF_same (fuel := fuel) (by rw [he]; exact fun e9 => hc (Option.some.inj e9)) (by rw [he]; exact h2), he])
  | @more s s1 s' e he hE ih =>
    have h1 := (stepF_used (mg := mg) (p := p) (room := room) hu).2
    rw [he] at h1
    have h3 := ends_used hE h1
    exact .more (by rw [stepF_same (fuel := fuel) (by rw [he]; exact fun e9 => by cases e9) (by rw [he]; simp only; omega), he]) (ih h1 hc h2)
theorem ends_less {f2 : Int} {t t' : St} {c : Nat} (h : Ends (stepF mg p room fuel) t t' c) (hu : (t.used : Int) ≤ fuel) (hc : c ≠ 1) (h1 : (t.used : Int) ≤ f2) (h2 : f2 < (t'.used : Int)) : ∃ t2, Ends (stepF mg p room f2) t t2 1 := by
  induction h with
  | @last s s' e he => exact ⟨s, .last (stepF_less (fuel := fuel) (by rw [he]; exact fun e9 => hc (Option.some.inj e9)) h1 (by rw [he]; exact h2))⟩
  | @more s s1 s' e he hE ih =>
    have h4 := (stepF_used (mg := mg) (p := p) (room := room) hu).2
    rw [he] at h4
    by_cases h5 : (s1.used : Int) ≤ f2
    · obtain ⟨t2, ht2⟩ := ih h4 hc h5 h2
      exact ⟨t2, .more (by rw [stepF_same (fuel := fuel) (by rw [he]; exact fun e9 => by cases e9) (by rw [he]; exact h5), he]) ht2⟩
    · exact ⟨s, .last (stepF_less (fuel := fuel) (by rw [he]; exact fun e9 => by cases e9) h1 (by rw [he]; simp only; omega))⟩
theorem costF_done {p : Prog} {t : St} {i : Ins} {c : Nat} (h : costF p room t i = .inr c) : 1 ≤ c := by
  unfold costF at h
  repeat' split at h
  all_goals first | (injection h with h; omega) | cases h
end
end Go.Proofs.Ytgejpggbmgiocaa
/- A step of the machine: all instructions. -/
namespace Go.Proofs.Ytgejpggbmgiocaa
open Go.RowKit
theorem fits_ops {i : Ins} (h : fitsF i = true) : i.op = 1 ∨ i.op = 2 ∨ i.op = 3 ∨ i.op = 4 ∨ i.op = 5 ∨ i.op = 6 ∨ i.op = 7 ∨ i.op = 8 ∨ i.op = 9 ∨ i.op = 10 ∨ i.op = 11 ∨ i.op = 12 ∨ i.op = 13 ∨ i.op = 14 ∨ i.op = 15 ∨ i.op = 16 ∨ i.op = 17 := by
  unfold fitsF at h
  split at h
  · omega
  · split at h
    · omega
    · split at h
      · omega
      · split at h
        · omega
        · cases h
def numB (x : Int) : Prop := -9223372036854775808 ≤ x ∧ x ≤ 9223372036854775807
def RegB (s : St) : Prop := ∀ k, numB (s.regs.getD k 0)
/-- a program in memory -/
structure PIn (w : World) (B : Nat) (prg : List Value) (p : Prog) (S K V : List Int) : Prop where
  code : CodeIn w B prg p.code
  tabs : TabsIn w B prg p.tabs
  texts : TextsIn w B prg p.texts
  pairs : PairsIn w B prg p.signs S K V
  cb : ∀ k, numB (p.code.getD k noIns).b
  db : ∀ k j, numB ((p.tabs.getD k noTbl).data.getD j 0)
theorem RegB.set {s : St} (h : RegB s) (i x : Int) (hx : numB x) : RegB (s.setReg i x) := by
  intro k
  show numB ((s.regs.set i.toNat x).getD k 0)
  by_cases hk : k < s.regs.length
  · by_cases he : i.toNat = k
    · subst he
      simpa [hk] using hx
    · have := h k
      simpa [List.getElem?_set, he] using this
  · have e : (s.regs.set i.toNat x).getD k 0 = 0 := by simp [List.getD, List.getElem?_eq_none (by simpa using hk : (s.regs.set i.toNat x).length ≤ k)]
    rw [e]
    exact ⟨by decide, by decide⟩
theorem doF_regs {mg : List Int → Option (List Int)} {p : Prog} {room : Int} {t : St} {i : Ins} (h : RegB t) (hb : numB i.b) (hd : ∀ k j, numB ((p.tabs.getD k noTbl).data.getD j 0)) : RegB (doF mg p room t i).1 := by
  unfold doF
  by_cases e : i.op = 1
  · rw [if_pos e]
    first | exact h | (split <;> exact h)
  rw [if_neg e]
  clear e
  by_cases e : i.op = 2
  · rw [if_pos e]
    exact h.set _ _ hb
  rw [if_neg e]
  clear e
  by_cases e : i.op = 3
  · rw [if_pos e]
    exact h.set _ _ (h _)
  rw [if_neg e]
  clear e
  by_cases e : i.op = 4
  · rw [if_pos e]
    first | exact h | (split <;> exact h)
  rw [if_neg e]
  clear e
  by_cases e : i.op = 5
  · rw [if_pos e]
    first | exact h | (split <;> exact h)
  rw [if_neg e]
  clear e
  by_cases e : i.op = 6
  · rw [if_pos e]
    first | exact h | (split <;> exact h)
  rw [if_neg e]
  clear e
  by_cases e : i.op = 7
  · rw [if_pos e]
    split
    · exact h
    · exact h.set _ _ ⟨by omega, by have := (t.src.getD t.here 0).toNat_lt; omega⟩
  rw [if_neg e]
  clear e
  by_cases e : i.op = 8
  · rw [if_pos e]
    exact h.set _ _ (hd _ _)
  rw [if_neg e]
  clear e
  by_cases e : i.op = 9
  · rw [if_pos e]
    first | exact h | (split <;> exact h)
  rw [if_neg e]
  clear e
  by_cases e : i.op = 10
  · rw [if_pos e]
    first | exact h | (split <;> exact h)
  rw [if_neg e]
  clear e
  by_cases e : i.op = 11
  · rw [if_pos e]
    first | exact h | (split <;> exact h)
  rw [if_neg e]
  clear e
  by_cases e : i.op = 12
  · rw [if_pos e]
    first | exact h | (split <;> exact h)
  rw [if_neg e]
  clear e
  by_cases e : i.op = 13
  · rw [if_pos e]
    first | exact h | (split <;> exact h)
  rw [if_neg e]
  clear e
  by_cases e : i.op = 14
  · rw [if_pos e]
    first | exact h | (split <;> exact h)
  rw [if_neg e]
  clear e
  by_cases e : i.op = 15
  · rw [if_pos e]
    first | exact h | (split <;> exact h)
  rw [if_neg e]
  clear e
  by_cases e : i.op = 17
  · rw [if_pos e]
    first | exact h | (split <;> exact h)
  rw [if_neg e]
  clear e
  split
  · exact h
  · split <;> exact h
theorem stepF_regs {mg : List Int → Option (List Int)} {p : Prog} {room fuel : Int} {t : St} (h : RegB t) (hb : ∀ k, numB (p.code.getD k noIns).b) (hd : ∀ k j, numB ((p.tabs.getD k noTbl).data.getD j 0)) : RegB (stepF mg p room fuel t).1 := by
  unfold stepF
  split
  · exact h
  · simp only
    split
    · exact h
    · split
      · exact h
      · exact doF_regs h (hb _) hd
theorem step_all (B g : Nat) (w0 W : World) (prg : List Value) (room fuel : Int) (s : St) (vs vp vg vt : Value) (p : Prog) (S K V : List Int) (h : RS B g w0 W prg room fuel s vs vp vg vt) (hp : PIn w0 B prg p S K V) (hv : Inv room fuel s) (hrg : RegB s) (hfu : fuel ≤ 35184372088832) (hro : room ≤ 10000000000) :
    Calls Try.prog 20 #[.pointer (some ⟨g, 0, none⟩)] W (Res B g w0 prg room fuel (stepF (mgF p.signs S K V) p room fuel s)) := by
  have htl : s.told.length ≤ 10000000000 := by have := hv.told; omega
  have hsl := hv.signs
  have hpl := hv.put
  have hn : s.told.length ≤ 10000000000 ∧ s.signs.length ≤ 10000000000 ∧ s.src.length ≤ 140737488355328 := ⟨htl, by omega, by have := hv.src; omega⟩
  by_cases hpc : s.pc < 0 ∨ (p.code.length : Int) ≤ s.pc
  · exact st_out B g w0 W prg room fuel s vs vp vg vt _ p h hp.code hpc
  · obtain ⟨k, hk⟩ : ∃ k : Nat, s.pc = (k : Int) := ⟨s.pc.toNat, by omega⟩
    have hkl : k < p.code.length := by omega
    obtain ⟨i, hi⟩ : ∃ i, p.code.getD k noIns = i := ⟨_, rfl⟩
    cases hf : fitsF i with
    | false => exact st_misfit B g w0 W prg room fuel s vs vp vg vt _ p h hp.code k hk hkl i hi hf
    | true =>
      rcases fits_ops hf with ho | ho | ho | ho | ho | ho | ho | ho | ho | ho | ho | ho | ho | ho | ho | ho | ho
      · exact st_plain B g w0 W prg room fuel s vs vp vg vt _ p h hp.code hv.used hfu k hk hkl i hi hf (by omega) (by omega) (by omega) (by omega) (by omega) (by omega) (fun W2 h2 => dok_1 B g w0 W2 prg room fuel _ vs vp vg vt _ p i ho hf h2)
      · exact st_plain B g w0 W prg room fuel s vs vp vg vt _ p h hp.code hv.used hfu k hk hkl i hi hf (by omega) (by omega) (by omega) (by omega) (by omega) (by omega) (fun W2 h2 => dok_2 B g w0 W2 prg room fuel _ vs vp vg vt _ p i ho hf h2)
      · exact st_plain B g w0 W prg room fuel s vs vp vg vt _ p h hp.code hv.used hfu k hk hkl i hi hf (by omega) (by omega) (by omega) (by omega) (by omega) (by omega) (fun W2 h2 => dok_3 B g w0 W2 prg room fuel _ vs vp vg vt _ p i ho hf h2)
      · exact st_plain B g w0 W prg room fuel s vs vp vg vt _ p h hp.code hv.used hfu k hk hkl i hi hf (by omega) (by omega) (by omega) (by omega) (by omega) (by omega) (fun W2 h2 => dok_4 B g w0 W2 prg room fuel _ vs vp vg vt _ p i ho hf h2)
      · exact st_plain B g w0 W prg room fuel s vs vp vg vt _ p h hp.code hv.used hfu k hk hkl i hi hf (by omega) (by omega) (by omega) (by omega) (by omega) (by omega) (fun W2 h2 => dok_5 B g w0 W2 prg room fuel _ vs vp vg vt _ p i ho hf h2)
      · exact st_plain B g w0 W prg room fuel s vs vp vg vt _ p h hp.code hv.used hfu k hk hkl i hi hf (by omega) (by omega) (by omega) (by omega) (by omega) (by omega) (fun W2 h2 => dok_6 B g w0 W2 prg room fuel _ vs vp vg vt _ p i ho hf h2)
      · exact st_plain B g w0 W prg room fuel s vs vp vg vt _ p h hp.code hv.used hfu k hk hkl i hi hf (by omega) (by omega) (by omega) (by omega) (by omega) (by omega) (fun W2 h2 => dok_7 B g w0 W2 prg room fuel _ vs vp vg vt _ p i ho hf h2 hn)
      · exact st_8 B g w0 W prg room fuel s vs vp vg vt _ p h hp.code hv.used hfu k hk hkl i hi hf ho hp.tabs (fun W2 h2 hc => by
          obtain ⟨cc, hcc⟩ := Option.ne_none_iff_exists'.1 hc
          rw [hcc]
          exact dok_8 B g w0 W2 prg room fuel _ vs vp vg vt _ p i ho hf hp.tabs cc hcc h2)
      · exact st_plain B g w0 W prg room fuel s vs vp vg vt _ p h hp.code hv.used hfu k hk hkl i hi hf (by omega) (by omega) (by omega) (by omega) (by omega) (by omega) (fun W2 h2 => dok_9 B g w0 W2 prg room fuel _ vs vp vg vt _ p i ho hf h2)
      · exact st_plain B g w0 W prg room fuel s vs vp vg vt _ p h hp.code hv.used hfu k hk hkl i hi hf (by omega) (by omega) (by omega) (by omega) (by omega) (by omega) (fun W2 h2 => dok_10 B g w0 W2 prg room fuel _ vs vp vg vt _ p i ho hf h2)
      · exact st_plain B g w0 W prg room fuel s vs vp vg vt _ p h hp.code hv.used hfu k hk hkl i hi hf (by omega) (by omega) (by omega) (by omega) (by omega) (by omega) (fun W2 h2 => dok_11 B g w0 W2 prg room fuel _ vs vp vg vt _ p i ho hf h2)
      · exact st_12 B g w0 W prg room fuel s vs vp vg vt _ p h hp.code hv.used hfu k hk hkl i hi hf ho (fun W2 h2 hb => dok_12 B g w0 W2 prg room fuel _ vs vp vg vt _ p i ho hf hb (Nat.le_trans hpl (by decide)) h2)
      · exact st_13 B g w0 W prg room fuel s vs vp vg vt _ p h hp.code hv.used hfu k hk hkl i hi hf ho hp.texts hpl hrg (fun W2 h2 hb => dok_13 B g w0 W2 prg room fuel _ vs vp vg vt _ p i ho hf h2 (Nat.le_trans hb (by decide)))
      · exact st_plain B g w0 W prg room fuel s vs vp vg vt _ p h hp.code hv.used hfu k hk hkl i hi hf (by omega) (by omega) (by omega) (by omega) (by omega) (by omega) (fun W2 h2 => dok_14 B g w0 W2 prg room fuel _ vs vp vg vt _ p i ho h2)
      · exact st_15 B g w0 W prg room fuel s vs vp vg vt _ p h hp.code hv.used hfu k hk hkl i hi hf ho hp.pairs.p3 (fun W2 h2 => dok_15 B g w0 W2 prg room fuel _ vs vp vg vt _ p i ho hf h2 hn)
      · exact st_16 B g w0 W prg room fuel s vs vp vg vt _ p h hp.code hv.used hfu k hk hkl i hi hf ho hsl (fun W2 h2 => dok_16 B g w0 W2 prg room fuel _ vs vp vg vt p S K V i ho h2 hp.pairs htl hsl hro)
      · exact st_17 B g w0 W prg room fuel s vs vp vg vt _ p h hp.code hv.used hfu hn k hk hkl i hi hf ho
end Go.Proofs.Ytgejpggbmgiocaa
