/- Depth first: which states are reached over nothing. Plain. -/
import Derived.Test.YtpeoomdfopjlmaaRows22
namespace Go.Proofs.Ytpeoomdfopjlmaa
open Go.RowKit

inductive Rch (E : List Ed) (S : Nat) (L : List Int) : Int → Prop
  | root {i : Int} : i ∈ L → 0 ≤ i → i < (S : Int) → Rch E S L i
  | step {e : Ed} : e ∈ E → e.free = true → Rch E S L e.src → Rch E S L e.dst
def OkE (E : List Ed) (S : Nat) : Prop := ∀ e ∈ E, 0 ≤ e.src ∧ e.src < (S : Int) ∧ 0 ≤ e.dst ∧ e.dst < (S : Int)
theorem okE_of {S : Nat} {a z : Int} {E : List Ed} (h : RightN ⟨(S : Int), a, z, E⟩) : OkE E S := fun e he => by
  obtain ⟨k, hk, rfl⟩ := List.getElem_of_mem he
  have h9 : ¬ BadE (S : Int) (E.getD k noEd) := fun h9 => h.ok ⟨k, hk, h9⟩
  have : E.getD k noEd = E[k] := by simp [hk]
  rw [this] at h9
  unfold BadE at h9
  omega
theorem Rch.range {E : List Ed} {S : Nat} {L : List Int} (hE : OkE E S) {i : Int} (h : Rch E S L i) : 0 ≤ i ∧ i < (S : Int) := by
  cases h with
  | root _ h1 h2 => exact ⟨h1, h2⟩
  | step he _ _ => exact ⟨(hE _ he).2.2.1, (hE _ he).2.2.2⟩

structure Dfs (E : List Ed) (S : Nat) (L : List Int) (pre st : List Int) (seen : List Bool) : Prop where
  nodup : (pre ++ st).Nodup
  rch : ∀ i, i ∈ pre ++ st → Rch E S L i
  sn : ∀ j, j < S → (seen.getD j false = true ↔ (j : Int) ∈ pre ++ st)
  len : seen.length = S
section
variable {E : List Ed} {S : Nat} {L pre st : List Int} {seen : List Bool}
theorem Dfs.begin : Dfs E S L [] [] (List.replicate S false) := ⟨by simp, by simp, fun j hj => by simp [hj], by simp⟩
theorem Dfs.push (h : Dfs E S L pre st seen) {j : Nat} (hj : j < S) (hr : Rch E S L (j : Int)) (hs : seen.getD j false = false) : Dfs E S L pre (st ++ [(j : Int)]) (seen.set j true) := by
  have hn : (j : Int) ∉ pre ++ st := fun h9 => by have := (h.sn j hj).2 h9; rw [hs] at this; cases this
  refine ⟨?_, fun i hi => ?_, fun k hk => ?_, by simp [h.len]⟩
  · rw [← List.append_assoc, List.nodup_append]
    refine ⟨h.nodup, by simp, fun a ha b hb => ?_⟩
    obtain rfl : b = (j : Int) := by simpa using hb
    exact fun e => hn (e ▸ ha)
  · rw [← List.append_assoc, List.mem_append] at hi
    rcases hi with hi | hi
    · exact h.rch i hi
    · obtain rfl : i = (j : Int) := by simpa using hi
      exact hr
  · rw [← List.append_assoc, List.mem_append]
    have hl := h.len
    by_cases e9 : k = j
    · subst e9
      simp [show k < seen.length by omega]
    · have := h.sn k hk
      have e8 : (seen.set j true).getD k false = seen.getD k false := by simp [List.getD_eq_getElem?_getD, Ne.symm e9]
      rw [e8, this]
      constructor
      · exact .inl
      · rintro (h9 | h9)
        · exact h9
        · exact absurd (Int.ofNat.inj (by simpa using h9)) e9
theorem mem_pop {x i : Int} : i ∈ (pre ++ [x]) ++ st ↔ i ∈ pre ++ (st ++ [x]) := by
  simp only [List.mem_append, List.mem_singleton]
  constructor
  · rintro ((h | h) | h)
    · exact .inl h
    · exact .inr (.inr h)
    · exact .inr (.inl h)
  · rintro (h | h | h)
    · exact .inl (.inl h)
    · exact .inr h
    · exact .inl (.inr h)
theorem Dfs.pop {x : Int} (h : Dfs E S L pre (st ++ [x]) seen) : Dfs E S L (pre ++ [x]) st seen := by
  refine ⟨?_, fun i hi => h.rch i (mem_pop.1 hi), fun j hj => (h.sn j hj).trans mem_pop.symm, h.len⟩
  have hp : ((pre ++ [x]) ++ st).Perm (pre ++ (st ++ [x])) := by
    rw [List.append_assoc]
    exact List.Perm.append_left _ List.perm_append_comm
  exact (hp.nodup_iff).2 h.nodup
theorem Dfs.fresh {x : Int} (h : Dfs E S L pre (st ++ [x]) seen) : x ∉ pre := fun h9 => by
  have := h.nodup
  rw [List.nodup_append] at this
  exact this.2.2 x h9 x (by simp) rfl
theorem pigeon : ∀ (S : Nat) (l : List Int), l.Nodup → (∀ x ∈ l, 0 ≤ x ∧ x < (S : Int)) → l.length ≤ S
  | 0, l, _, h => by
    cases l with
    | nil => simp
    | cons a l => have := h a (by simp); omega
  | S + 1, l, hn, h => by
    have h1 := pigeon S (l.erase (S : Int)) (hn.erase _) (fun x hx => by
      rw [hn.mem_erase_iff] at hx
      have := h x hx.2
      have := hx.1
      omega)
    rw [List.length_erase] at h1
    split at h1 <;> omega
theorem dfs_few (hE : OkE E S) (h : Dfs E S L pre st seen) : st.length ≤ S := by
  have := pigeon S _ h.nodup (fun x hx => (h.rch x hx).range hE)
  rw [List.length_append] at this
  omega
/-- all edges that leave what has come are followed -/
def Fol (E : List Ed) (pre all : List Int) : Prop := ∀ e ∈ E, e.free = true → e.src ∈ pre → e.dst ∈ all
def Roots (S : Nat) (L all : List Int) : Prop := ∀ i ∈ L, 0 ≤ i → i < (S : Int) → i ∈ all
theorem rch_all (hr : Roots S L pre) (hf : Fol E pre pre) {i : Int} (h : Rch E S L i) : i ∈ pre := by
  induction h with
  | root h1 h2 h3 => exact hr _ h1 h2 h3
  | step he hfr _ ih => exact hf _ he hfr ih
/-- the sum of what is still to be done falls -/
def falses (l : List Bool) : Nat := l.countP (fun b => !b)
theorem falses_set {l : List Bool} {j : Nat} (hj : j < l.length) (h : l.getD j false = false) : falses (l.set j true) + 1 = falses l := by
  unfold falses
  rw [List.countP_set hj]
  have e : l[j] = false := by simpa [hj] using h
  have : 0 < l.countP (fun b => !b) := List.countP_pos_iff.2 ⟨l[j], List.getElem_mem hj, by simp [e]⟩
  simp [e]
  omega
end
end Go.Proofs.Ytpeoomdfopjlmaa
