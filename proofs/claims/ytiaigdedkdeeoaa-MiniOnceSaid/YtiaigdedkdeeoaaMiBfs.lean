/- Automata: the order in which states are met, byte by byte; it hangs only on what is taken. Plain. -/
import Derived.Test.YtiaigdedkdeeoaaMiAut
namespace Go.Proofs.Ytiaigdedkdeeoaa
/-- a state of each part, the row at hand, and the rows that are whole -/
structure Bf where
  met : List Nat
  row : List Int
  wide : List (List Int)
open Classical in
noncomputable def idxL (A : Aut) (met : List Nat) (j : Nat) : Nat := met.findIdx (fun m => decide (LE A A j m))
open Classical in
noncomputable def bstep (A : Aut) (s : Bf) : Bf :=
  if s.wide.length < s.met.length then
    if s.row.length < 256 then
      if Dead A (s.met.getD s.wide.length 0) s.row.length then ⟨s.met, s.row ++ [-1], s.wide⟩
      else ⟨if idxL A s.met (A.nx (s.met.getD s.wide.length 0) s.row.length).toNat < s.met.length then s.met else s.met ++ [(A.nx (s.met.getD s.wide.length 0) s.row.length).toNat], s.row ++ [((idxL A s.met (A.nx (s.met.getD s.wide.length 0) s.row.length).toNat : Nat) : Int)], s.wide⟩
    else ⟨s.met, [], s.wide ++ [s.row]⟩
  else s
noncomputable def biter (A : Aut) : Nat → Bf
  | 0 => ⟨[0], [], []⟩
  | k + 1 => bstep A (biter A k)
def BReach (A : Aut) (s : Bf) : Prop := ∃ k, biter A k = s
structure BEnd (A : Aut) (s : Bf) : Prop where
  reach : BReach A s
  fin : s.met.length ≤ s.wide.length
section
variable {A B : Aut}
theorem BReach.start : BReach A ⟨[0], [], []⟩ := ⟨0, rfl⟩
theorem BReach.step {s : Bf} (h : BReach A s) : BReach A (bstep A s) := by
  obtain ⟨k, rfl⟩ := h
  exact ⟨k + 1, rfl⟩
theorem BReach.dead {met : List Nat} {row : List Int} {wide : List (List Int)} (h : BReach A ⟨met, row, wide⟩) (h1 : wide.length < met.length) (h2 : row.length < 256) (hd : Dead A (met.getD wide.length 0) row.length) : BReach A ⟨met, row ++ [-1], wide⟩ := by
  have h3 := h.step
  unfold bstep at h3
  rw [if_pos h1, if_pos h2, if_pos hd] at h3
  exact h3
theorem BReach.old {met : List Nat} {row : List Int} {wide : List (List Int)} (h : BReach A ⟨met, row, wide⟩) (h1 : wide.length < met.length) (h2 : row.length < 256) (hd : ¬ Dead A (met.getD wide.length 0) row.length) {j k : Nat} (hj : (A.nx (met.getD wide.length 0) row.length).toNat = j) (hk : idxL A met j = k) (hkl : k < met.length) : BReach A ⟨met, row ++ [(k : Int)], wide⟩ := by
  have h3 := h.step
  unfold bstep at h3
  rw [if_pos h1, if_pos h2, if_neg hd, hj, hk, if_pos hkl] at h3
  exact h3
theorem BReach.new {met : List Nat} {row : List Int} {wide : List (List Int)} (h : BReach A ⟨met, row, wide⟩) (h1 : wide.length < met.length) (h2 : row.length < 256) (hd : ¬ Dead A (met.getD wide.length 0) row.length) {j : Nat} (hj : (A.nx (met.getD wide.length 0) row.length).toNat = j) (hk : idxL A met j = met.length) : BReach A ⟨met ++ [j], row ++ [(met.length : Int)], wide⟩ := by
  have h3 := h.step
  unfold bstep at h3
  rw [if_pos h1, if_pos h2, if_neg hd, hj, hk, if_neg (Nat.lt_irrefl _)] at h3
  exact h3
theorem BReach.row {met : List Nat} {row : List Int} {wide : List (List Int)} (h : BReach A ⟨met, row, wide⟩) (h1 : wide.length < met.length) (h2 : row.length = 256) : BReach A ⟨met, [], wide ++ [row]⟩ := by
  have h3 := h.step
  unfold bstep at h3
  rw [if_pos h1, if_neg (by rw [h2]; omega)] at h3
  exact h3
/-- there is one end -/
theorem BEnd.eq {s t : Bf} (h : BEnd A s) (k : BEnd A t) : s = t := by
  have stay : ∀ {s : Bf}, s.met.length ≤ s.wide.length → bstep A s = s := fun {s} h => by unfold bstep; rw [if_neg (by omega)]
  have far : ∀ (m d : Nat), (biter A m).met.length ≤ (biter A m).wide.length → biter A (m + d) = biter A m := fun m d hm => by
    induction d with
    | zero => rfl
    | succ d ih =>
      show bstep A (biter A (m + d)) = _
      rw [ih, stay hm]
  obtain ⟨⟨a, rfl⟩, h2⟩ := h
  obtain ⟨⟨b, rfl⟩, k2⟩ := k
  rcases Nat.le_total a b with hab | hab
  · obtain ⟨d, rfl⟩ := Nat.exists_eq_add_of_le hab
    exact (far a d h2).symm
  · obtain ⟨d, rfl⟩ := Nat.exists_eq_add_of_le hab
    exact far b d k2
/-- what a row's number says -/
def CellB (A : Aut) (met : List Nat) (i b : Nat) (x : Int) : Prop := (Dead A i b ∧ x = -1) ∨ (¬ Dead A i b ∧ ∃ k : Nat, x = (k : Int) ∧ k < met.length ∧ LE A A (A.nx i b).toNat (met.getD k 0))
structure BInv (A : Aut) (s : Bf) : Prop where
  first : s.met.getD 0 0 = 0
  pos : 0 < s.met.length
  lt : ∀ k, k < s.met.length → s.met.getD k 0 < A.n
  live : ∀ k, k < s.met.length → Live A (s.met.getD k 0)
  apart : ∀ k j, k < s.met.length → j < s.met.length → LE A A (s.met.getD k 0) (s.met.getD j 0) → k = j
  wl : s.wide.length ≤ s.met.length
  rl : s.row.length ≤ 256
  re : s.wide.length = s.met.length → s.row = []
  rows : ∀ k, k < s.wide.length → (s.wide.getD k []).length = 256 ∧ ∀ b, b < 256 → CellB A s.met (s.met.getD k 0) b ((s.wide.getD k []).getD b 0)
  row : s.wide.length < s.met.length → ∀ b, b < s.row.length → CellB A s.met (s.met.getD s.wide.length 0) b (s.row.getD b 0)
theorem getD_app1 {α : Type} {l : List α} {x d : α} {k : Nat} (h : k < l.length) : (l ++ [x]).getD k d = l.getD k d := by
  rw [List.getD_eq_getElem?_getD, List.getElem?_append_left h, ← List.getD_eq_getElem?_getD]
theorem getD_app2 {α : Type} {l : List α} {x d : α} : (l ++ [x]).getD l.length d = x := by simp
open Classical in
theorem idxL_le (met : List Nat) (j : Nat) : idxL A met j ≤ met.length := List.findIdx_le_length
open Classical in
theorem idxL_lt {met : List Nat} {j : Nat} (h : idxL A met j < met.length) : LE A A j (met.getD (idxL A met j) 0) := by
  have h1 := List.findIdx_getElem (xs := met) (p := fun m => decide (LE A A j m)) (w := h)
  rw [List.getD_eq_getElem?_getD, List.getElem?_eq_getElem h]
  unfold idxL
  simpa using h1
open Classical in
theorem idxL_none {met : List Nat} {j : Nat} (h : idxL A met j = met.length) {k : Nat} (hk : k < met.length) : ¬ LE A A j (met.getD k 0) := fun h9 => by
  have h1 := List.not_of_lt_findIdx (xs := met) (p := fun m => decide (LE A A j m)) (i := k) (by unfold idxL at h; rw [h]; exact hk)
  rw [List.getD_eq_getElem?_getD, List.getElem?_eq_getElem hk] at h9
  simp at h1
  exact h1 h9
open Classical in
/-- the first that takes the same is the only one -/
theorem idxL_of {met : List Nat} {j k : Nat} (hk : k < met.length) (hl : LE A A j (met.getD k 0)) (hu : ∀ i, i < met.length → LE A A j (met.getD i 0) → i = k) : idxL A met j = k := by
  have h1 : idxL A met j < met.length := by
    apply Classical.byContradiction
    intro h9
    have h2 := idxL_le (A := A) met j
    exact idxL_none (A := A) (by omega) hk hl
  exact hu _ h1 (idxL_lt h1)
open Classical in
theorem idxL_of_none {met : List Nat} {j : Nat} (h : ∀ i, i < met.length → ¬ LE A A j (met.getD i 0)) : idxL A met j = met.length := by
  have h2 := idxL_le (A := A) met j
  apply Classical.byContradiction
  intro h9
  exact h _ (by omega) (idxL_lt (by omega))
theorem CellB.app {met : List Nat} {i b x : _} (h : CellB A met i b x) (j : Nat) : CellB A (met ++ [j]) i b x := by
  rcases h with h | ⟨h1, k, h2, h3, h4⟩
  · exact .inl h
  · exact .inr ⟨h1, k, h2, by rw [List.length_append]; omega, by rw [getD_app1 h3]; exact h4⟩
theorem binv (hok : A.Ok) (h0 : Live A 0) : ∀ k, BInv A (biter A k)
  | 0 => by
    refine ⟨rfl, Nat.zero_lt_one, fun k hk => ?_, fun k hk => ?_, fun k j hk hj _ => ?_, Nat.zero_le _, Nat.zero_le _, fun h => (by cases h), fun k hk => (by cases hk), fun _ b hb => (by cases hb)⟩
    · obtain rfl : k = 0 := by simp [biter] at hk; omega
      exact hok.pos
    · obtain rfl : k = 0 := by simp [biter] at hk; omega
      exact h0
    · simp [biter] at hk hj; omega
  | k + 1 => by
    have ih := binv hok h0 k
    show BInv A (bstep A (biter A k))
    obtain ⟨s, hs⟩ : ∃ s, s = biter A k := ⟨_, rfl⟩
    rw [← hs] at ih ⊢
    clear hs
    unfold bstep
    by_cases h1 : s.wide.length < s.met.length
    · rw [if_pos h1]
      by_cases h2 : s.row.length < 256
      · rw [if_pos h2]
        obtain ⟨i, hi⟩ : ∃ i, i = s.met.getD s.wide.length 0 := ⟨_, rfl⟩
        have hin := ih.lt _ h1
        rw [← hi] at hin ⊢
        by_cases hd : Dead A i s.row.length
        · rw [if_pos hd]
          refine ⟨ih.first, ih.pos, ih.lt, ih.live, ih.apart, ih.wl, by simp; omega, fun h => absurd h (by show ¬ s.wide.length = s.met.length; omega), ih.rows, fun _ b hb => ?_⟩
          show CellB A s.met (s.met.getD s.wide.length 0) b ((s.row ++ [-1]).getD b 0)
          rw [← hi]
          simp only [List.length_append, List.length_singleton] at hb
          by_cases e : b < s.row.length
          · rw [getD_app1 e]
            have := ih.row h1 b e
            rw [← hi] at this
            exact this
          · obtain rfl : b = s.row.length := by omega
            rw [getD_app2]
            exact .inl ⟨hd, rfl⟩
        · rw [if_neg hd]
          have hnd := not_dead hd
          obtain ⟨j, hj⟩ : ∃ j, j = (A.nx i s.row.length).toNat := ⟨_, rfl⟩
          have hjn : j < A.n := by have := hok.hi i s.row.length hin h2; omega
          rw [← hj] at hnd ⊢
          by_cases hx : idxL A s.met j < s.met.length
          · rw [if_pos hx]
            refine ⟨ih.first, ih.pos, ih.lt, ih.live, ih.apart, ih.wl, by simp; omega, fun h => absurd h (by show ¬ s.wide.length = s.met.length; omega), ih.rows, fun _ b hb => ?_⟩
            show CellB A s.met (s.met.getD s.wide.length 0) b ((s.row ++ [((idxL A s.met j : Nat) : Int)]).getD b 0)
            rw [← hi]
            simp only [List.length_append, List.length_singleton] at hb
            by_cases e : b < s.row.length
            · rw [getD_app1 e]
              have := ih.row h1 b e
              rw [← hi] at this
              exact this
            · obtain rfl : b = s.row.length := by omega
              rw [getD_app2]
              exact .inr ⟨hd, _, rfl, hx, by rw [← hj]; exact idxL_lt hx⟩
          · rw [if_neg hx]
            have hxe : idxL A s.met j = s.met.length := by have := idxL_le (A := A) s.met j; omega
            have hl : (s.met ++ [j]).length = s.met.length + 1 := by simp
            refine ⟨by rw [getD_app1 ih.pos]; exact ih.first, by rw [hl]; omega, fun k hk => ?_, fun k hk => ?_, fun k q hk hq he => ?_, by show s.wide.length ≤ (s.met ++ [j]).length; rw [hl]; omega, by simp; omega, fun h => absurd h (by show ¬ s.wide.length = (s.met ++ [j]).length; rw [hl]; omega), fun k hk => ⟨(ih.rows k hk).1, fun b hb => ?_⟩, fun _ b hb => ?_⟩
            · have hk : k < (s.met ++ [j]).length := hk
              rw [hl] at hk
              show (s.met ++ [j]).getD k 0 < A.n
              by_cases e : k < s.met.length
              · rw [getD_app1 e]; exact ih.lt k e
              · obtain rfl : k = s.met.length := by omega
                rw [getD_app2]; exact hjn
            · have hk : k < (s.met ++ [j]).length := hk
              rw [hl] at hk
              show Live A ((s.met ++ [j]).getD k 0)
              by_cases e : k < s.met.length
              · rw [getD_app1 e]; exact ih.live k e
              · obtain rfl : k = s.met.length := by omega
                rw [getD_app2]; exact hnd.2
            · have hk : k < (s.met ++ [j]).length := hk
              have hq : q < (s.met ++ [j]).length := hq
              rw [hl] at hk hq
              have he : LE A A ((s.met ++ [j]).getD k 0) ((s.met ++ [j]).getD q 0) := he
              by_cases e : k < s.met.length
              · rw [getD_app1 e] at he
                by_cases e2 : q < s.met.length
                · rw [getD_app1 e2] at he
                  exact ih.apart k q e e2 he
                · obtain rfl : q = s.met.length := by omega
                  rw [getD_app2] at he
                  exact (idxL_none hxe e he.symm).elim
              · obtain rfl : k = s.met.length := by omega
                rw [getD_app2] at he
                by_cases e2 : q < s.met.length
                · rw [getD_app1 e2] at he
                  exact (idxL_none hxe e2 he).elim
                · omega
            · show CellB A (s.met ++ [j]) ((s.met ++ [j]).getD k 0) b ((s.wide.getD k []).getD b 0)
              have hk : k < s.wide.length := hk
              rw [getD_app1 (by omega)]
              exact ((ih.rows k hk).2 b hb).app j
            · show CellB A (s.met ++ [j]) ((s.met ++ [j]).getD s.wide.length 0) b ((s.row ++ [((idxL A s.met j : Nat) : Int)]).getD b 0)
              rw [getD_app1 h1, ← hi]
              simp only [List.length_append, List.length_singleton] at hb
              by_cases e : b < s.row.length
              · rw [getD_app1 e]
                have := ih.row h1 b e
                rw [← hi] at this
                exact this.app j
              · obtain rfl : b = s.row.length := by omega
                rw [getD_app2, hxe]
                exact .inr ⟨hd, _, rfl, by rw [hl]; omega, by rw [getD_app2, ← hj]; exact LE.refl A j⟩
      · rw [if_neg h2]
        have h256 : s.row.length = 256 := by have := ih.rl; omega
        refine ⟨ih.first, ih.pos, ih.lt, ih.live, ih.apart, by simp; omega, by simp, fun _ => rfl, fun k hk => ?_, fun _ b hb => by cases hb⟩
        have hk : k < (s.wide ++ [s.row]).length := hk
        simp only [List.length_append, List.length_singleton] at hk
        show ((s.wide ++ [s.row]).getD k []).length = 256 ∧ ∀ b, b < 256 → CellB A s.met (s.met.getD k 0) b (((s.wide ++ [s.row]).getD k []).getD b 0)
        by_cases e : k < s.wide.length
        · rw [getD_app1 e]; exact ih.rows k e
        · obtain rfl : k = s.wide.length := by omega
          rw [getD_app2]
          exact ⟨h256, fun b hb => ih.row h1 b (by omega)⟩
    · rw [if_neg h1]; exact ih
theorem BReach.inv {s : Bf} (h : BReach A s) (hok : A.Ok) (h0 : Live A 0) : BInv A s := by
  obtain ⟨k, rfl⟩ := h
  exact binv hok h0 k
/-- two automata whose first states take the same meet states alike -/
structure Twin (A B : Aut) (s t : Bf) : Prop where
  len : s.met.length = t.met.length
  le : ∀ k, k < s.met.length → LE A B (s.met.getD k 0) (t.met.getD k 0)
  row : s.row = t.row
  wide : s.wide = t.wide
theorem twins (hA : A.Ok) (hB : B.Ok) (h0 : Live A 0) (hl : LE A B 0 0) : ∀ k, Twin A B (biter A k) (biter B k)
  | 0 => ⟨rfl, fun k hk => by
      obtain rfl : k = 0 := by simp [biter] at hk; omega
      exact hl, rfl, rfl⟩
  | k + 1 => by
    have ih := twins hA hB h0 hl k
    have ia := binv hA h0 k
    show Twin A B (bstep A (biter A k)) (bstep B (biter B k))
    obtain ⟨s, hs⟩ : ∃ s, s = biter A k := ⟨_, rfl⟩
    obtain ⟨t, ht⟩ : ∃ t, t = biter B k := ⟨_, rfl⟩
    rw [← hs] at ih ia ⊢
    rw [← ht] at ih ⊢
    clear hs ht
    obtain ⟨hlen, hle, hrow, hwide⟩ := ih
    unfold bstep
    rw [← hwide, ← hrow, ← hlen]
    by_cases h1 : s.wide.length < s.met.length
    · rw [if_pos h1, if_pos h1]
      by_cases h2 : s.row.length < 256
      · rw [if_pos h2, if_pos h2]
        have hl1 := hle _ h1
        obtain ⟨i, hi⟩ : ∃ i, i = s.met.getD s.wide.length 0 := ⟨_, rfl⟩
        obtain ⟨i', hi'⟩ : ∃ i', i' = t.met.getD s.wide.length 0 := ⟨_, rfl⟩
        rw [← hi, ← hi'] at hl1
        rw [← hi, ← hi']
        have hdd := hl1.dead h2
        by_cases hd : Dead A i s.row.length
        · rw [if_pos hd, if_pos (hdd.1 hd)]
          exact ⟨hlen, hle, rfl, rfl⟩
        · rw [if_neg hd, if_neg (fun h9 => hd (hdd.2 h9))]
          have hst := hl1.step h2 hd
          obtain ⟨j, hj⟩ : ∃ j, j = (A.nx i s.row.length).toNat := ⟨_, rfl⟩
          obtain ⟨j', hj'⟩ : ∃ j', j' = (B.nx i' s.row.length).toNat := ⟨_, rfl⟩
          rw [← hj, ← hj'] at hst
          rw [← hj, ← hj']
          have hix : idxL B t.met j' = idxL A s.met j := by
            by_cases hx : idxL A s.met j < s.met.length
            · have h3 := idxL_lt hx
              have h4 : LE B B j' (t.met.getD (idxL A s.met j) 0) := (hst.symm.trans h3).trans (hle _ hx)
              refine idxL_of (by omega) h4 (fun q hq hqe => ?_)
              refine ia.apart _ _ (by omega) hx ?_
              exact ((hle q (by omega)).trans hqe.symm).trans (hst.symm.trans h3)
            · have hxe : idxL A s.met j = s.met.length := by have := idxL_le (A := A) s.met j; omega
              rw [hxe, hlen]
              refine idxL_of_none (fun q hq hqe => ?_)
              exact idxL_none hxe (k := q) (by omega) ((hst.trans hqe).trans (hle q (by omega)).symm)
          rw [hix]
          by_cases hx : idxL A s.met j < s.met.length
          · rw [if_pos hx, if_pos hx]
            exact ⟨hlen, hle, rfl, rfl⟩
          · rw [if_neg hx, if_neg hx]
            refine ⟨by simp [hlen], fun q hq => ?_, rfl, rfl⟩
            have hq : q < (s.met ++ [j]).length := hq
            simp only [List.length_append, List.length_singleton] at hq
            show LE A B ((s.met ++ [j]).getD q 0) ((t.met ++ [j']).getD q 0)
            by_cases e : q < s.met.length
            · rw [getD_app1 e, getD_app1 (by omega)]; exact hle q e
            · obtain rfl : q = s.met.length := by omega
              rw [getD_app2, hlen, getD_app2]
              exact hst
      · rw [if_neg h2, if_neg h2]
        exact ⟨hlen, hle, rfl, rfl⟩
    · rw [if_neg h1, if_neg h1]
      exact ⟨hlen, hle, hrow, hwide⟩
theorem BEnd.twin {s t : Bf} (h : BEnd A s) (k : BEnd B t) (hA : A.Ok) (hB : B.Ok) (h0 : Live A 0) (hl : LE A B 0 0) : Twin A B s t := by
  obtain ⟨⟨a, rfl⟩, h2⟩ := h
  have tw := twins hA hB h0 hl a
  have k2 : BEnd B (biter B a) := ⟨⟨a, rfl⟩, by rw [← tw.len, ← tw.wide]; exact h2⟩
  rw [k.eq k2]
  exact tw
end
/-! Classes of bytes. -/
def colOf (wide : List (List Int)) (b : Nat) : List Int := wide.map (fun r => r.getD b 0)
/-- each byte's class, and the first byte of each class -/
def narrowK (wide : List (List Int)) : Nat → List Nat × List Nat
  | 0 => ([], [])
  | k + 1 => ((narrowK wide k).1 ++ [(narrowK wide k).2.findIdx (fun l => colOf wide l == colOf wide k)], if (narrowK wide k).2.findIdx (fun l => colOf wide l == colOf wide k) < (narrowK wide k).2.length then (narrowK wide k).2 else (narrowK wide k).2 ++ [k])
theorem narrowK_len (wide : List (List Int)) : ∀ k, (narrowK wide k).1.length = k ∧ (narrowK wide k).2.length ≤ k
  | 0 => ⟨rfl, Nat.le_refl _⟩
  | k + 1 => by
    have h := narrowK_len wide k
    unfold narrowK
    refine ⟨by simp [h.1], ?_⟩
    split
    · show (narrowK wide k).2.length ≤ k + 1; omega
    · simp; omega
end Go.Proofs.Ytiaigdedkdeeoaa
