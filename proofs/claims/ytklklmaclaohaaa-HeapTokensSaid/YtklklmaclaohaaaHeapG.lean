/- A heap in a list, by a number that each element has: laws of its steps. Plain lists. -/
import Derived.Lib.Hide
namespace Go.Proofs.Ytklklmaclaohaaa

section
variable {α : Type} (key : α → Int) (d : α)
def kAt (xs : List α) (k : Nat) : Int := key (xs.getD k d)
def HeapG (xs : List α) : Prop := ∀ k, 0 < k → k < xs.length → kAt key d xs ((k - 1) / 2) ≤ kAt key d xs k
structure UpG (xs : List α) (i : Nat) : Prop where
  lt : i < xs.length
  rest : ∀ k, 0 < k → k < xs.length → k ≠ i → kAt key d xs ((k - 1) / 2) ≤ kAt key d xs k
  over : ∀ k, 0 < k → k < xs.length → (k - 1) / 2 = i → 0 < i → kAt key d xs ((i - 1) / 2) ≤ kAt key d xs k
structure DownG (xs : List α) (i : Nat) : Prop where
  rest : ∀ k, 0 < k → k < xs.length → (k - 1) / 2 ≠ i → kAt key d xs ((k - 1) / 2) ≤ kAt key d xs k
  over : ∀ k, 0 < k → k < xs.length → (k - 1) / 2 = i → 0 < i → kAt key d xs ((i - 1) / 2) ≤ kAt key d xs k
def swapG (xs : List α) (a b : Nat) : List α := (xs.set a (xs.getD b d)).set b (xs.getD a d)
def least1G (xs : List α) (m l : Nat) (k : Nat) : Nat := if k < m ∧ kAt key d xs k < kAt key d xs l then k else l
def leastG (xs : List α) (i : Nat) : Nat := least1G key d xs xs.length (least1G key d xs xs.length i (2 * i + 1)) (2 * i + 2)
end
section
variable {α : Type} {key : α → Int} {d : α}
theorem length_swapG (xs : List α) (a b : Nat) : (swapG d xs a b).length = xs.length := by simp [swapG]
theorem getD_setG (xs : List α) (a k : Nat) (v : α) (ha : a < xs.length) : (xs.set a v).getD k d = if k = a then v else xs.getD k d := by
  simp only [List.getD_eq_getElem?_getD, List.getElem?_set, ha, if_true]
  by_cases h : a = k
  · simp [h]
  · simp [h, show ¬ k = a from fun e => h e.symm]
theorem getD_swapG (xs : List α) (a b k : Nat) (ha : a < xs.length) (hb : b < xs.length) : (swapG d xs a b).getD k d = if k = b then xs.getD a d else if k = a then xs.getD b d else xs.getD k d := by
  rw [swapG, getD_setG _ _ _ _ (by simpa using hb), getD_setG _ _ _ _ ha]
theorem kAt_swap (xs : List α) (a b k : Nat) (ha : a < xs.length) (hb : b < xs.length) : kAt key d (swapG d xs a b) k = if k = b then kAt key d xs a else if k = a then kAt key d xs b else kAt key d xs k := by
  unfold kAt
  rw [getD_swapG xs a b k ha hb]
  split
  · rfl
  · split <;> rfl
theorem swapG_perm (xs : List α) (a b : Nat) (ha : a < xs.length) (hb : b < xs.length) : (swapG d xs a b).Perm xs := by
  have h := List.set_set_perm (as := xs) (i := a) (j := b) ha hb
  simpa [swapG, ha, hb] using h
theorem kAt_app (xs : List α) (x : α) (k : Nat) (h : k < xs.length) : kAt key d (xs ++ [x]) k = kAt key d xs k := by
  simp [kAt, List.getD_eq_getElem?_getD, List.getElem?_append_left h]
theorem UpG.new {xs : List α} (h : HeapG key d xs) (x : α) : UpG key d (xs ++ [x]) xs.length where
  lt := by simp
  rest k hk hl hne := by
    simp at hl
    rw [kAt_app xs x k (by omega), kAt_app xs x _ (by omega)]
    exact h k hk (by omega)
  over k hk hl he := by
    simp at hl
    omega
theorem UpG.swap {xs : List α} {i : Nat} (h : UpG key d xs i) (hi : 0 < i) (hgt : ¬ kAt key d xs ((i - 1) / 2) ≤ kAt key d xs i) : UpG key d (swapG d xs ((i - 1) / 2) i) ((i - 1) / 2) where
  lt := by rw [length_swapG]; have := h.lt; omega
  rest k hk hl hne := by
    have hlt := h.lt
    rw [length_swapG] at hl
    rw [kAt_swap _ _ _ _ (by omega) hlt, kAt_swap _ _ _ _ (by omega) hlt]
    by_cases h1 : k = i
    · subst h1
      have : ¬ (k - 1) / 2 = k := by omega
      simp only [this, if_true, if_false]
      omega
    · have h2 := h.rest k hk hl h1
      simp only [h1, hne, if_false]
      by_cases h3 : (k - 1) / 2 = i
      · simp only [h3, if_true]
        have := h.over k hk hl h3 hi
        omega
      · simp only [h3, if_false]
        by_cases h4 : (k - 1) / 2 = (i - 1) / 2
        · simp only [h4, if_true]
          rw [h4] at h2
          omega
        · simp only [h4, if_false]
          exact h2
  over k hk hl he hp := by
    have hlt := h.lt
    rw [length_swapG] at hl
    rw [kAt_swap _ _ _ _ (by omega) hlt, kAt_swap _ _ _ _ (by omega) hlt]
    have a1 : ¬ ((i - 1) / 2 - 1) / 2 = i := by omega
    have a2 : ¬ ((i - 1) / 2 - 1) / 2 = (i - 1) / 2 := by omega
    have h5 := h.rest ((i - 1) / 2) hp (by omega) (by omega)
    simp only [a1, a2, if_false]
    by_cases h1 : k = i
    · simp only [h1, if_true]
      exact h5
    · have h2 : ¬ k = (i - 1) / 2 := by omega
      simp only [h1, h2, if_false]
      have h3 := h.rest k hk hl h1
      rw [he] at h3
      omega
theorem UpG.stop {xs : List α} {i : Nat} (h : UpG key d xs i) (hi : i = 0 ∨ kAt key d xs ((i - 1) / 2) ≤ kAt key d xs i) : HeapG key d xs := fun k hk hl => by
  by_cases h1 : k = i
  · subst h1
    rcases hi with h2 | h2
    · omega
    · exact h2
  · exact h.rest k hk hl h1
theorem DownG.new {xs : List α} (h : HeapG key d xs) : DownG key d (((xs.set 0 (xs.getD (xs.length - 1) d)).take (xs.length - 1))) 0 where
  rest k hk hl hne := by
    simp at hl
    have h1 := h k hk (by omega)
    have e : ∀ j, 0 < j → j < xs.length - 1 → kAt key d ((xs.set 0 (xs.getD (xs.length - 1) d)).take (xs.length - 1)) j = kAt key d xs j := fun j h0 h1 => by
      simp only [kAt, List.getD_eq_getElem?_getD, List.getElem?_take, h1, if_true, List.getElem?_set, show ¬ 0 = j by omega, if_false]
    rw [e k hk (by omega), e ((k - 1) / 2) (by omega) (by omega)]
    exact h1
  over k hk hl he h0 := by omega
theorem takeG_perm {xs : List α} (h : 0 < xs.length) : xs.Perm (xs.getD 0 d :: (xs.set 0 (xs.getD (xs.length - 1) d)).take (xs.length - 1)) := by
  cases xs with
  | nil => simp at h
  | cons a t =>
    rcases List.eq_nil_or_concat t with rfl | ⟨t', z, rfl⟩
    · simp
    · simp
theorem leastG_spec (xs : List α) (i : Nat) : (leastG key d xs i = i ∨ (leastG key d xs i = 2 * i + 1 ∨ leastG key d xs i = 2 * i + 2) ∧ leastG key d xs i < xs.length ∧ kAt key d xs (leastG key d xs i) < kAt key d xs i) ∧
    kAt key d xs (leastG key d xs i) ≤ kAt key d xs i ∧
    (2 * i + 1 < xs.length → kAt key d xs (leastG key d xs i) ≤ kAt key d xs (2 * i + 1)) ∧ (2 * i + 2 < xs.length → kAt key d xs (leastG key d xs i) ≤ kAt key d xs (2 * i + 2)) := by
  unfold leastG least1G
  by_cases h1 : 2 * i + 1 < xs.length ∧ kAt key d xs (2 * i + 1) < kAt key d xs i
  · rw [if_pos h1]
    by_cases h2 : 2 * i + 2 < xs.length ∧ kAt key d xs (2 * i + 2) < kAt key d xs (2 * i + 1)
    · rw [if_pos h2]; exact ⟨.inr ⟨.inr rfl, h2.1, by omega⟩, by omega, fun _ => by omega, fun _ => by omega⟩
    · rw [if_neg h2]; exact ⟨.inr ⟨.inl rfl, h1.1, by omega⟩, by omega, fun _ => by omega, fun _ => by omega⟩
  · rw [if_neg h1]
    by_cases h2 : 2 * i + 2 < xs.length ∧ kAt key d xs (2 * i + 2) < kAt key d xs i
    · rw [if_pos h2]; exact ⟨.inr ⟨.inr rfl, h2.1, by omega⟩, by omega, fun _ => by omega, fun _ => by omega⟩
    · rw [if_neg h2]; exact ⟨.inl rfl, by omega, fun _ => by omega, fun _ => by omega⟩
theorem DownG.swap {xs : List α} {i : Nat} (h : DownG key d xs i) (hi : i < xs.length) (hne : leastG key d xs i ≠ i) : DownG key d (swapG d xs i (leastG key d xs i)) (leastG key d xs i) := by
  obtain ⟨h1, h2, h3, h4⟩ := leastG_spec (key := key) (d := d) xs i
  generalize leastG key d xs i = l at *
  rcases h1 with h1 | ⟨h1, hl, hlt⟩
  · exact absurd h1 hne
  refine ⟨fun k hk hkl hp => ?_, fun k hk hkl hp h0 => ?_⟩
  · rw [length_swapG] at hkl
    rw [kAt_swap _ _ _ _ hi hl, kAt_swap _ _ _ _ hi hl]
    simp only [hp, if_false]
    by_cases a : k = l
    · have b : (k - 1) / 2 = i := by omega
      simp only [a, if_true]
      rw [← a, b, if_pos rfl, a]
      omega
    · simp only [a, if_false]
      by_cases b : (k - 1) / 2 = i
      · rw [if_pos b]
        have c : ¬ k = i := by omega
        rw [if_neg c]
        have : k = 2 * i + 1 ∨ k = 2 * i + 2 := by omega
        rcases this with rfl | rfl
        · exact h3 hkl
        · exact h4 hkl
      · rw [if_neg b]
        by_cases c : k = i
        · rw [if_pos c]
          have := h.over l (by omega) hl (by omega) (by omega)
          rw [c]
          exact this
        · rw [if_neg c]
          exact h.rest k hk hkl b
  · rw [length_swapG] at hkl
    rw [kAt_swap _ _ _ _ hi hl, kAt_swap _ _ _ _ hi hl]
    have a : (l - 1) / 2 = i := by omega
    have b : ¬ k = l := by omega
    have c : ¬ k = i := by omega
    have e : ¬ i = l := by omega
    rw [a, if_neg e, if_pos rfl, if_neg b, if_neg c]
    have := h.rest k hk hkl (by omega)
    rw [hp] at this
    exact this
theorem DownG.stop {xs : List α} {i : Nat} (h : DownG key d xs i) (he : leastG key d xs i = i) : HeapG key d xs := fun k hk hl => by
  obtain ⟨_, _, h3, h4⟩ := leastG_spec (key := key) (d := d) xs i
  rw [he] at h3 h4
  by_cases a : (k - 1) / 2 = i
  · rw [a]
    have : k = 2 * i + 1 ∨ k = 2 * i + 2 := by omega
    rcases this with rfl | rfl
    · exact h3 hl
    · exact h4 hl
  · exact h.rest k hk hl a
theorem leastG_le (xs : List α) (i : Nat) (hi : i < xs.length) : leastG key d xs i < xs.length ∧ i ≤ leastG key d xs i := by
  obtain ⟨h1, _⟩ := leastG_spec (key := key) (d := d) xs i
  omega
theorem HeapG.min {xs : List α} (h : HeapG key d xs) : ∀ k, k < xs.length → kAt key d xs 0 ≤ kAt key d xs k
  | 0, _ => Int.le_refl _
  | k + 1, hk => by
    have h1 := h.min (k / 2) (by omega)
    have h2 := h (k + 1) (by omega) hk
    rw [show (k + 1 - 1) / 2 = k / 2 by omega] at h2
    exact Int.le_trans h1 h2
  termination_by k => k
theorem HeapG.min_mem {xs : List α} (h : HeapG key d xs) (x : α) (hx : x ∈ xs) : kAt key d xs 0 ≤ key x := by
  obtain ⟨k, hk, rfl⟩ := List.getElem_of_mem hx
  have := h.min k hk
  simpa [kAt, hk] using this
theorem HeapG.nil : HeapG key d [] := fun k _ h => by simp at h
/-- the least after so many of the two children -/
def LG (key : α → Int) (d : α) (ys : List α) (k : Nat) : Nat → Nat
  | 0 => k
  | 1 => least1G key d ys ys.length k (2 * k + 1)
  | _ => leastG key d ys k
theorem LG_lt (ys : List α) (k j : Nat) (hk : k < ys.length) : LG key d ys k j < ys.length := by
  have h1 : least1G key d ys ys.length k (2 * k + 1) < ys.length := by unfold least1G; split <;> omega
  match j with
  | 0 => exact hk
  | 1 => exact h1
  | _ + 2 => exact (leastG_le ys k hk).1
end
end Go.Proofs.Ytklklmaclaohaaa
