/- A heap of numbers in a list: laws of its steps. Plain lists. -/
import Derived.Lib.Hide
namespace Go.Proofs.Ytodcengadecboaa

def Heap (xs : List Int) : Prop := ∀ k, 0 < k → k < xs.length → xs.getD ((k - 1) / 2) 0 ≤ xs.getD k 0
structure Up (xs : List Int) (i : Nat) : Prop where
  lt : i < xs.length
  rest : ∀ k, 0 < k → k < xs.length → k ≠ i → xs.getD ((k - 1) / 2) 0 ≤ xs.getD k 0
  over : ∀ k, 0 < k → k < xs.length → (k - 1) / 2 = i → 0 < i → xs.getD ((i - 1) / 2) 0 ≤ xs.getD k 0
structure Down (xs : List Int) (i : Nat) : Prop where
  rest : ∀ k, 0 < k → k < xs.length → (k - 1) / 2 ≠ i → xs.getD ((k - 1) / 2) 0 ≤ xs.getD k 0
  over : ∀ k, 0 < k → k < xs.length → (k - 1) / 2 = i → 0 < i → xs.getD ((i - 1) / 2) 0 ≤ xs.getD k 0

def swap (xs : List Int) (a b : Nat) : List Int := (xs.set a (xs.getD b 0)).set b (xs.getD a 0)
theorem length_swap (xs : List Int) (a b : Nat) : (swap xs a b).length = xs.length := by simp [swap]
theorem getD_set (xs : List Int) (a k : Nat) (v : Int) (ha : a < xs.length) : (xs.set a v).getD k 0 = if k = a then v else xs.getD k 0 := by
  simp only [List.getD_eq_getElem?_getD, List.getElem?_set, ha, if_true]
  by_cases h : a = k
  · simp [h]
  · simp [h, show ¬ k = a from fun e => h e.symm]
theorem getD_swap (xs : List Int) (a b k : Nat) (ha : a < xs.length) (hb : b < xs.length) : (swap xs a b).getD k 0 = if k = b then xs.getD a 0 else if k = a then xs.getD b 0 else xs.getD k 0 := by
  rw [swap, getD_set _ _ _ _ (by simpa using hb), getD_set _ _ _ _ ha]
theorem swap_perm (xs : List Int) (a b : Nat) (ha : a < xs.length) (hb : b < xs.length) : (swap xs a b).Perm xs := by
  have h := List.set_set_perm (as := xs) (i := a) (j := b) ha hb
  simpa [swap, ha, hb] using h

theorem Up.new {xs : List Int} (h : Heap xs) (x : Int) : Up (xs ++ [x]) xs.length where
  lt := by simp
  rest k hk hl hne := by
    simp at hl
    have h1 := h k hk (by omega)
    simpa [List.getD_eq_getElem?_getD, List.getElem?_append_left (by omega : k < xs.length), List.getElem?_append_left (by omega : (k - 1) / 2 < xs.length)] using h1
  over k hk hl he := by
    simp at hl
    omega
theorem Up.swap {xs : List Int} {i : Nat} (h : Up xs i) (hi : 0 < i) (hgt : ¬ xs.getD ((i - 1) / 2) 0 ≤ xs.getD i 0) : Up (swap xs ((i - 1) / 2) i) ((i - 1) / 2) where
  lt := by rw [length_swap]; have := h.lt; omega
  rest k hk hl hne := by
    have hlt := h.lt
    rw [length_swap] at hl
    rw [getD_swap _ _ _ _ (by omega) hlt, getD_swap _ _ _ _ (by omega) hlt]
    by_cases h1 : k = i
    · subst h1
      have : ¬ (k - 1) / 2 = k := by omega
      simp only [this, if_true, if_false]
      omega
    · have h2 := h.rest k hk hl h1
      simp only [h1, hne, if_false]
      by_cases h3 : (k - 1) / 2 = i
      · simp only [h3, if_true]
        have := h.over k hk hl h3 hi
        omega
      · simp only [h3, if_false]
        by_cases h4 : (k - 1) / 2 = (i - 1) / 2
        · simp only [h4, if_true]
          rw [h4] at h2
          omega
        · simp only [h4, if_false]
          exact h2
  over k hk hl he hp := by
    have hlt := h.lt
    rw [length_swap] at hl
    rw [getD_swap _ _ _ _ (by omega) hlt, getD_swap _ _ _ _ (by omega) hlt]
    have a1 : ¬ ((i - 1) / 2 - 1) / 2 = i := by omega
    have a2 : ¬ ((i - 1) / 2 - 1) / 2 = (i - 1) / 2 := by omega
    have h5 := h.rest ((i - 1) / 2) hp (by omega) (by omega)
    simp only [a1, a2, if_false]
    by_cases h1 : k = i
    · simp only [h1, if_true]
      exact h5
    · have h2 : ¬ k = (i - 1) / 2 := by omega
      simp only [h1, h2, if_false]
      have h3 := h.rest k hk hl h1
      rw [he] at h3
      omega
theorem Up.stop {xs : List Int} {i : Nat} (h : Up xs i) (hi : i = 0 ∨ xs.getD ((i - 1) / 2) 0 ≤ xs.getD i 0) : Heap xs := fun k hk hl => by
  by_cases h1 : k = i
  · subst h1
    rcases hi with h2 | h2
    · omega
    · exact h2
  · exact h.rest k hk hl h1

theorem Down.new {xs : List Int} (h : Heap xs) : Down (((xs.set 0 (xs.getD (xs.length - 1) 0)).take (xs.length - 1))) 0 where
  rest k hk hl hne := by
    simp at hl
    have h1 := h k hk (by omega)
    have e : ∀ j, 0 < j → j < xs.length - 1 → ((xs.set 0 (xs.getD (xs.length - 1) 0)).take (xs.length - 1)).getD j 0 = xs.getD j 0 := fun j h0 h1 => by
      simp only [List.getD_eq_getElem?_getD, List.getElem?_take, h1, if_true, List.getElem?_set, show ¬ 0 = j by omega, if_false]
    rw [e k hk (by omega), e ((k - 1) / 2) (by omega) (by omega)]
    exact h1
  over k hk hl he h0 := by omega
theorem take_perm {xs : List Int} (h : 0 < xs.length) : xs.Perm (xs.getD 0 0 :: (xs.set 0 (xs.getD (xs.length - 1) 0)).take (xs.length - 1)) := by
  cases xs with
  | nil => simp at h
  | cons a t =>
    rcases List.eq_nil_or_concat t with rfl | ⟨t', z, rfl⟩
    · simp
    · simp
/-- the least of i and its two children -/
def least1 (xs : List Int) (m l : Nat) (k : Nat) : Nat := if k < m ∧ xs.getD k 0 < xs.getD l 0 then k else l
def least (xs : List Int) (i : Nat) : Nat := least1 xs xs.length (least1 xs xs.length i (2 * i + 1)) (2 * i + 2)
theorem least_spec (xs : List Int) (i : Nat) : (least xs i = i ∨ (least xs i = 2 * i + 1 ∨ least xs i = 2 * i + 2) ∧ least xs i < xs.length ∧ xs.getD (least xs i) 0 < xs.getD i 0) ∧
    xs.getD (least xs i) 0 ≤ xs.getD i 0 ∧
    (2 * i + 1 < xs.length → xs.getD (least xs i) 0 ≤ xs.getD (2 * i + 1) 0) ∧ (2 * i + 2 < xs.length → xs.getD (least xs i) 0 ≤ xs.getD (2 * i + 2) 0) := by
  unfold least least1
  by_cases h1 : 2 * i + 1 < xs.length ∧ xs.getD (2 * i + 1) 0 < xs.getD i 0
  · rw [if_pos h1]
    by_cases h2 : 2 * i + 2 < xs.length ∧ xs.getD (2 * i + 2) 0 < xs.getD (2 * i + 1) 0
    · rw [if_pos h2]; exact ⟨.inr ⟨.inr rfl, h2.1, by omega⟩, by omega, fun _ => by omega, fun _ => by omega⟩
    · rw [if_neg h2]; exact ⟨.inr ⟨.inl rfl, h1.1, by omega⟩, by omega, fun _ => by omega, fun _ => by omega⟩
  · rw [if_neg h1]
    by_cases h2 : 2 * i + 2 < xs.length ∧ xs.getD (2 * i + 2) 0 < xs.getD i 0
    · rw [if_pos h2]; exact ⟨.inr ⟨.inr rfl, h2.1, by omega⟩, by omega, fun _ => by omega, fun _ => by omega⟩
    · rw [if_neg h2]; exact ⟨.inl rfl, by omega, fun _ => by omega, fun _ => by omega⟩
theorem Down.swap {xs : List Int} {i : Nat} (h : Down xs i) (hi : i < xs.length) (hne : least xs i ≠ i) : Down (swap xs i (least xs i)) (least xs i) := by
  obtain ⟨h1, h2, h3, h4⟩ := least_spec xs i
  generalize least xs i = l at *
  rcases h1 with h1 | ⟨h1, hl, hlt⟩
  · exact absurd h1 hne
  refine ⟨fun k hk hkl hp => ?_, fun k hk hkl hp h0 => ?_⟩
  · rw [length_swap] at hkl
    rw [getD_swap _ _ _ _ hi hl, getD_swap _ _ _ _ hi hl]
    simp only [hp, if_false]
    by_cases a : k = l
    · have b : (k - 1) / 2 = i := by omega
      simp only [a, if_true]
      rw [← a, b, if_pos rfl, a]
      omega
    · simp only [a, if_false]
      by_cases b : (k - 1) / 2 = i
      · rw [if_pos b]
        have c : ¬ k = i := by omega
        rw [if_neg c]
        have : k = 2 * i + 1 ∨ k = 2 * i + 2 := by omega
        rcases this with rfl | rfl
        · exact h3 hkl
        · exact h4 hkl
      · rw [if_neg b]
        by_cases c : k = i
        · rw [if_pos c]
          have := h.over l (by omega) hl (by omega) (by omega)
          rw [c]
          exact this
        · rw [if_neg c]
          exact h.rest k hk hkl b
  · rw [length_swap] at hkl
    rw [getD_swap _ _ _ _ hi hl, getD_swap _ _ _ _ hi hl]
    have a : (l - 1) / 2 = i := by omega
    have b : ¬ k = l := by omega
    have c : ¬ k = i := by omega
    have d : ¬ i = l := by omega
    rw [a, if_neg d, if_pos rfl, if_neg b, if_neg c]
    have := h.rest k hk hkl (by omega)
    rw [hp] at this
    exact this
theorem Down.stop {xs : List Int} {i : Nat} (h : Down xs i) (he : least xs i = i) : Heap xs := fun k hk hl => by
  obtain ⟨_, _, h3, h4⟩ := least_spec xs i
  rw [he] at h3 h4
  by_cases a : (k - 1) / 2 = i
  · rw [a]
    have : k = 2 * i + 1 ∨ k = 2 * i + 2 := by omega
    rcases this with rfl | rfl
    · exact h3 hl
    · exact h4 hl
  · exact h.rest k hk hl a
theorem least_le (xs : List Int) (i : Nat) (hi : i < xs.length) : least xs i < xs.length ∧ i ≤ least xs i := by
  obtain ⟨h1, _⟩ := least_spec xs i
  omega

theorem Heap.min {xs : List Int} (h : Heap xs) : ∀ k, k < xs.length → xs.getD 0 0 ≤ xs.getD k 0
  | 0, _ => Int.le_refl _
  | k + 1, hk => by
    have h1 := h.min (k / 2) (by omega)
    have h2 := h (k + 1) (by omega) hk
    rw [show (k + 1 - 1) / 2 = k / 2 by omega] at h2
    exact Int.le_trans h1 h2
  termination_by k => k
theorem Heap.min_mem {xs : List Int} (h : Heap xs) (x : Int) (hx : x ∈ xs) : xs.getD 0 0 ≤ x := by
  obtain ⟨k, hk, rfl⟩ := List.getElem_of_mem hx
  have := h.min k hk
  simpa [hk] using this

def Rises (xs : List Int) : Prop := ∀ k, 0 < k → k < xs.length → xs.getD (k - 1) 0 ≤ xs.getD k 0
/-- what was taken out so far rises, and is at most all that is left -/
structure Out (out left all : List Int) : Prop where
  rises : Rises out
  le : ∀ x ∈ out, ∀ y ∈ left, x ≤ y
  perm : (out ++ left).Perm all
theorem Out.new (all left : List Int) (h : left.Perm all) : Out [] left all := ⟨fun k _ h => by simp at h, fun x h => by simp at h, by simpa using h⟩
theorem Out.take {out left left' all : List Int} {x : Int} (h : Out out left all) (hp : left.Perm (x :: left')) (hx : ∀ y ∈ left, x ≤ y) : Out (out ++ [x]) left' all where
  rises k hk hl := by
    simp at hl
    by_cases a : k < out.length
    · have := h.rises k hk a
      simpa [List.getD_eq_getElem?_getD, List.getElem?_append_left a, List.getElem?_append_left (by omega : k - 1 < out.length)] using this
    · have e : k = out.length := by omega
      subst e
      have h1 := h.le (out.getD (out.length - 1) 0) (by simp [List.getD_eq_getElem?_getD, (by omega : out.length - 1 < out.length)]) x (hp.mem_iff.mpr (by simp))
      simpa [List.getD_eq_getElem?_getD, List.getElem?_append_left (by omega : out.length - 1 < out.length)] using h1
  le u hu y hy := by
    have hy' : y ∈ left := hp.mem_iff.mpr (by simp [hy])
    rcases List.mem_append.mp hu with h1 | h1
    · exact h.le u h1 y hy'
    · simp at h1; subst h1; exact hx y hy'
  perm := by
    have h1 := h.perm
    refine List.Perm.trans ?_ h1
    rw [List.append_assoc]
    exact List.Perm.append_left out hp.symm
end Go.Proofs.Ytodcengadecboaa
