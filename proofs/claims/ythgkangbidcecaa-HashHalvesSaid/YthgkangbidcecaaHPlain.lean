/- Rising keys are found by halves. Plain lists. -/
import Derived.Test.YthgkangbidcecaaPlain
namespace Go.Proofs.Ythgkangbidcecaa

def Rising (K : List Int) : Prop := ∀ i j, i < j → j < K.length → K.getD i 0 < K.getD j 0

theorem bs_spec {K : List Int} {key : Int} (hs : Rising K) : ∀ (f lo hi : Nat), hi - lo ≤ f → lo ≤ hi → hi ≤ K.length → (∀ i, i < lo → K.getD i 0 < key) → (∀ i, hi ≤ i → i < K.length → key ≤ K.getD i 0) →
    bs K key f lo hi ≤ K.length ∧ (∀ i, i < bs K key f lo hi → K.getD i 0 < key) ∧ (∀ i, bs K key f lo hi ≤ i → i < K.length → key ≤ K.getD i 0)
  | 0, lo, hi, h1, h2, h3, h4, h5 => by
    rw [bs_end K key 0 lo hi (by omega)]
    exact ⟨by omega, h4, fun i hi' hl => h5 i (by omega) hl⟩
  | f + 1, lo, hi, h1, h2, h3, h4, h5 => by
    by_cases hlt : lo < hi
    · by_cases hk : K.getD ((lo + hi) / 2) 0 < key
      · rw [bs_up K key f lo hi hlt hk]
        refine bs_spec hs f _ _ (by omega) (by omega) h3 (fun i hi' => ?_) h5
        by_cases he : i = (lo + hi) / 2
        · rw [he]; exact hk
        · have := hs i ((lo + hi) / 2) (by omega) (by omega)
          omega
      · rw [bs_down K key f lo hi hlt hk]
        refine bs_spec hs f _ _ (by omega) (by omega) (by omega) h4 (fun i hi' hl => ?_)
        by_cases he : i = (lo + hi) / 2
        · rw [he]; omega
        · have := hs ((lo + hi) / 2) i (by omega) hl
          omega
    · rw [bs_end K key (f + 1) lo hi hlt]
      exact ⟨by omega, h4, fun i hi' hl => h5 i (by omega) hl⟩

theorem place_rising {mix : Int → Int → Int} {K : List Int} (hs : Rising K) (key : Int) : ∃ p : Nat, place mix [] K key = p ∧ p ≤ K.length ∧ (∀ i, i < p → K.getD i 0 < key) ∧ (∀ i, p ≤ i → i < K.length → key ≤ K.getD i 0) := by
  have := bs_spec (key := key) hs K.length 0 K.length (by omega) (by omega) (Nat.le_refl _) (fun i h => absurd h (by omega)) (fun i h h2 => absurd h2 (by omega))
  exact ⟨bs K key K.length 0 K.length, by simp [place], this⟩

theorem place_key {mix : Int → Int → Int} {K : List Int} (hs : Rising K) (k : Nat) (hk : k < K.length) : place mix [] K (K.getD k 0) = k := by
  obtain ⟨p, hp, _, h2, h3⟩ := place_rising (mix := mix) hs (K.getD k 0)
  rw [hp]
  have a : ¬ k < p := fun h => by have := h2 k h; omega
  have b : ¬ p < k := fun h => by
    have h4 := h3 p (Nat.le_refl _) (by omega)
    have := hs p k h hk
    omega
  omega

theorem right_rising {mix : Int → Int → Int} {K V : List Int} (hs : Rising K) (hn : K.length ≤ 4096) (hv : V.length = K.length) : right mix [] K V = true :=
  right_yes mix [] K V hn hv (by simp) (fun _ => rfl) fun k hk => okAt_yes (place_key hs k hk) (by
    by_cases h0 : k = 0
    · exact .inr (.inl h0)
    · exact .inr (.inr (hs (k - 1) k (by omega) hk)))

theorem get_key {mix : Int → Int → Int} {K V : List Int} (hs : Rising K) (hv : V.length = K.length) (k : Nat) (hk : k < K.length) : get mix [] K V (K.getD k 0) = (V.getD k 0, true) :=
  get_hit mix [] K V _ k (place_key hs k hk) hv hk rfl

theorem get_in {mix : Int → Int → Int} {K V : List Int} (hs : Rising K) (hv : V.length = K.length) (key : Int) : (get mix [] K V key).2 = K.any (· == key) := by
  obtain ⟨p, hp, h1, h2, h3⟩ := place_rising (mix := mix) hs key
  have hno : (∀ i, i < K.length → K.getD i 0 ≠ key) → K.any (· == key) = false := fun h => by
    rw [List.any_eq_false]
    intro x hx
    obtain ⟨i, hi, rfl⟩ := List.getElem_of_mem hx
    have := h i hi
    simp [hi] at this
    simpa using this
  by_cases hpl : p < K.length
  · by_cases he : K.getD p 0 = key
    · rw [get_hit mix [] K V key p hp hv hpl he]
      symm
      rw [List.any_eq_true]
      exact ⟨K[p], List.getElem_mem hpl, by simp [hpl] at he; simpa using he⟩
    · rw [get_other mix [] K V key p hp he, hno]
      intro i hi e
      by_cases c : i < p
      · have := h2 i c; omega
      · by_cases c2 : i = p
        · subst c2; exact he e
        · have := hs p i (by omega) hi
          have := h3 p (Nat.le_refl _) hpl
          omega
  · rw [get_off mix [] K V key p hp (by omega), hno]
    intro i hi e
    have := h2 i (by omega)
    omega

/-- the keys: sums of steps -/
def sumTo (S : List Int) : Nat → Int
  | 0 => 0
  | k + 1 => sumTo S k + (S.getD k 0 + 1)
def keysTo (S : List Int) (n : Nat) : List Int := (List.range n).map fun k => sumTo S (k + 1)
def valsTo (n : Nat) : List Int := (List.range n).map fun (k : Nat) => (k : Int) + 7
theorem keysTo_succ (S : List Int) (n : Nat) : keysTo S (n + 1) = keysTo S n ++ [sumTo S (n + 1)] := by simp [keysTo, List.range_succ]
theorem valsTo_succ (n : Nat) : valsTo (n + 1) = valsTo n ++ [(n : Int) + 7] := by simp [valsTo, List.range_succ]
theorem length_keysTo (S : List Int) (n : Nat) : (keysTo S n).length = n := by simp [keysTo]
theorem length_valsTo (n : Nat) : (valsTo n).length = n := by simp [valsTo]
theorem keysTo_get (S : List Int) (n k : Nat) (h : k < n) : (keysTo S n).getD k 0 = sumTo S (k + 1) := by simp [keysTo, h]
theorem valsTo_get (n k : Nat) (h : k < n) : (valsTo n).getD k 0 = (k : Int) + 7 := by simp [valsTo, h]
theorem sumTo_bd {S : List Int} (h : ∀ i, 0 ≤ S.getD i 0 ∧ S.getD i 0 < 65536) : ∀ k, 0 ≤ sumTo S k ∧ sumTo S k ≤ 65536 * (k : Int)
  | 0 => by simp [sumTo]
  | k + 1 => by
    have := sumTo_bd h k
    have := h k
    rw [sumTo]
    omega
theorem sumTo_lt {S : List Int} (h : ∀ i, 0 ≤ S.getD i 0 ∧ S.getD i 0 < 65536) (a : Nat) : ∀ d, sumTo S a < sumTo S (a + (d + 1))
  | 0 => by
    have := h a
    show sumTo S a < sumTo S a + (S.getD a 0 + 1)
    omega
  | d + 1 => by
    have h1 := sumTo_lt h a d
    have := h (a + (d + 1))
    show sumTo S a < sumTo S (a + (d + 1)) + (S.getD (a + (d + 1)) 0 + 1)
    omega
theorem keysTo_rising {S : List Int} (h : ∀ i, 0 ≤ S.getD i 0 ∧ S.getD i 0 < 65536) (n : Nat) : Rising (keysTo S n) := by
  intro i j hij hj
  rw [length_keysTo] at hj
  rw [keysTo_get _ _ _ (by omega), keysTo_get _ _ _ hj]
  have := sumTo_lt h (i + 1) (j - i - 1)
  rw [show i + 1 + (j - i - 1 + 1) = j + 1 by omega] at this
  exact this
end Go.Proofs.Ythgkangbidcecaa
