/- Plain functions: how a key's hashPlace is found, which hash may be, what it tells. No program in sight. -/
namespace Go.Proofs.Ytgejpggbmgiocaa

/-- by halves -/
def bs (K : List Int) (key : Int) : Nat → Nat → Nat → Nat
  | 0, lo, _ => lo
  | f + 1, lo, hi => if lo < hi then (if K.getD ((lo + hi) / 2) 0 < key then bs K key f ((lo + hi) / 2 + 1) hi else bs K key f lo ((lo + hi) / 2)) else lo

theorem bs_end (K : List Int) (key : Int) (f lo hi : Nat) (h : ¬ lo < hi) : bs K key f lo hi = lo := by
  cases f <;> simp [bs, h]
theorem bs_up (K : List Int) (key : Int) (f lo hi : Nat) (h : lo < hi) (hk : K.getD ((lo + hi) / 2) 0 < key) : bs K key (f + 1) lo hi = bs K key f ((lo + hi) / 2 + 1) hi := by
  rw [bs, if_pos h, if_pos hk]
theorem bs_down (K : List Int) (key : Int) (f lo hi : Nat) (h : lo < hi) (hk : ¬ K.getD ((lo + hi) / 2) 0 < key) : bs K key (f + 1) lo hi = bs K key f lo ((lo + hi) / 2) := by
  rw [bs, if_pos h, if_neg hk]

/-- a key's hashPlace; mix: how numbers are mixed -/
def hashPlace (mix : Int → Int → Int) (S K : List Int) (key : Int) : Int :=
  if S.length = 0 then (bs K key K.length 0 K.length : Int)
  else mix (S.getD (mix 0 key % S.length).toNat 0) key % K.length

/-- the key number k stands at its hashPlace (and rises, where there are no seeds) -/
def okAt (mix : Int → Int → Int) (S K : List Int) (k : Nat) : Bool :=
  (hashPlace mix S K (K.getD k 0) == k) && !(S.length == 0 && decide (0 < k) && decide (K.getD k 0 ≤ K.getD (k - 1) 0))

def hashRight (mix : Int → Int → Int) (S K V : List Int) : Bool :=
  !(decide (4096 < K.length) || V.length != K.length || decide (4096 < S.length) || K.length == 0 && decide (0 < S.length)) && (List.range K.length).all (okAt mix S K)

theorem right_no (mix : Int → Int → Int) (S K V : List Int) (h : 4096 < K.length ∨ V.length ≠ K.length ∨ 4096 < S.length ∨ (K.length = 0 ∧ 0 < S.length)) : hashRight mix S K V = false := by
  unfold hashRight
  rcases h with h | h | h | ⟨h, h'⟩ <;> simp [h]
  intro h1; omega
theorem right_bad (mix : Int → Int → Int) (S K V : List Int) (k : Nat) (hk : k < K.length) (h : okAt mix S K k = false) : hashRight mix S K V = false := by
  unfold hashRight
  have : (List.range K.length).all (okAt mix S K) = false := by
    rw [List.all_eq_false]
    exact ⟨k, by simpa using hk, by simp [h]⟩
  rw [this, Bool.and_false]
theorem right_yes (mix : Int → Int → Int) (S K V : List Int) (h1 : K.length ≤ 4096) (h2 : V.length = K.length) (h3 : S.length ≤ 4096) (h4 : K.length = 0 → S.length = 0) (h : ∀ k, k < K.length → okAt mix S K k = true) : hashRight mix S K V = true := by
  unfold hashRight
  have : (List.range K.length).all (okAt mix S K) = true := by
    rw [List.all_eq_true]
    intro k hk
    exact h k (by simpa using hk)
  have e1 : decide (4096 < K.length) = false := decide_eq_false (by omega)
  have e3 : decide (4096 < S.length) = false := decide_eq_false (by omega)
  have e4 : (K.length == 0 && decide (0 < S.length)) = false := by
    by_cases hz : K.length = 0
    · simp [h4 hz]
    · simp [hz]
  rw [this, e1, e3, e4, h2]
  simp
theorem okAt_place {mix : Int → Int → Int} {S K : List Int} {k : Nat} {p : Nat} (h : hashPlace mix S K (K.getD k 0) = p) (hp : p ≠ k) : okAt mix S K k = false := by
  unfold okAt
  rw [h]
  have : ((p : Int) == (k : Int)) = false := by rw [beq_eq_false_iff_ne]; omega
  simp [this]
theorem okAt_low {mix : Int → Int → Int} {S K : List Int} {k : Nat} (hS : S.length = 0) (hk : 0 < k) (h : K.getD k 0 ≤ K.getD (k - 1) 0) : okAt mix S K k = false := by
  unfold okAt
  rw [hS]
  simp only [beq_self_eq_true, Bool.true_and, decide_eq_true hk, decide_eq_true h, Bool.not_true, Bool.and_false]
theorem okAt_yes {mix : Int → Int → Int} {S K : List Int} {k : Nat} (h : hashPlace mix S K (K.getD k 0) = k) (h2 : S.length ≠ 0 ∨ k = 0 ∨ K.getD (k - 1) 0 < K.getD k 0) : okAt mix S K k = true := by
  unfold okAt
  rw [h]
  rcases h2 with h | h | h
  · simp [h]
  · simp [h]
  · have : ¬ (K.getD k 0 ≤ K.getD (k - 1) 0) := by omega
    rw [decide_eq_false this]
    simp

def hashGet (mix : Int → Int → Int) (S K V : List Int) (key : Int) : Int × Bool :=
  if K.length = 0 ∨ V.length ≠ K.length then (0, false)
  else if K.length ≤ hashPlace mix S K key ∨ K.getD (hashPlace mix S K key).toNat 0 ≠ key then (0, false)
  else (V.getD (hashPlace mix S K key).toNat 0, true)

theorem place_nat (mix : Int → Int → Int) (S K : List Int) (key : Int) (h : 0 < K.length) : ∃ p : Nat, hashPlace mix S K key = p := by
  unfold hashPlace
  split
  · exact ⟨_, rfl⟩
  · exact ⟨(mix (S.getD (mix 0 key % S.length).toNat 0) key % K.length).toNat, (Int.toNat_of_nonneg (Int.emod_nonneg _ (by omega))).symm⟩

theorem get_none (mix : Int → Int → Int) (S K V : List Int) (key : Int) (h : K.length = 0 ∨ V.length ≠ K.length) : hashGet mix S K V key = (0, false) := by
  unfold hashGet; rw [if_pos h]
theorem get_off (mix : Int → Int → Int) (S K V : List Int) (key : Int) (p : Nat) (h : hashPlace mix S K key = p) (hp : K.length ≤ p) : hashGet mix S K V key = (0, false) := by
  unfold hashGet
  split
  · rfl
  · rw [if_pos]; rw [h]; omega
theorem get_other (mix : Int → Int → Int) (S K V : List Int) (key : Int) (p : Nat) (h : hashPlace mix S K key = p) (hp : K.getD p 0 ≠ key) : hashGet mix S K V key = (0, false) := by
  unfold hashGet
  split
  · rfl
  · rw [if_pos]; rw [h]; exact .inr (by simpa using hp)
theorem get_hit (mix : Int → Int → Int) (S K V : List Int) (key : Int) (p : Nat) (h : hashPlace mix S K key = p) (h0 : V.length = K.length) (h1 : p < K.length) (hp : K.getD p 0 = key) : hashGet mix S K V key = (V.getD p 0, true) := by
  unfold hashGet
  rw [if_neg (by omega), if_neg]
  · rw [h]; simp
  · rw [h]; rintro (h | h)
    · omega
    · exact h (by simpa using hp)
end Go.Proofs.Ytgejpggbmgiocaa
