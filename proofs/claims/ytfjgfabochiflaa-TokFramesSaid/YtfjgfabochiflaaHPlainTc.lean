/- HPlain, HXPlain of this seat, in one text. -/
/- Plain functions on lists: what merges and their texts are. No program in sight. -/
namespace Go.Proofs.Ytfjgfabochiflaa.H14

abbrev Txt := List UInt8

def baseTexts : List Txt := (List.range 256).map fun b => [UInt8.ofNat b]

/-- the texts of all ids, from the merge number k on; none: a merge that may not be -/
def goTexts : Nat → List Txt → List (Int × Int) → Option (List Txt)
  | _, out, [] => some out
  | k, out, m :: ms =>
    if m.1 < 0 ∨ 255 + (k : Int) < m.1 ∨ m.2 < 0 ∨ 255 + (k : Int) < m.2 then none
    else
      let t := out.getD m.1.toNat [] ++ out.getD m.2.toNat []
      if 64 < t.length ∨ t ∈ out.drop 256 then none else goTexts (k + 1) (out ++ [t]) ms

def texts (l : List (Int × Int)) : List Txt × Int :=
  if 1024 < l.length then ([], 2)
  else match goTexts 0 baseTexts l with
    | none => ([], 130)
    | some out => (out, 0)

theorem goTexts_step (k : Nat) (out : List Txt) (l : List (Int × Int)) (hk : k < l.length) :
    goTexts k out (l.drop k) = if (l.getD k (0,0)).1 < 0 ∨ 255 + (k : Int) < (l.getD k (0,0)).1 ∨ (l.getD k (0,0)).2 < 0 ∨ 255 + (k : Int) < (l.getD k (0,0)).2 then none
    else if 64 < (out.getD (l.getD k (0,0)).1.toNat [] ++ out.getD (l.getD k (0,0)).2.toNat []).length ∨ (out.getD (l.getD k (0,0)).1.toNat [] ++ out.getD (l.getD k (0,0)).2.toNat []) ∈ out.drop 256 then none
    else goTexts (k + 1) (out ++ [out.getD (l.getD k (0,0)).1.toNat [] ++ out.getD (l.getD k (0,0)).2.toNat []]) (l.drop (k + 1)) := by
  rw [List.drop_eq_getElem_cons hk, goTexts]
  simp [List.getD, hk]

theorem goTexts_bad (k : Nat) (out : List Txt) (l : List (Int × Int)) (hk : k < l.length) (m1 m2 : Int) (h1 : m1 = (l.getD k (0,0)).1) (h2 : m2 = (l.getD k (0,0)).2)
    (h : m1 < 0 ∨ 255 + (k : Int) < m1 ∨ m2 < 0 ∨ 255 + (k : Int) < m2) : goTexts k out (l.drop k) = none := by
  rw [goTexts_step k out l hk, ← h1, ← h2, if_pos h]

theorem goTexts_bad2 (k : Nat) (out : List Txt) (l : List (Int × Int)) (hk : k < l.length) (i j : Nat) (h1 : (i : Int) = (l.getD k (0,0)).1) (h2 : (j : Int) = (l.getD k (0,0)).2)
    (h : 64 < (out.getD i [] ++ out.getD j []).length ∨ (out.getD i [] ++ out.getD j []) ∈ out.drop 256) : goTexts k out (l.drop k) = none := by
  rw [goTexts_step k out l hk, ← h1, ← h2]
  split
  · rfl
  · rw [Int.toNat_natCast, Int.toNat_natCast, if_pos h]

theorem goTexts_good (k : Nat) (out : List Txt) (l : List (Int × Int)) (hk : k < l.length) (i j : Nat) (h1 : (i : Int) = (l.getD k (0,0)).1) (h2 : (j : Int) = (l.getD k (0,0)).2)
    (hi : i < 256 + k) (hj : j < 256 + k) (h64 : (out.getD i [] ++ out.getD j []).length ≤ 64) (hn : (out.getD i [] ++ out.getD j []) ∉ out.drop 256) :
    goTexts k out (l.drop k) = goTexts (k + 1) (out ++ [out.getD i [] ++ out.getD j []]) (l.drop (k + 1)) := by
  rw [goTexts_step k out l hk, ← h1, ← h2, if_neg (by omega), Int.toNat_natCast, Int.toNat_natCast, if_neg (by
    rintro (h | h)
    · omega
    · exact hn h)]

theorem goTexts_end (k : Nat) (out : List Txt) (l : List (Int × Int)) (hk : l.length = k) : goTexts k out (l.drop k) = some out := by
  rw [List.drop_of_length_le (by omega)]; rfl

def short64 (out : List Txt) : Prop := ∀ t ∈ out, t.length ≤ 64
theorem short64_base : short64 baseTexts := by
  intro t ht
  simp [baseTexts] at ht
  obtain ⟨a, _, rfl⟩ := ht
  simp
theorem short64_snoc {out : List Txt} {t : Txt} (h : short64 out) (ht : t.length ≤ 64) : short64 (out ++ [t]) := by
  intro u hu
  simp at hu
  rcases hu with hu | rfl
  · exact h u hu
  · exact ht
theorem short64_get {out : List Txt} (h : short64 out) (i : Nat) : (out.getD i []).length ≤ 64 := by
  by_cases hi : i < out.length
  · have := h out[i] (by simp)
    simpa [hi] using this
  · simp [List.getD, List.getElem?_eq_none (by omega : out.length ≤ i)]

theorem texts_none {l : List (Int × Int)} {k : Nat} {out : List Txt} (h : ¬ 1024 < l.length) (hg : goTexts 0 baseTexts l = goTexts k out (l.drop k)) (hn : goTexts k out (l.drop k) = none) : texts l = ([], 130) := by
  unfold texts; rw [if_neg h, hg, hn]
theorem texts_some {l : List (Int × Int)} {k : Nat} {out o : List Txt} (h : ¬ 1024 < l.length) (hg : goTexts 0 baseTexts l = goTexts k out (l.drop k)) (hn : goTexts k out (l.drop k) = some o) : texts l = (o, 0) := by
  unfold texts; rw [if_neg h, hg, hn]

end Go.Proofs.Ytfjgfabochiflaa.H14
/- Merging ids, as plain functions on lists. No program in sight. -/
namespace Go.Proofs.Ytfjgfabochiflaa.H14.R13

/-- the first merge of two ids, among the first n -/
def rankTo (l : List (Int × Int)) (a b : Int) : Nat → Option Nat
  | 0 => none
  | n + 1 => match rankTo l a b n with
    | some k => some k
    | none => if l.getD n (0, 0) = (a, b) then some n else none
def rank (l : List (Int × Int)) (a b : Int) : Option Nat := rankTo l a b l.length
def rankI (l : List (Int × Int)) (a b : Int) : Int := match rank l a b with | some k => k | none => -1

theorem rankTo_none {l : List (Int × Int)} {a b : Int} : ∀ {n : Nat}, rankTo l a b n = none ↔ ∀ j, j < n → l.getD j (0, 0) ≠ (a, b)
  | 0 => by simp [rankTo]
  | n + 1 => by
    have ih := rankTo_none (l := l) (a := a) (b := b) (n := n)
    unfold rankTo
    cases h : rankTo l a b n with
    | some k =>
      simp only [reduceCtorEq, false_iff]
      intro hn
      have : rankTo l a b n = none := ih.2 (fun j hj => hn j (by omega))
      rw [h] at this; cases this
    | none =>
      have h1 := ih.1 h
      constructor
      · intro h2 j hj
        by_cases hjn : j < n
        · exact h1 j hjn
        · obtain rfl : j = n := by omega
          intro e
          dsimp only at h2
          rw [if_pos e] at h2; cases h2
      · intro h2
        simp only [if_neg (h2 n (by omega))]
theorem rankTo_some {l : List (Int × Int)} {a b : Int} {k : Nat} : ∀ {n : Nat}, rankTo l a b n = some k ↔ k < n ∧ l.getD k (0, 0) = (a, b) ∧ ∀ j, j < k → l.getD j (0, 0) ≠ (a, b)
  | 0 => by simp [rankTo]
  | n + 1 => by
    have ih := rankTo_some (l := l) (a := a) (b := b) (k := k) (n := n)
    unfold rankTo
    cases h : rankTo l a b n with
    | some m =>
      rw [h] at ih
      simp only at ih ⊢
      constructor
      · intro e
        obtain ⟨h1, h2, h3⟩ := ih.1 e
        exact ⟨by omega, h2, h3⟩
      · rintro ⟨h1, h2, h3⟩
        by_cases hk : k < n
        · exact ih.2 ⟨hk, h2, h3⟩
        · obtain rfl : k = n := by omega
          have hm : rankTo l a b k = none := rankTo_none.2 h3
          rw [h] at hm; cases hm
    | none =>
      have h1 := rankTo_none.1 h
      constructor
      · intro e
        simp only at e
        split at e
        · rename_i h2
          obtain rfl : n = k := by simpa using e
          exact ⟨by omega, h2, h1⟩
        · cases e
      · rintro ⟨h2, h3, h4⟩
        by_cases hk : k < n
        · exact absurd h3 (h1 k hk)
        · obtain rfl : k = n := by omega
          simp only [if_pos h3]

/-- the best place to merge among the first n neighbours: its rank, and where -/
def scanTo (l : List (Int × Int)) (out : List Int) : Nat → Option (Nat × Nat)
  | 0 => none
  | i + 1 => match rank l (out.getD i 0) (out.getD (i + 1) 0), scanTo l out i with
    | none, r => r
    | some k, none => some (k, i)
    | some k, some (b, at_) => if k < b then some (k, i) else some (b, at_)
def scan (l : List (Int × Int)) (out : List Int) : Option (Nat × Nat) := scanTo l out (out.length - 1)

/-- merged at a place -/
def merged (out : List Int) (b i : Nat) : List Int := out.take i ++ (256 + (b : Int)) :: out.drop (i + 2)

def mergeF (l : List (Int × Int)) : Nat → List Int → List Int
  | 0, out => out
  | f + 1, out => match scan l out with
    | none => out
    | some (b, i) => mergeF l f (merged out b i)
def mergeAll (l : List (Int × Int)) (ids : List Int) : List Int := mergeF l ids.length ids

theorem scanTo_lt {l : List (Int × Int)} {out : List Int} {b i : Nat} : ∀ {n : Nat}, scanTo l out n = some (b, i) → i < n ∧ b < l.length ∧ rank l (out.getD i 0) (out.getD (i + 1) 0) = some b
  | 0, h => by simp [scanTo] at h
  | n + 1, h => by
    rw [scanTo] at h
    cases hr : rank l (out.getD n 0) (out.getD (n + 1) 0) with
    | none =>
      rw [hr] at h
      obtain ⟨h1, h2, h3⟩ := scanTo_lt h
      exact ⟨by omega, h2, h3⟩
    | some k =>
      rw [hr] at h
      have hk : k < l.length := (rankTo_some.1 hr).1
      cases hs : scanTo l out n with
      | none =>
        rw [hs] at h
        simp only [Option.some.injEq, Prod.mk.injEq] at h
        obtain ⟨rfl, rfl⟩ := h
        exact ⟨by omega, hk, hr⟩
      | some p =>
        obtain ⟨b', i'⟩ := p
        rw [hs] at h
        simp only at h
        split at h
        · simp only [Option.some.injEq, Prod.mk.injEq] at h
          obtain ⟨rfl, rfl⟩ := h
          exact ⟨by omega, hk, hr⟩
        · simp only [Option.some.injEq, Prod.mk.injEq] at h
          obtain ⟨rfl, rfl⟩ := h
          obtain ⟨h1, h2, h3⟩ := scanTo_lt hs
          exact ⟨by omega, h2, h3⟩

theorem length_merged {out : List Int} {b i : Nat} (h : i + 1 < out.length) : (merged out b i).length = out.length - 1 := by
  unfold merged
  simp
  omega

theorem mergeF_stop {l : List (Int × Int)} {f : Nat} {out : List Int} (h : scan l out = none) : mergeF l f out = out := by
  cases f <;> simp [mergeF, h]
theorem mergeF_step {l : List (Int × Int)} {f : Nat} {out : List Int} {b i : Nat} (h : scan l out = some (b, i)) : mergeF l (f + 1) out = mergeF l f (merged out b i) := by
  simp [mergeF, h]
theorem mergeF_fuel {l : List (Int × Int)} : ∀ {f g : Nat} {out : List Int}, out.length ≤ f → out.length ≤ g → mergeF l f out = mergeF l g out
  | f, g, out, hf, hg => by
    cases hs : scan l out with
    | none => rw [mergeF_stop hs, mergeF_stop hs]
    | some p =>
      obtain ⟨b, i⟩ := p
      have hi := (scanTo_lt hs).1
      have hl := length_merged (b := b) (show i + 1 < out.length by omega)
      match f, g with
      | f + 1, g + 1 =>
        rw [mergeF_step hs, mergeF_step hs]
        exact mergeF_fuel (by omega) (by omega)
      | 0, _ => omega
      | _ + 1, 0 => omega

theorem length_mergeF {l : List (Int × Int)} : ∀ (f : Nat) (out : List Int), (mergeF l f out).length ≤ out.length
  | 0, out => by simp [mergeF]
  | f + 1, out => by
    cases hs : scan l out with
    | none => rw [mergeF_stop hs]; exact Nat.le_refl _
    | some p =>
      obtain ⟨b, i⟩ := p
      have hi := (scanTo_lt hs).1
      have hl := length_merged (b := b) (show i + 1 < out.length by omega)
      rw [mergeF_step hs]
      have := length_mergeF (l := l) f (merged out b i)
      omega

/-- what is made of the first j ids, one by one -/
def nextTo (out : List Int) (b i : Nat) : Nat → List Int
  | 0 => []
  | j + 1 => if j = i then nextTo out b i j ++ [256 + (b : Int)] else if j = i + 1 then nextTo out b i j else nextTo out b i j ++ [out.getD j 0]
theorem nextTo_low (out : List Int) (b i : Nat) : ∀ j, j ≤ i → j ≤ out.length → nextTo out b i j = out.take j
  | 0, _, _ => by simp [nextTo]
  | j + 1, h, h2 => by
    rw [nextTo, if_neg (by omega), if_neg (by omega), nextTo_low out b i j (by omega) (by omega), List.take_succ_eq_append_getElem (by omega)]
    simp [show j < out.length by omega]
theorem nextTo_high (out : List Int) (b i : Nat) (hi : i + 1 < out.length) : ∀ d, i + 2 + d ≤ out.length → nextTo out b i (i + 2 + d) = out.take i ++ (256 + (b : Int)) :: (out.drop (i + 2)).take d
  | 0, _ => by
    rw [show i + 2 + 0 = (i + 1) + 1 by omega, nextTo, if_neg (by omega), if_pos rfl, nextTo, if_pos rfl, nextTo_low out b i i (by omega) (by omega)]
    simp
  | d + 1, h => by
    rw [show i + 2 + (d + 1) = (i + 2 + d) + 1 by omega, nextTo, if_neg (by omega), if_neg (by omega), nextTo_high out b i hi d (by omega), List.take_succ_eq_append_getElem (by simp; omega)]
    simp [show i + 2 + d < out.length by omega]
theorem nextTo_all (out : List Int) (b i : Nat) (hi : i + 1 < out.length) : nextTo out b i out.length = merged out b i := by
  have := nextTo_high out b i hi (out.length - (i + 2)) (by omega)
  rw [show i + 2 + (out.length - (i + 2)) = out.length by omega] at this
  have h2 : (out.drop (i + 2)).take (out.length - (i + 2)) = out.drop (i + 2) := List.take_of_length_le (by rw [List.length_drop]; exact Nat.le_refl _)
  rw [this, merged, h2]
theorem length_nextTo (out : List Int) (b i : Nat) : ∀ j, (nextTo out b i j).length ≤ j
  | 0 => by simp [nextTo]
  | j + 1 => by
    have := length_nextTo out b i j
    rw [nextTo]
    split
    · simp; omega
    · split
      · omega
      · simp; omega

def encB (r : Option (Nat × Nat)) : Int := match r with | none => -1 | some (b, _) => b
def encT (r : Option (Nat × Nat)) : Int := match r with | none => -1 | some (_, i) => i
theorem encB_lo (r : Option (Nat × Nat)) : -1 ≤ encB r := by
  cases r with
  | none => simp [encB]
  | some p =>
    show (-1 : Int) ≤ (p.1 : Int)
    omega
theorem rankI_bd (l : List (Int × Int)) (a b : Int) : -1 ≤ rankI l a b ∧ rankI l a b < l.length ∨ l.length = 0 ∧ rankI l a b = -1 := by
  unfold rankI
  cases h : rank l a b with
  | none =>
    by_cases hl : l.length = 0
    · exact .inr ⟨hl, rfl⟩
    · exact .inl ⟨by simp, by simp; omega⟩
  | some k =>
    have := (rankTo_some.1 h).1
    exact .inl ⟨by dsimp only; omega, by simpa using this⟩
theorem scan_keep {l : List (Int × Int)} {out : List Int} {i : Nat} (h : rankI l (out.getD i 0) (out.getD (i + 1) 0) < 0 ∨ (0 ≤ encB (scanTo l out i) ∧ encB (scanTo l out i) ≤ rankI l (out.getD i 0) (out.getD (i + 1) 0))) : scanTo l out (i + 1) = scanTo l out i := by
  rw [scanTo]
  unfold rankI at h
  cases hr : rank l (out.getD i 0) (out.getD (i + 1) 0) with
  | none => rfl
  | some k =>
    rw [hr] at h
    cases hs : scanTo l out i with
    | none => rw [hs] at h; simp [encB] at h; omega
    | some p =>
      obtain ⟨b, t⟩ := p
      rw [hs] at h
      simp [encB] at h
      dsimp only
      rw [if_neg (by omega)]
theorem scan_new {l : List (Int × Int)} {out : List Int} {i : Nat} (h : 0 ≤ rankI l (out.getD i 0) (out.getD (i + 1) 0)) (h2 : encB (scanTo l out i) < 0 ∨ rankI l (out.getD i 0) (out.getD (i + 1) 0) < encB (scanTo l out i)) :
    encB (scanTo l out (i + 1)) = rankI l (out.getD i 0) (out.getD (i + 1) 0) ∧ encT (scanTo l out (i + 1)) = i := by
  rw [scanTo]
  unfold rankI at h h2 ⊢
  cases hr : rank l (out.getD i 0) (out.getD (i + 1) 0) with
  | none => rw [hr] at h; simp at h
  | some k =>
    rw [hr] at h2
    cases hs : scanTo l out i with
    | none => exact ⟨rfl, rfl⟩
    | some p =>
      obtain ⟨b, t⟩ := p
      rw [hs] at h2
      simp [encB] at h2
      dsimp only
      rw [if_pos (by omega)]
      exact ⟨rfl, rfl⟩

/-- what Apply answers -/
def apply (l : List (Int × Int)) (ids : List Int) : List Int × Int :=
  if (texts l).2 ≠ 0 then ([], (texts l).2)
  else if 4096 < ids.length then ([], 2)
  else if ids.any (fun i => decide (i < 0) || decide (256 + (l.length : Int) ≤ i)) then ([], 1)
  else (mergeAll l ids, 0)

end Go.Proofs.Ytfjgfabochiflaa.H14.R13
