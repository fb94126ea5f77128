/- Plain functions on lists: what merges and their texts are. No program in sight. -/
namespace Go.Proofs.Ytfjgfabochiflaa.H14

abbrev Txt := List UInt8

def baseTexts : List Txt := (List.range 256).map fun b => [UInt8.ofNat b]

/-- the texts of all ids, from the merge number k on; none: a merge that may not be -/
def goTexts : Nat → List Txt → List (Int × Int) → Option (List Txt)
  | _, out, [] => some out
  | k, out, m :: ms =>
    if m.1 < 0 ∨ 255 + (k : Int) < m.1 ∨ m.2 < 0 ∨ 255 + (k : Int) < m.2 then none
    else
      let t := out.getD m.1.toNat [] ++ out.getD m.2.toNat []
      if 64 < t.length ∨ t ∈ out.drop 256 then none else goTexts (k + 1) (out ++ [t]) ms

def texts (l : List (Int × Int)) : List Txt × Int :=
  if 1024 < l.length then ([], 2)
  else match goTexts 0 baseTexts l with
    | none => ([], 130)
    | some out => (out, 0)

theorem goTexts_step (k : Nat) (out : List Txt) (l : List (Int × Int)) (hk : k < l.length) :
    goTexts k out (l.drop k) = if (l.getD k (0,0)).1 < 0 ∨ 255 + (k : Int) < (l.getD k (0,0)).1 ∨ (l.getD k (0,0)).2 < 0 ∨ 255 + (k : Int) < (l.getD k (0,0)).2 then none
    else if 64 < (out.getD (l.getD k (0,0)).1.toNat [] ++ out.getD (l.getD k (0,0)).2.toNat []).length ∨ (out.getD (l.getD k (0,0)).1.toNat [] ++ out.getD (l.getD k (0,0)).2.toNat []) ∈ out.drop 256 then none
    else goTexts (k + 1) (out ++ [out.getD (l.getD k (0,0)).1.toNat [] ++ out.getD (l.getD k (0,0)).2.toNat []]) (l.drop (k + 1)) := by
  rw [List.drop_eq_getElem_cons hk, goTexts]
  simp [List.getD, hk]

theorem goTexts_bad (k : Nat) (out : List Txt) (l : List (Int × Int)) (hk : k < l.length) (m1 m2 : Int) (h1 : m1 = (l.getD k (0,0)).1) (h2 : m2 = (l.getD k (0,0)).2)
    (h : m1 < 0 ∨ 255 + (k : Int) < m1 ∨ m2 < 0 ∨ 255 + (k : Int) < m2) : goTexts k out (l.drop k) = none := by
  rw [goTexts_step k out l hk, ← h1, ← h2, if_pos h]

theorem goTexts_bad2 (k : Nat) (out : List Txt) (l : List (Int × Int)) (hk : k < l.length) (i j : Nat) (h1 : (i : Int) = (l.getD k (0,0)).1) (h2 : (j : Int) = (l.getD k (0,0)).2)
    (h : 64 < (out.getD i [] ++ out.getD j []).length ∨ (out.getD i [] ++ out.getD j []) ∈ out.drop 256) : goTexts k out (l.drop k) = none := by
  rw [goTexts_step k out l hk, ← h1, ← h2]
  split
  · rfl
  · rw [Int.toNat_natCast, Int.toNat_natCast, if_pos h]

theorem goTexts_good (k : Nat) (out : List Txt) (l : List (Int × Int)) (hk : k < l.length) (i j : Nat) (h1 : (i : Int) = (l.getD k (0,0)).1) (h2 : (j : Int) = (l.getD k (0,0)).2)
    (hi : i < 256 + k) (hj : j < 256 + k) (h64 : (out.getD i [] ++ out.getD j []).length ≤ 64) (hn : (out.getD i [] ++ out.getD j []) ∉ out.drop 256) :
    goTexts k out (l.drop k) = goTexts (k + 1) (out ++ [out.getD i [] ++ out.getD j []]) (l.drop (k + 1)) := by
  rw [goTexts_step k out l hk, ← h1, ← h2, if_neg (by omega), Int.toNat_natCast, Int.toNat_natCast, if_neg (by
    rintro (h | h)
    · omega
    · exact hn h)]

theorem goTexts_end (k : Nat) (out : List Txt) (l : List (Int × Int)) (hk : l.length = k) : goTexts k out (l.drop k) = some out := by
  rw [List.drop_of_length_le (by omega)]; rfl

def short64 (out : List Txt) : Prop := ∀ t ∈ out, t.length ≤ 64
theorem short64_base : short64 baseTexts := by
  intro t ht
  simp [baseTexts] at ht
  obtain ⟨a, _, rfl⟩ := ht
  simp
theorem short64_snoc {out : List Txt} {t : Txt} (h : short64 out) (ht : t.length ≤ 64) : short64 (out ++ [t]) := by
  intro u hu
  simp at hu
  rcases hu with hu | rfl
  · exact h u hu
  · exact ht
theorem short64_get {out : List Txt} (h : short64 out) (i : Nat) : (out.getD i []).length ≤ 64 := by
  by_cases hi : i < out.length
  · have := h out[i] (by simp)
    simpa [hi] using this
  · simp [List.getD, List.getElem?_eq_none (by omega : out.length ≤ i)]

theorem texts_none {l : List (Int × Int)} {k : Nat} {out : List Txt} (h : ¬ 1024 < l.length) (hg : goTexts 0 baseTexts l = goTexts k out (l.drop k)) (hn : goTexts k out (l.drop k) = none) : texts l = ([], 130) := by
  unfold texts; rw [if_neg h, hg, hn]
theorem texts_some {l : List (Int × Int)} {k : Nat} {out o : List Txt} (h : ¬ 1024 < l.length) (hg : goTexts 0 baseTexts l = goTexts k out (l.drop k)) (hn : goTexts k out (l.drop k) = some o) : texts l = (o, 0) := by
  unfold texts; rw [if_neg h, hg, hn]

end Go.Proofs.Ytfjgfabochiflaa.H14
