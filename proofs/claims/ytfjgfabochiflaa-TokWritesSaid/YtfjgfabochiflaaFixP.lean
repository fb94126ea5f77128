/- What a text's characters are, by the document's definition, is what the model's own decoding says: plain, no program. No conditions. -/
import Derived.Lib.RuneBytes
namespace Go.Proofs.Ytfjgfabochiflaa

/-- the number that bytes behind the first one make of c; -1: they can't be -/
def moreF (g : Nat → Nat) (k0 : Nat) : Nat → Nat → Int → Int
  | 0, _, c => c
  | k + 1, i, c => if g (k0 + i) < 128 ∨ 191 < g (k0 + i) then -1 else moreF g k0 k (i + 1) (c * 64 + (g (k0 + i) : Int) - 128)

def headC (b : Int) (n : Nat) : Int := if n = 2 then b - 192 else if n = 3 then b - 224 else if n = 4 then b - 240 else b
def moreC (g : Nat → Nat) (N k0 n : Nat) : Int := if N < k0 + n then -1 else moreF g k0 (n - 1) 1 (headC (g k0) n)
def isC (c : Int) : Bool := decide (0 ≤ c) && decide (c ≤ 1114111) && !(decide (55296 ≤ c) && decide (c ≤ 57343))
def putZ (c : Int) : List Int := if isC c then Lib.encodeRuneZ c else []
def rowZ (g : Nat → Nat) (k0 : Nat) : Nat → List Int
  | 0 => []
  | n + 1 => (g k0 : Int) :: rowZ g (k0 + 1) n
def hitC (g : Nat → Nat) (N k0 n : Nat) : Bool := isC (moreC g N k0 n) && decide (putZ (moreC g N k0 n) = rowZ g k0 n)
def nextC (g : Nat → Nat) (N k0 : Nat) : Int × Nat :=
  if hitC g N k0 1 then (moreC g N k0 1, 1) else if hitC g N k0 2 then (moreC g N k0 2, 2)
  else if hitC g N k0 3 then (moreC g N k0 3, 3) else if hitC g N k0 4 then (moreC g N k0 4, 4) else (65533, 1)

theorem isC_iff (c : Int) : isC c = true ↔ 0 ≤ c ∧ c ≤ 1114111 ∧ ¬ (55296 ≤ c ∧ c ≤ 57343) := by
  simp [isC, and_assoc, Bool.and_eq_true]
  omega

theorem putZ_one {c : Int} (h0 : 0 ≤ c) (h1 : c ≤ 127) : putZ c = [c] := by
  have : isC c = true := (isC_iff c).2 ⟨h0, by omega, by omega⟩
  simp only [putZ, if_pos this, Lib.encodeRuneZ_one h0 h1]
theorem putZ_two {c : Int} (h0 : 128 ≤ c) (h1 : c ≤ 2047) : putZ c = [192 + c / 64, 128 + c % 64] := by
  have : isC c = true := (isC_iff c).2 ⟨by omega, by omega, by omega⟩
  simp only [putZ, if_pos this, Lib.encodeRuneZ_two h0 h1]
theorem putZ_three {c : Int} (h : (2048 ≤ c ∧ c < 55296) ∨ (57343 < c ∧ c ≤ 65535)) : putZ c = [224 + c / 4096, 128 + c / 64 % 64, 128 + c % 64] := by
  have : isC c = true := (isC_iff c).2 ⟨by omega, by omega, by omega⟩
  simp only [putZ, if_pos this, Lib.encodeRuneZ_three h]
theorem putZ_four {c : Int} (h0 : 65536 ≤ c) (h1 : c ≤ 1114111) : putZ c = [240 + c / 262144, 128 + c / 4096 % 64, 128 + c / 64 % 64, 128 + c % 64] := by
  have : isC c = true := (isC_iff c).2 ⟨by omega, by omega, by omega⟩
  simp only [putZ, if_pos this, Lib.encodeRuneZ_four h0 h1]

/-- how many bytes a character takes -/
theorem putZ_len {c : Int} (h : isC c = true) : (putZ c).length = if c ≤ 127 then 1 else if c ≤ 2047 then 2 else if c ≤ 65535 then 3 else 4 := by
  obtain ⟨h0, h1, h2⟩ := (isC_iff c).1 h
  by_cases a : c ≤ 127
  · rw [putZ_one h0 a, if_pos a]; rfl
  · by_cases b : c ≤ 2047
    · rw [putZ_two (by omega) b, if_neg a, if_pos b]; rfl
    · by_cases d : c ≤ 65535
      · rw [putZ_three (by omega), if_neg a, if_neg b, if_pos d]; rfl
      · rw [putZ_four (by omega) h1, if_neg a, if_neg b, if_neg d]; rfl

theorem rowZ_length (g : Nat → Nat) (k0 n : Nat) : (rowZ g k0 n).length = n := by
  induction n generalizing k0 with
  | zero => rfl
  | succ n ih => simp [rowZ, ih]

theorem hit_one (g : Nat → Nat) (N k0 : Nat) (h : k0 < N) (hb : g k0 < 256) : hitC g N k0 1 = decide (g k0 < 128) := by
  have hm : moreC g N k0 1 = (g k0 : Int) := by
    unfold moreC; rw [if_neg (by omega)]; rfl
  have hi : isC (g k0 : Int) = true := (isC_iff _).2 ⟨by omega, by omega, by omega⟩
  unfold hitC; rw [hm, hi, Bool.true_and]
  by_cases a : g k0 < 128
  · rw [putZ_one (by omega) (by omega)]; simp [rowZ, a]
  · have : putZ (g k0 : Int) ≠ rowZ g k0 1 := by
      intro e
      have := congrArg List.length e
      rw [putZ_len hi, rowZ_length, if_neg (by omega)] at this
      split at this
      · omega
      · split at this <;> omega
    simp [this, a]

def cont (g : Nat → Nat) (N j : Nat) : Bool := decide (j < N) && decide (g j / 64 = 2)

theorem hit_no {g : Nat → Nat} {N k0 n : Nat} (h : moreC g N k0 n = -1) : hitC g N k0 n = false := by
  unfold hitC; rw [h]; rfl

theorem hit_len {g : Nat → Nat} {N k0 n : Nat} {c : Int} (h : moreC g N k0 n = c) (hc : 0 ≤ c → c ≤ 1114111 → (if c ≤ 127 then 1 else if c ≤ 2047 then 2 else if c ≤ 65535 then 3 else 4) ≠ n) : hitC g N k0 n = false := by
  unfold hitC; rw [h]
  by_cases hi : isC c = true
  · have : putZ c ≠ rowZ g k0 n := by
      intro e
      have hl := congrArg List.length e
      obtain ⟨i0, i1, i2⟩ := (isC_iff _).1 hi
      rw [putZ_len hi, rowZ_length] at hl
      exact hc i0 i1 hl
    simp [this]
  · simp [hi]

theorem hit_bad {g : Nat → Nat} {N k0 n : Nat} {c : Int} (h : moreC g N k0 n = c) (hc : isC c = false) : hitC g N k0 n = false := by
  unfold hitC; rw [h, hc]; rfl

theorem cont_no {g : Nat → Nat} {N j : Nat} (h : g j < 128 ∨ 191 < g j) : cont g N j = false := by
  have h2 : ¬ g j / 64 = 2 := by omega
  simp [cont, h2]
theorem cont_out {g : Nat → Nat} {N j : Nat} (h : N ≤ j) : cont g N j = false := by
  have h2 : ¬ j < N := by omega
  simp [cont, h2]
theorem cont_yes {g : Nat → Nat} {N j : Nat} (h : j < N) (h1 : ¬ (g j < 128 ∨ 191 < g j)) : cont g N j = true := by
  have h2 : g j / 64 = 2 := by omega
  simp [cont, h2, h]

theorem hit_two (g : Nat → Nat) (N k0 : Nat) (hb : g k0 < 256) :
    hitC g N k0 2 = (cont g N (k0 + 1) && decide (194 ≤ g k0) && decide (g k0 < 224)) ∧ (hitC g N k0 2 = true → moreC g N k0 2 = ((g k0 % 32 * 64 + g (k0 + 1) % 64 : Nat) : Int)) := by
  by_cases hN : N ≤ k0 + 1
  · have := hit_no (g := g) (N := N) (k0 := k0) (n := 2) (by unfold moreC; rw [if_pos (by omega)])
    rw [this, cont_out hN]; simp
  by_cases hc : g (k0 + 1) < 128 ∨ 191 < g (k0 + 1)
  · have := hit_no (g := g) (N := N) (k0 := k0) (n := 2) (by unfold moreC; rw [if_neg (by omega)]; simp only [moreF, if_pos hc])
    rw [this, cont_no hc]; simp
  have hm : moreC g N k0 2 = ((g k0 : Int) - 192) * 64 + (g (k0 + 1) : Int) - 128 := by unfold moreC; rw [if_neg (by omega)]; simp only [moreF, if_neg hc, headC, if_true]
  rw [cont_yes (by omega) hc, Bool.true_and]
  by_cases a : 194 ≤ g k0 ∧ g k0 < 224
  · have e : hitC g N k0 2 = true := by
      unfold hitC; rw [hm]
      have hi : isC (((g k0 : Int) - 192) * 64 + (g (k0 + 1) : Int) - 128) = true := (isC_iff _).2 ⟨by omega, by omega, by omega⟩
      rw [hi, Bool.true_and, putZ_two (by omega) (by omega)]
      have e1 : 192 + (((g k0 : Int) - 192) * 64 + (g (k0 + 1) : Int) - 128) / 64 = (g k0 : Int) := by omega
      have e2 : 128 + (((g k0 : Int) - 192) * 64 + (g (k0 + 1) : Int) - 128) % 64 = (g (k0 + 1) : Int) := by omega
      rw [e1, e2]; simp [rowZ]
    refine ⟨by rw [e]; simp [a.1, a.2], fun _ => ?_⟩
    rw [hm]; omega
  · have e := hit_len hm (by intro x y; split; · omega
                             split
                             · omega
                             split <;> omega)
    rw [e]; refine ⟨?_, fun x => by simp at x⟩
    by_cases b : 194 ≤ g k0
    · have : ¬ g k0 < 224 := fun x => a ⟨b, x⟩
      simp [this]
    · simp [b]

theorem hit_three (g : Nat → Nat) (N k0 : Nat) (hb : g k0 < 256) :
    hitC g N k0 3 = (cont g N (k0 + 1) && cont g N (k0 + 2) && decide (g k0 / 16 = 14) && decide (2048 ≤ g k0 % 16 * 4096 + g (k0 + 1) % 64 * 64 + g (k0 + 2) % 64) && Utf8.valid ((g k0 % 16 * 4096 + g (k0 + 1) % 64 * 64 + g (k0 + 2) % 64 : Nat) : Int)) ∧ (hitC g N k0 3 = true → moreC g N k0 3 = ((g k0 % 16 * 4096 + g (k0 + 1) % 64 * 64 + g (k0 + 2) % 64 : Nat) : Int)) := by
  by_cases hN : N ≤ k0 + 2
  · have := hit_no (g := g) (N := N) (k0 := k0) (n := 3) (by unfold moreC; rw [if_pos (by omega)])
    rw [this, cont_out hN]; simp
  by_cases hc : g (k0 + 1) < 128 ∨ 191 < g (k0 + 1)
  · have := hit_no (g := g) (N := N) (k0 := k0) (n := 3) (by unfold moreC; rw [if_neg (by omega)]; simp only [moreF, if_pos hc])
    rw [this, cont_no hc]; simp
  by_cases hd : g (k0 + 2) < 128 ∨ 191 < g (k0 + 2)
  · have := hit_no (g := g) (N := N) (k0 := k0) (n := 3) (by unfold moreC; rw [if_neg (by omega)]; simp only [moreF, if_neg hc]; simp only [Nat.reduceAdd, if_pos hd])
    rw [this, cont_no hd]; simp
  have hm : moreC g N k0 3 = (((g k0 : Int) - 224) * 64 + (g (k0 + 1) : Int) - 128) * 64 + (g (k0 + 2) : Int) - 128 := by unfold moreC; rw [if_neg (by omega)]; simp only [moreF, if_neg hc, Nat.reduceAdd, if_neg hd, headC, if_true, Nat.reduceEqDiff, if_false]
  rw [cont_yes (by omega) hc, cont_yes (by omega) hd, Bool.true_and, Bool.true_and]
  by_cases a : g k0 / 16 = 14
  · have hm2 : moreC g N k0 3 = ((g k0 % 16 * 4096 + g (k0 + 1) % 64 * 64 + g (k0 + 2) % 64 : Nat) : Int) := by rw [hm]; omega
    obtain ⟨c, hcc⟩ : ∃ c : Nat, c = g k0 % 16 * 4096 + g (k0 + 1) % 64 * 64 + g (k0 + 2) % 64 := ⟨_, rfl⟩
    rw [← hcc] at hm2 ⊢
    refine ⟨?_, fun _ => hm2⟩
    have hc16 : c < 65536 := by omega
    by_cases b : 2048 ≤ c
    · by_cases v : Utf8.valid (c : Int) = true
      · have hv : ¬ (55296 ≤ c ∧ c ≤ 57343) := by
          intro x; simp [Utf8.valid] at v; omega
        have e : hitC g N k0 3 = true := by
          unfold hitC; rw [hm2]
          have hi : isC (c : Int) = true := (isC_iff _).2 ⟨by omega, by omega, by omega⟩
          rw [hi, Bool.true_and, putZ_three (by omega)]
          have e1 : 224 + (c : Int) / 4096 = (g k0 : Int) := by omega
          have e2 : 128 + (c : Int) / 64 % 64 = (g (k0 + 1) : Int) := by omega
          have e3 : 128 + (c : Int) % 64 = (g (k0 + 2) : Int) := by omega
          rw [e1, e2, e3]; simp [rowZ]
        rw [e]; simp [a, b, v]
      · have e := hit_bad hm2 (by
          have : ¬ isC (c : Int) = true := by
            intro x; obtain ⟨x0, x1, x2⟩ := (isC_iff _).1 x
            apply v; simp [Utf8.valid]; omega
          simpa using this)
        rw [e]; simp [v]
    · have e := hit_len hm2 (by intro x y; split; · omega
                                split
                                · omega
                                split <;> omega)
      rw [e]; simp [b]
  · have e := hit_len hm (by intro x y; split; · omega
                             split
                             · omega
                             split <;> omega)
    rw [e]; refine ⟨by simp [a], fun x => by simp at x⟩

theorem hit_four (g : Nat → Nat) (N k0 : Nat) :
    hitC g N k0 4 = (cont g N (k0 + 1) && cont g N (k0 + 2) && cont g N (k0 + 3) && decide (g k0 / 8 = 30) && decide (65536 ≤ g k0 % 8 * 262144 + g (k0 + 1) % 64 * 4096 + g (k0 + 2) % 64 * 64 + g (k0 + 3) % 64) && Utf8.valid ((g k0 % 8 * 262144 + g (k0 + 1) % 64 * 4096 + g (k0 + 2) % 64 * 64 + g (k0 + 3) % 64 : Nat) : Int)) ∧ (hitC g N k0 4 = true → moreC g N k0 4 = ((g k0 % 8 * 262144 + g (k0 + 1) % 64 * 4096 + g (k0 + 2) % 64 * 64 + g (k0 + 3) % 64 : Nat) : Int)) := by
  by_cases hN : N ≤ k0 + 3
  · have := hit_no (g := g) (N := N) (k0 := k0) (n := 4) (by unfold moreC; rw [if_pos (by omega)])
    rw [this, cont_out hN]; simp
  by_cases hc : g (k0 + 1) < 128 ∨ 191 < g (k0 + 1)
  · have := hit_no (g := g) (N := N) (k0 := k0) (n := 4) (by unfold moreC; rw [if_neg (by omega)]; simp only [moreF, if_pos hc])
    rw [this, cont_no hc]; simp
  by_cases hd : g (k0 + 2) < 128 ∨ 191 < g (k0 + 2)
  · have := hit_no (g := g) (N := N) (k0 := k0) (n := 4) (by unfold moreC; rw [if_neg (by omega)]; simp only [moreF, if_neg hc]; simp only [Nat.reduceAdd, if_pos hd])
    rw [this, cont_no hd]; simp
  by_cases hf : g (k0 + 3) < 128 ∨ 191 < g (k0 + 3)
  · have := hit_no (g := g) (N := N) (k0 := k0) (n := 4) (by unfold moreC; rw [if_neg (by omega)]; simp only [moreF, if_neg hc]; simp only [Nat.reduceAdd, if_neg hd, if_pos hf])
    rw [this, cont_no hf]; simp
  have hm : moreC g N k0 4 = ((((g k0 : Int) - 240) * 64 + (g (k0 + 1) : Int) - 128) * 64 + (g (k0 + 2) : Int) - 128) * 64 + (g (k0 + 3) : Int) - 128 := by unfold moreC; rw [if_neg (by omega)]; simp only [moreF, if_neg hc, Nat.reduceAdd, if_neg hd, if_neg hf, headC, if_true, Nat.reduceEqDiff, if_false]
  rw [cont_yes (by omega) hc, cont_yes (by omega) hd, cont_yes (by omega) hf, Bool.true_and, Bool.true_and, Bool.true_and]
  by_cases a : g k0 / 8 = 30
  · have hm2 : moreC g N k0 4 = ((g k0 % 8 * 262144 + g (k0 + 1) % 64 * 4096 + g (k0 + 2) % 64 * 64 + g (k0 + 3) % 64 : Nat) : Int) := by rw [hm]; omega
    obtain ⟨c, hcc⟩ : ∃ c : Nat, c = g k0 % 8 * 262144 + g (k0 + 1) % 64 * 4096 + g (k0 + 2) % 64 * 64 + g (k0 + 3) % 64 := ⟨_, rfl⟩
    rw [← hcc] at hm2 ⊢
    refine ⟨?_, fun _ => hm2⟩
    by_cases b : 65536 ≤ c
    · by_cases v : Utf8.valid (c : Int) = true
      · have hv : c ≤ 1114111 := by
          simp [Utf8.valid] at v; omega
        have e : hitC g N k0 4 = true := by
          unfold hitC; rw [hm2]
          have hi : isC (c : Int) = true := (isC_iff _).2 ⟨by omega, by omega, by omega⟩
          rw [hi, Bool.true_and, putZ_four (by omega) (by omega)]
          have e1 : 240 + (c : Int) / 262144 = (g k0 : Int) := by omega
          have e2 : 128 + (c : Int) / 4096 % 64 = (g (k0 + 1) : Int) := by omega
          have e3 : 128 + (c : Int) / 64 % 64 = (g (k0 + 2) : Int) := by omega
          have e4 : 128 + (c : Int) % 64 = (g (k0 + 3) : Int) := by omega
          rw [e1, e2, e3, e4]; simp [rowZ]
        rw [e]; simp [a, b, v]
      · have e := hit_bad hm2 (by
          have : ¬ isC (c : Int) = true := by
            intro x; obtain ⟨x0, x1, x2⟩ := (isC_iff _).1 x
            apply v; simp [Utf8.valid]; omega
          simpa using this)
        rw [e]; simp [v]
    · have e := hit_len hm2 (by intro x y; split; · omega
                                split
                                · omega
                                split <;> omega)
      rw [e]; simp [b]
  · have e := hit_len hm (by intro x y; split; · omega
                             split
                             · omega
                             split <;> omega)
    rw [e]; refine ⟨by simp [a], fun x => by simp at x⟩

theorem beq_dec (a b : Nat) : (a == b) = decide (a = b) := by
  by_cases h : a = b <;> simp [h]

set_option linter.unusedSimpArgs false in
set_option maxRecDepth 100000 in
theorem next_core (b0 b1 C3 C4 : Nat) (c1 c2 c3 : Bool) (x2 x3 x4 : Int)
    (v2 : (c1 && decide (194 ≤ b0) && decide (b0 < 224)) = true → x2 = ((b0 % 32 * 64 + b1 % 64 : Nat) : Int))
    (v3 : (c1 && c2 && decide (b0 / 16 = 14) && decide (2048 ≤ C3) && Utf8.valid (C3 : Int)) = true → x3 = (C3 : Int))
    (v4 : (c1 && c2 && c3 && decide (b0 / 8 = 30) && decide (65536 ≤ C4) && Utf8.valid (C4 : Int)) = true → x4 = (C4 : Int))
    (D : Nat × Nat) (hD : D = if b0 < 128 then (b0, 1)
      else if (decide (b0 / 32 = 6) && c1) = true then (if b0 % 32 * 64 + b1 % 64 ≥ 128 then (b0 % 32 * 64 + b1 % 64, 2) else (Utf8.runeError, 1))
      else if (decide (b0 / 16 = 14) && c1 && c2) = true then (if (decide (C3 ≥ 2048) && Utf8.valid (C3 : Int)) = true then (C3, 3) else (Utf8.runeError, 1))
      else if (decide (b0 / 8 = 30) && c1 && c2 && c3) = true then (if (decide (C4 ≥ 65536) && Utf8.valid (C4 : Int)) = true then (C4, 4) else (Utf8.runeError, 1))
      else (Utf8.runeError, 1)) :
    (if decide (b0 < 128) = true then ((b0 : Int), 1) else if (c1 && decide (194 ≤ b0) && decide (b0 < 224)) = true then (x2, 2)
      else if (c1 && c2 && decide (b0 / 16 = 14) && decide (2048 ≤ C3) && Utf8.valid (C3 : Int)) = true then (x3, 3)
      else if (c1 && c2 && c3 && decide (b0 / 8 = 30) && decide (65536 ≤ C4) && Utf8.valid (C4 : Int)) = true then (x4, 4)
      else ((65533 : Int), 1)) = ((D.1 : Int), D.2) := by
  subst hD
  by_cases a1 : b0 < 128
  · simp [a1]
  have d1 : decide (b0 < 128) = false := decide_eq_false a1
  have e65 : ((Utf8.runeError : Nat) : Int) = 65533 := rfl
  by_cases a2 : b0 / 32 = 6
  · have n3 : ¬ b0 / 16 = 14 := by omega
    have n4 : ¬ b0 / 8 = 30 := by omega
    have q2 : b0 < 224 := by omega
    cases c1 with
    | false => simp [a1, a2, n3, n4, e65]
    | true =>
      by_cases r : 128 ≤ b0 % 32 * 64 + b1 % 64
      · by_cases q : 194 ≤ b0
        · have := v2 (by simp [q, q2])
          simp [a1, a2, q, q2, r, this]
        · exact absurd r (by omega)
      · have q : ¬ 194 ≤ b0 := by omega
        simp [a1, a2, n3, n4, q, r, e65]
  · have q : (decide (194 ≤ b0) && decide (b0 < 224)) = false := by
      simp; omega
    have q' : (c1 && decide (194 ≤ b0) && decide (b0 < 224)) = false := by rw [Bool.and_assoc, q, Bool.and_false]
    rw [q']
    have d2 : decide (b0 / 32 = 6) = false := decide_eq_false a2
    rw [d2]
    by_cases a3 : b0 / 16 = 14
    · have n4 : ¬ b0 / 8 = 30 := by omega
      cases c1 with
      | false => simp [a1, n4, e65]
      | true =>
        cases c2 with
        | false => simp [a1, n4, e65]
        | true =>
          by_cases r : 2048 ≤ C3
          · cases v : Utf8.valid (C3 : Int) with
            | true =>
              rw [v] at v3
              have := v3 (by simp [a3, r])
              simp only [decide_eq_true a3, decide_eq_true r, ge_iff_le, Bool.and_self, if_true, if_neg a1, this, Bool.false_and, Bool.and_false, Bool.and_true, Bool.true_and, d1, reduceIte, Bool.false_eq_true, if_false, decide_eq_false n4]
            | false =>
              simp only [decide_eq_true a3, decide_eq_true r, ge_iff_le, Bool.and_self, if_true, if_neg a1, Bool.false_and, Bool.and_false, Bool.and_true, Bool.true_and, d1, reduceIte, Bool.false_eq_true, if_false, decide_eq_false n4, e65]
          · simp only [decide_eq_true a3, decide_eq_false r, ge_iff_le, Bool.and_self, if_true, if_neg a1, Bool.false_and, Bool.and_false, Bool.and_true, Bool.true_and, d1, reduceIte, Bool.false_eq_true, if_false, decide_eq_false n4, e65]
    · have d3 := decide_eq_false a3
      rw [d3]
      by_cases a4 : b0 / 8 = 30
      · cases c1 with
        | false => simp [a1, e65]
        | true =>
          cases c2 with
          | false => simp [a1, e65]
          | true =>
            cases c3 with
            | false => simp [a1, e65]
            | true =>
              by_cases r : 65536 ≤ C4
              · cases v : Utf8.valid (C4 : Int) with
                | true =>
                  rw [v] at v4
                  have := v4 (by simp [a4, r])
                  simp only [decide_eq_true a4, decide_eq_true r, ge_iff_le, Bool.and_self, if_true, if_neg a1, this, Bool.false_and, Bool.and_false, Bool.and_true, Bool.true_and, d1, reduceIte, Bool.false_eq_true, if_false]
                | false =>
                  simp only [decide_eq_true a4, decide_eq_true r, ge_iff_le, Bool.and_self, if_true, if_neg a1, Bool.false_and, Bool.and_false, Bool.and_true, Bool.true_and, d1, reduceIte, Bool.false_eq_true, if_false, e65]
              · simp only [decide_eq_true a4, decide_eq_false r, ge_iff_le, Bool.and_self, if_true, if_neg a1, Bool.false_and, Bool.and_false, Bool.and_true, Bool.true_and, d1, reduceIte, Bool.false_eq_true, if_false, e65]
      · simp [a1, a4, e65]

theorem decode_def (s : ByteArray) (k0 : Nat) : Utf8.decode s k0 = (let b0 := (s.get! k0).toNat; let b1 := (s.get! (k0 + 1)).toNat; let b2 := (s.get! (k0 + 2)).toNat; let b3 := (s.get! (k0 + 3)).toNat
    let c1 := cont (fun k => (s.get! k).toNat) s.size (k0 + 1); let c2 := cont (fun k => (s.get! k).toNat) s.size (k0 + 2); let c3 := cont (fun k => (s.get! k).toNat) s.size (k0 + 3)
    if b0 < 128 then (b0, 1)
      else if (decide (b0 / 32 = 6) && c1) = true then (if b0 % 32 * 64 + b1 % 64 ≥ 128 then (b0 % 32 * 64 + b1 % 64, 2) else (Utf8.runeError, 1))
      else if (decide (b0 / 16 = 14) && c1 && c2) = true then (if (decide (b0 % 16 * 4096 + b1 % 64 * 64 + b2 % 64 ≥ 2048) && Utf8.valid ((b0 % 16 * 4096 + b1 % 64 * 64 + b2 % 64 : Nat) : Int)) = true then (b0 % 16 * 4096 + b1 % 64 * 64 + b2 % 64, 3) else (Utf8.runeError, 1))
      else if (decide (b0 / 8 = 30) && c1 && c2 && c3) = true then (if (decide (b0 % 8 * 262144 + b1 % 64 * 4096 + b2 % 64 * 64 + b3 % 64 ≥ 65536) && Utf8.valid ((b0 % 8 * 262144 + b1 % 64 * 4096 + b2 % 64 * 64 + b3 % 64 : Nat) : Int)) = true then (b0 % 8 * 262144 + b1 % 64 * 4096 + b2 % 64 * 64 + b3 % 64, 4) else (Utf8.runeError, 1))
      else (Utf8.runeError, 1)) := by
  unfold Utf8.decode
  simp only [cont, beq_dec, Nat.add_zero]
  try rfl

/-- THE LAW: the character at a place, by the definition, is what the model decodes there. -/
theorem next_decode (s : ByteArray) (k0 : Nat) (h : k0 < s.size) :
    nextC (fun k => (s.get! k).toNat) s.size k0 = (((Utf8.decode s k0).1 : Int), (Utf8.decode s k0).2) := by
  have hlt : ∀ k, (s.get! k).toNat < 256 := fun k => (s.get! k).toNat_lt
  have h1 := hit_one (fun k => (s.get! k).toNat) s.size k0 h (hlt k0)
  have h2 := hit_two (fun k => (s.get! k).toNat) s.size k0 (hlt k0)
  have h3 := hit_three (fun k => (s.get! k).toNat) s.size k0 (hlt k0)
  have h4 := hit_four (fun k => (s.get! k).toNat) s.size k0
  have m1 : moreC (fun k => (s.get! k).toNat) s.size k0 1 = ((s.get! k0).toNat : Int) := by
    unfold moreC; rw [if_neg (by omega)]; rfl
  unfold nextC
  rw [h1, h2.1, h3.1, h4.1, m1]
  exact next_core _ _ _ _ _ _ _ _ _ _ (fun x => h2.2 (h2.1.trans x)) (fun x => h3.2 (h3.1.trans x)) (fun x => h4.2 (h4.1.trans x)) _ (decode_def s k0)

end Go.Proofs.Ytfjgfabochiflaa
