/- What an expression takes, by its tree. Plain. -/
import Derived.Test.YtpeoomdfopjlmaaFrag
import Derived.Test.YtpeoomdfopjlmaaSize
namespace Go.Proofs.Ytpeoomdfopjlmaa
open Go.RowKit

def setL (s : ByteArray) (t : Tr) : Lg := fun i j => i < s.size ∧ hasB t.s0 t.s1 t.s2 t.s3 (byteAt s i) = true ∧ j = i + 1
def catL (l : List Lg) : Lg := l.foldl seqL (fun i j => j = i)
def altL (l : List Lg) : Lg := fun i j => ∃ L ∈ l, L i j
/-- from which place to which, of a text -/
def Tr.lang (s : ByteArray) (t : Tr) : Lg :=
  if t.kind = 1 then setL s t
  else if t.kind = 2 then catL (t.kids.attach.map (fun k => k.1.lang s))
  else if t.kind = 3 then altL (t.kids.attach.map (fun k => k.1.lang s))
  else repL ((t.kids.attach.map (fun k => k.1.lang s)).getD 0 (fun _ _ => False)) t.lo t.hi
termination_by SizeOf.sizeOf t
decreasing_by all_goals exact Tr.size_kid k.2
theorem attach_map {α : Type} (l : List Tr) (g : Tr → α) : l.attach.map (fun k => g k.1) = l.map g := by simp
theorem lang_set {s : ByteArray} {t : Tr} (h : t.kind = 1) : t.lang s = setL s t := by rw [Tr.lang, if_pos h]
theorem lang_cat {s : ByteArray} {t : Tr} (h : t.kind = 2) : t.lang s = catL (t.kids.map (Tr.lang s)) := by
  rw [Tr.lang, if_neg (by omega), if_pos h, attach_map t.kids (Tr.lang s)]
theorem lang_alt {s : ByteArray} {t : Tr} (h : t.kind = 3) : t.lang s = altL (t.kids.map (Tr.lang s)) := by
  rw [Tr.lang, if_neg (by omega), if_neg (by omega), if_pos h, attach_map t.kids (Tr.lang s)]
theorem lang_rep {s : ByteArray} {t : Tr} (h : t.kind = 4) (hn : t.kids.length = 1) : t.lang s = repL ((t.kids.getD 0 noTr).lang s) t.lo t.hi := by
  rw [Tr.lang, if_neg (by omega), if_neg (by omega), if_neg (by omega), attach_map t.kids (Tr.lang s)]
  congr 1
  simp [hn]
theorem catL_snoc (l : List Lg) (L : Lg) : catL (l ++ [L]) = seqL (catL l) L := by simp [catL]
theorem catK_snoc (s : ByteArray) (l : List Tr) (k : Tr) : catL ((l ++ [k]).map (Tr.lang s)) = seqL (catL (l.map (Tr.lang s))) (k.lang s) := by
  rw [List.map_append]; exact catL_snoc _ _
theorem altK_snoc (s : ByteArray) (l : List Tr) (k : Tr) (i j : Nat) : altL ((l ++ [k]).map (Tr.lang s)) i j ↔ altL (l.map (Tr.lang s)) i j ∨ k.lang s i j := by
  unfold altL
  simp only [List.map_append, List.mem_append, List.map_cons, List.map_nil, List.mem_singleton]
  constructor
  · rintro ⟨L, h1 | h1, h2⟩
    · exact .inl ⟨L, h1, h2⟩
    · subst h1; exact .inr h2
  · rintro (⟨L, h1, h2⟩ | h2)
    · exact ⟨L, .inl h1, h2⟩
    · exact ⟨_, .inr rfl, h2⟩
theorem powL_add (K : Lg) (a b : Nat) (i j : Nat) : powL K (a + b) i j ↔ seqL (powL K a) (powL K b) i j := by
  induction b generalizing j with
  | zero =>
    constructor
    · exact fun h => ⟨j, h, rfl⟩
    · rintro ⟨k, h1, h2⟩
      have h2 : j = k := h2
      subst h2
      exact h1
  | succ b ih =>
    constructor
    · rintro ⟨k, h1, h2⟩
      obtain ⟨m, h3, h4⟩ := (ih k).1 h1
      exact ⟨m, h3, k, h4, h2⟩
    · rintro ⟨m, h3, k, h4, h2⟩
      exact ⟨k, (ih k).2 ⟨m, h3, h4⟩, h2⟩
/-- at least lo times: lo - 1 (or none) ahead, and the last one round -/
theorem rep_open {K : Lg} {lo hi : Int} {c : Nat} (hl : 0 ≤ lo) (hh : hi < 0) (hc : (c : Int) = max (lo - 1) 0) (i j : Nat) :
    seqL (powL K c) (fun i j => ∃ d : Nat, (if decide (lo = 0) = true then 0 else 1) ≤ d ∧ powL K d i j) i j ↔ repL K lo hi i j := by
  constructor
  · rintro ⟨k, h1, d, hd, h2⟩
    refine ⟨c + d, ?_, .inl hh, (powL_add K c d i j).2 ⟨k, h1, h2⟩⟩
    by_cases h0 : lo = 0
    · omega
    · rw [if_neg (by simpa using h0)] at hd
      omega
  · rintro ⟨d, h1, _, h2⟩
    have hcd : c ≤ d := by omega
    rw [show d = c + (d - c) by omega] at h2
    obtain ⟨k, h3, h4⟩ := (powL_add K c (d - c) i j).1 h2
    refine ⟨k, h3, d - c, ?_, h4⟩
    by_cases h0 : lo = 0
    · rw [if_pos (by simpa using h0)]; omega
    · rw [if_neg (by simpa using h0)]; omega
/-- from lo to hi times -/
theorem rep_shut {K : Lg} {lo hi : Int} {a b : Nat} (ha : (a : Int) = lo) (hb : (b : Int) = hi) (hab : a ≤ b) (i j : Nat) :
    ((∃ c : Nat, a ≤ c ∧ c < b ∧ powL K c i j) ∨ powL K b i j) ↔ repL K lo hi i j := by
  constructor
  · rintro (⟨c, h1, h2, h3⟩ | h3)
    · exact ⟨c, by omega, .inr (by omega), h3⟩
    · exact ⟨b, by omega, .inr (by omega), h3⟩
  · rintro ⟨c, h1, h2, h3⟩
    by_cases hc : c = b
    · subst hc; exact .inr h3
    · exact .inl ⟨c, by omega, by omega, h3⟩

/-- what part leaves: states S', edges E', all is well or not -/
structure Grew (t : Tr) (f o S : Nat) (E : List Ed) (S' : Nat) (E' : List Ed) (bad : Bool) : Prop where
  lo : S ≤ S'
  hi : S' ≤ 2000
  few : E'.length ≤ E.length + 4 * (t.nodes * (1 + (S' - S)))
  full : bad = true → S' = 2000 ∧ 2004 < S + 2 * t.size
  room : bad = false → S' + 4 ≤ S + 2 * t.size ∧ E'.length + 3 ≤ E.length + 2 * t.size
  good : bad = false → ∃ N, E' = E ++ N ∧ (∀ e ∈ N, U64w e.s0 ∧ U64w e.s1 ∧ U64w e.s2 ∧ U64w e.s3) ∧ ∀ s, Frag s (t.lang s) f o S S' N
end Go.Proofs.Ytpeoomdfopjlmaa
