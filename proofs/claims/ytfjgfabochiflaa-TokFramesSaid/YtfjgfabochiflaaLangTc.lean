/- Lang, Grow, GrowR of this seat, in one text. -/
import Derived.Test.YtfjgfabochiflaaNfaTc
import Derived.Test.YtfjgfabochiflaaNodesTc
/- What an expression takes, by its tree. Plain. -/
namespace Go.Proofs.Ytfjgfabochiflaa
open Go.RowKit

def setL (s : ByteArray) (t : Tr) : Lg := fun i j => i < s.size ∧ hasB t.s0 t.s1 t.s2 t.s3 (byteAt s i) = true ∧ j = i + 1
def catL (l : List Lg) : Lg := l.foldl seqL (fun i j => j = i)
def altL (l : List Lg) : Lg := fun i j => ∃ L ∈ l, L i j
/-- from which place to which, of a text -/
def Tr.lang (s : ByteArray) (t : Tr) : Lg :=
  if t.kind = 1 then setL s t
  else if t.kind = 2 then catL (t.kids.attach.map (fun k => k.1.lang s))
  else if t.kind = 3 then altL (t.kids.attach.map (fun k => k.1.lang s))
  else repL ((t.kids.attach.map (fun k => k.1.lang s)).getD 0 (fun _ _ => False)) t.lo t.hi
termination_by SizeOf.sizeOf t
decreasing_by all_goals exact Tr.size_kid k.2
theorem attach_map {α : Type} (l : List Tr) (g : Tr → α) : l.attach.map (fun k => g k.1) = l.map g := by simp
theorem lang_set {s : ByteArray} {t : Tr} (h : t.kind = 1) : t.lang s = setL s t := by rw [Tr.lang, if_pos h]
theorem lang_cat {s : ByteArray} {t : Tr} (h : t.kind = 2) : t.lang s = catL (t.kids.map (Tr.lang s)) := by
  rw [Tr.lang, if_neg (by omega), if_pos h, attach_map t.kids (Tr.lang s)]
theorem lang_alt {s : ByteArray} {t : Tr} (h : t.kind = 3) : t.lang s = altL (t.kids.map (Tr.lang s)) := by
  rw [Tr.lang, if_neg (by omega), if_neg (by omega), if_pos h, attach_map t.kids (Tr.lang s)]
theorem lang_rep {s : ByteArray} {t : Tr} (h : t.kind = 4) (hn : t.kids.length = 1) : t.lang s = repL ((t.kids.getD 0 noTr).lang s) t.lo t.hi := by
  rw [Tr.lang, if_neg (by omega), if_neg (by omega), if_neg (by omega), attach_map t.kids (Tr.lang s)]
  congr 1
  simp [hn]
theorem catL_snoc (l : List Lg) (L : Lg) : catL (l ++ [L]) = seqL (catL l) L := by simp [catL]
theorem catK_snoc (s : ByteArray) (l : List Tr) (k : Tr) : catL ((l ++ [k]).map (Tr.lang s)) = seqL (catL (l.map (Tr.lang s))) (k.lang s) := by
  rw [List.map_append]; exact catL_snoc _ _
theorem altK_snoc (s : ByteArray) (l : List Tr) (k : Tr) (i j : Nat) : altL ((l ++ [k]).map (Tr.lang s)) i j ↔ altL (l.map (Tr.lang s)) i j ∨ k.lang s i j := by
  unfold altL
  simp only [List.map_append, List.mem_append, List.map_cons, List.map_nil, List.mem_singleton]
  constructor
  · rintro ⟨L, h1 | h1, h2⟩
    · exact .inl ⟨L, h1, h2⟩
    · subst h1; exact .inr h2
  · rintro (⟨L, h1, h2⟩ | h2)
    · exact ⟨L, .inl h1, h2⟩
    · exact ⟨_, .inr rfl, h2⟩
theorem powL_add (K : Lg) (a b : Nat) (i j : Nat) : powL K (a + b) i j ↔ seqL (powL K a) (powL K b) i j := by
  induction b generalizing j with
  | zero =>
    constructor
    · exact fun h => ⟨j, h, rfl⟩
    · rintro ⟨k, h1, h2⟩
      have h2 : j = k := h2
      subst h2
      exact h1
  | succ b ih =>
    constructor
    · rintro ⟨k, h1, h2⟩
      obtain ⟨m, h3, h4⟩ := (ih k).1 h1
      exact ⟨m, h3, k, h4, h2⟩
    · rintro ⟨m, h3, k, h4, h2⟩
      exact ⟨k, (ih k).2 ⟨m, h3, h4⟩, h2⟩
/-- at least lo times: lo - 1 (or none) ahead, and the last one round -/
theorem rep_open {K : Lg} {lo hi : Int} {c : Nat} (hl : 0 ≤ lo) (hh : hi < 0) (hc : (c : Int) = max (lo - 1) 0) (i j : Nat) :
    seqL (powL K c) (fun i j => ∃ d : Nat, (if decide (lo = 0) = true then 0 else 1) ≤ d ∧ powL K d i j) i j ↔ repL K lo hi i j := by
  constructor
  · rintro ⟨k, h1, d, hd, h2⟩
    refine ⟨c + d, ?_, .inl hh, (powL_add K c d i j).2 ⟨k, h1, h2⟩⟩
    by_cases h0 : lo = 0
    · omega
    · rw [if_neg (by simpa using h0)] at hd
      omega
  · rintro ⟨d, h1, _, h2⟩
    have hcd : c ≤ d := by omega
    rw [show d = c + (d - c) by omega] at h2
    obtain ⟨k, h3, h4⟩ := (powL_add K c (d - c) i j).1 h2
    refine ⟨k, h3, d - c, ?_, h4⟩
    by_cases h0 : lo = 0
    · rw [if_pos (by simpa using h0)]; omega
    · rw [if_neg (by simpa using h0)]; omega
/-- from lo to hi times -/
theorem rep_shut {K : Lg} {lo hi : Int} {a b : Nat} (ha : (a : Int) = lo) (hb : (b : Int) = hi) (hab : a ≤ b) (i j : Nat) :
    ((∃ c : Nat, a ≤ c ∧ c < b ∧ powL K c i j) ∨ powL K b i j) ↔ repL K lo hi i j := by
  constructor
  · rintro (⟨c, h1, h2, h3⟩ | h3)
    · exact ⟨c, by omega, .inr (by omega), h3⟩
    · exact ⟨b, by omega, .inr (by omega), h3⟩
  · rintro ⟨c, h1, h2, h3⟩
    by_cases hc : c = b
    · subst hc; exact .inr h3
    · exact .inl ⟨c, by omega, by omega, h3⟩

/-- what part leaves: states S', edges E', all is well or not -/
structure Grew (t : Tr) (f o S : Nat) (E : List Ed) (S' : Nat) (E' : List Ed) (bad : Bool) : Prop where
  lo : S ≤ S'
  hi : S' ≤ 2000
  few : E'.length ≤ E.length + 4 * (t.nodes * (1 + (S' - S)))
  full : bad = true → S' = 2000 ∧ 2004 < S + 2 * t.size
  room : bad = false → S' + 4 ≤ S + 2 * t.size ∧ E'.length + 3 ≤ E.length + 2 * t.size
  good : bad = false → ∃ N, E' = E ++ N ∧ (∀ e ∈ N, U64w e.s0 ∧ U64w e.s1 ∧ U64w e.s2 ∧ U64w e.s3) ∧ ∀ s, Frag s (t.lang s) f o S S' N
end Go.Proofs.Ytfjgfabochiflaa
/- What the maker's loops have made so far. Plain. -/
namespace Go.Proofs.Ytfjgfabochiflaa
open Go.RowKit

def WfE (N : List Ed) : Prop := ∀ e ∈ N, U64w e.s0 ∧ U64w e.s1 ∧ U64w e.s2 ∧ U64w e.s3
theorem WfE.app {N M : List Ed} (h : WfE N) (k : WfE M) : WfE (N ++ M) := fun e he => by
  rcases List.mem_append.1 he with he | he
  · exact h e he
  · exact k e he
theorem WfE.freeE (a b : Int) : WfE [freeE a b] := fun e he => by
  obtain rfl : e = Ytfjgfabochiflaa.freeE a b := by simpa using he
  simp only [Ytfjgfabochiflaa.freeE, U64w]
  omega
theorem WfE.nil : WfE [] := fun e he => absurd he (by simp)
theorem few_step {x y z a b d1 d2 d : Nat} (h1 : y ≤ x + 4 * (a * (1 + d1))) (h2 : z ≤ y + 4 * (b * (1 + d2))) (hd1 : d1 ≤ d) (hd2 : d2 ≤ d) : z ≤ x + 4 * ((a + b) * (1 + d)) := by
  have h3 : a * (1 + d1) ≤ a * (1 + d) := Nat.mul_le_mul_left a (by omega)
  have h4 : b * (1 + d2) ≤ b * (1 + d) := Nat.mul_le_mul_left b (by omega)
  rw [Nat.add_mul]
  omega
theorem size_one {t : Tr} (h : t.kind ≠ 4) : t.size = sizeL 1 t.kids := by
  rw [Tr.size_eq]
  congr 1
  unfold Tr.times
  rw [if_neg h]
theorem sizeK_next (c : Nat) (l : List Tr) (k : Nat) (h : k < l.length) : sizeL c (l.take (k + 1)) = sizeL c (l.take k) + (l.getD k noTr).size * c := by
  rw [take_next l k noTr h, sizeL_snoc]
theorem nodesK_next (l : List Tr) (k : Nat) (h : k < l.length) : nodesL (l.take (k + 1)) = nodesL (l.take k) + (l.getD k noTr).nodes := by
  rw [take_next l k noTr h, nodesL_snoc]

/-- a set's edge -/
def setE (t : Tr) (f o : Int) : Ed := ⟨f, o, false, t.s0, t.s1, t.s2, t.s3⟩
theorem grew_set {t : Tr} (hk : t.kind = 1) (hw : TrWf t) {f o S : Nat} {E : List Ed} (hfo : f ≠ o) (hS : S ≤ 2000) : Grew t f o S E S (E ++ [setE t f o]) false := by
  have h2 := Tr.size_two t
  have h3 := Tr.nodes_pos t
  refine ⟨Nat.le_refl _, hS, ?_, fun h => (by cases h), fun _ => ⟨by omega, by simp; omega⟩, fun _ => ⟨_, rfl, fun e he => ?_, fun s => ?_⟩⟩
  · have : t.nodes * 1 ≤ t.nodes * (1 + (S - S)) := Nat.mul_le_mul_left _ (by omega)
    simp only [List.length_append, List.length_cons, List.length_nil]
    omega
  · obtain rfl : e = setE t f o := by simpa using he
    cases hw with | mk h0 h1 h2 h3 _ => exact ⟨h0, h1, h2, h3⟩
  · rw [lang_set hk]
    refine (Frag.edge s (setE t f o) (by simp [setE]; omega) S S).lg (fun i j => ?_)
    unfold Stp setE Rd hasE setL
    simp
/-- the empty chain -/
theorem grew_empty {t : Tr} (hk : t.kind = 2) (h0 : t.kids.length = 0) {f o S : Nat} {E : List Ed} (hfo : f ≠ o) (hS : S ≤ 2000) : Grew t f o S E S (E ++ [freeE f o]) false := by
  have h2 := Tr.size_two t
  have h3 := Tr.nodes_pos t
  refine ⟨Nat.le_refl _, hS, ?_, fun h => (by cases h), fun _ => ⟨by omega, by simp; omega⟩, fun _ => ⟨_, rfl, WfE.freeE _ _, fun s => ?_⟩⟩
  · have : t.nodes * 1 ≤ t.nodes * (1 + (S - S)) := Nat.mul_le_mul_left _ (by omega)
    simp only [List.length_append, List.length_cons, List.length_nil]
    omega
  · rw [lang_cat hk, List.eq_nil_of_length_eq_zero h0]
    exact (Frag.free s (by omega) S S).lg (fun i j => Iff.rfl)

/-- the chain, so many kids of it -/
structure CatI (t : Tr) (f o S : Nat) (E : List Ed) (k cur S' : Nat) (E' : List Ed) (bad : Bool) : Prop where
  lo : S ≤ S'
  hi : S' ≤ 2000
  few : E'.length ≤ E.length + 4 * ((nodesL (t.kids.take k) - 1) * (1 + (S' - S)))
  full : bad = true → S' = 2000 ∧ 2004 < S + 2 * t.size
  room : bad = false → S' + 4 ≤ S + 2 * sizeL 1 (t.kids.take k) ∧ E'.length + 4 ≤ E.length + 2 * sizeL 1 (t.kids.take k)
  at_ : bad = false → (k < t.kids.length → cur = f ∨ (S ≤ cur ∧ cur < S')) ∧ (k = t.kids.length → 0 < k → cur = o)
  good : bad = false → ∃ N, E' = E ++ N ∧ WfE N ∧ ∀ s, Frag s (catL ((t.kids.take k).map (Tr.lang s))) f cur S S' N
section
variable {t : Tr} {f o S : Nat} {E : List Ed} {k cur S' S2 nx : Nat} {E' E2 : List Ed} {b2 : Bool}
theorem CatI.begin (hS : S ≤ 2000) : CatI t f o S E 0 f S E false :=
  ⟨Nat.le_refl _, hS, by simp, fun h => (by cases h), fun _ => by simp [sizeL], fun _ => ⟨fun _ => .inl rfl, fun _ h => absurd h (by omega)⟩,
   fun _ => ⟨[], by simp, WfE.nil, fun s => by simpa [catL] using Frag.nil s f S S⟩⟩
/-- the next kid, to a new state -/
theorem CatI.next (hk4 : t.kind = 2) (h : CatI t f o S E k cur S' E' false) (hk : k + 1 < t.kids.length) (hf : f < S) (hx : nx = S')
    (hg : Grew (t.kids.getD k noTr) cur nx (S' + 1) E' S2 E2 b2) : CatI t f o S E (k + 1) nx S2 E2 b2 := by
  subst hx
  have hn := nodesK_next t.kids k (by omega)
  have hs := sizeK_next 1 t.kids k (by omega)
  have hp := nodesL_pos (t.kids.take k)
  have hs2 := sizeL_take_le 1 t.kids (k + 1 + 1)
  have hs3 := sizeK_next 1 t.kids (k + 1) hk
  have hst := size_one (t := t) (by omega)
  have hz := Tr.size_two (t.kids.getD (k + 1) noTr)
  have hz2 := Tr.size_two (t.kids.getD k noTr)
  have hr := h.room rfl
  have hl := hg.lo
  have hll := h.lo
  refine ⟨by omega, hg.hi, ?_, fun hb => ⟨(hg.full hb).1, ?_⟩, fun hb => ?_, fun hb => ⟨fun _ => .inr ⟨h.lo, by omega⟩, fun h9 => by omega⟩, fun hb => ?_⟩
  · have := few_step (a := nodesL (t.kids.take k) - 1) (b := (t.kids.getD k noTr).nodes) (d := S2 - S) h.few hg.few (by omega) (by omega)
    rw [hn, show nodesL (t.kids.take k) + (t.kids.getD k noTr).nodes - 1 = nodesL (t.kids.take k) - 1 + (t.kids.getD k noTr).nodes by omega]
    exact this
  · have := (hg.full hb).2
    rw [hst]
    omega
  · have := hg.room hb
    omega
  · obtain ⟨N, rfl, hw, hF⟩ := h.good rfl
    obtain ⟨M, rfl, hw2, hF2⟩ := hg.good hb
    refine ⟨N ++ M, by simp, hw.app hw2, fun s => ?_⟩
    rw [take_next t.kids k noTr (by omega), catK_snoc]
    refine ((hF s).widen (Nat.le_refl _) (Nat.le_refl _)).seq ((hF2 s).widen (Nat.le_succ _) (Nat.le_refl _)) h.lo (by omega) ?_ ?_ ?_ ?_
    · rcases (h.at_ rfl).1 (by omega) with h9 | h9
      · exact .inl (by omega)
      · exact .inr ⟨by omega, by omega⟩
    · unfold Own; omega
    · omega
    · unfold Own; omega
/-- the last kid -/
theorem CatI.last (hk4 : t.kind = 2) (h : CatI t f o S E k cur S' E' false) (hk : k + 1 = t.kids.length) (hf : f < S) (hfo : f ≠ o) (ho : o < S)
    (hg : Grew (t.kids.getD k noTr) cur o S' E' S2 E2 b2) : CatI t f o S E (k + 1) o S2 E2 b2 := by
  have hn := nodesK_next t.kids k (by omega)
  have hs := sizeK_next 1 t.kids k (by omega)
  have hp := nodesL_pos (t.kids.take k)
  have hs2 := sizeL_take_le 1 t.kids (k + 1)
  have hst := size_one (t := t) (by omega)
  have hz2 := Tr.size_two (t.kids.getD k noTr)
  have hr := h.room rfl
  have hl := hg.lo
  have hll := h.lo
  refine ⟨by omega, hg.hi, ?_, fun hb => ⟨(hg.full hb).1, ?_⟩, fun hb => ?_, fun hb => ⟨fun _ => by omega, fun _ _ => rfl⟩, fun hb => ?_⟩
  · have := few_step (a := nodesL (t.kids.take k) - 1) (b := (t.kids.getD k noTr).nodes) (d := S2 - S) h.few hg.few (by omega) (by omega)
    rw [hn, show nodesL (t.kids.take k) + (t.kids.getD k noTr).nodes - 1 = nodesL (t.kids.take k) - 1 + (t.kids.getD k noTr).nodes by omega]
    exact this
  · have := (hg.full hb).2
    rw [hst]
    omega
  · have := hg.room hb
    omega
  · obtain ⟨N, rfl, hw, hF⟩ := h.good rfl
    obtain ⟨M, rfl, hw2, hF2⟩ := hg.good hb
    refine ⟨N ++ M, by simp, hw.app hw2, fun s => ?_⟩
    rw [take_next t.kids k noTr (by omega), catK_snoc]
    refine (hF s).seq (hF2 s) h.lo hg.lo ?_ ?_ ?_ ?_
    · rcases (h.at_ rfl).1 (by omega) with h9 | h9
      · exact .inl (by omega)
      · exact .inr ⟨by omega, by omega⟩
    · unfold Own; omega
    · omega
    · unfold Own; omega
/-- there is no state left -/
theorem CatI.none_left (hk4 : t.kind = 2) (h : CatI t f o S E k cur S' E' false) (hk : k + 1 < t.kids.length) (hS : S' = 2000) : CatI t f o S E (k + 1) nx S' E' true := by
  have hn := nodesK_next t.kids k (by omega)
  have hs2 := sizeL_take_le 1 t.kids (k + 1)
  have hs := sizeK_next 1 t.kids k (by omega)
  have hst := size_one (t := t) (by omega)
  have hz2 := Tr.size_two (t.kids.getD k noTr)
  have hr := h.room rfl
  refine ⟨h.lo, h.hi, Nat.le_trans h.few ?_, fun _ => ⟨hS, ?_⟩, fun h => (by cases h), fun h => (by cases h), fun h => (by cases h)⟩
  · have : (nodesL (t.kids.take k) - 1) * (1 + (S' - S)) ≤ (nodesL (t.kids.take (k + 1)) - 1) * (1 + (S' - S)) := Nat.mul_le_mul_right _ (by omega)
    omega
  · rw [hst]; omega
theorem CatI.stay (h : CatI t f o S E k cur S' E' true) (hk : k < t.kids.length) : CatI t f o S E (k + 1) nx S' E' true := by
  have hn := nodesK_next t.kids k (by omega)
  refine ⟨h.lo, h.hi, Nat.le_trans h.few ?_, fun _ => h.full rfl, fun h => (by cases h), fun h => (by cases h), fun h => (by cases h)⟩
  have : (nodesL (t.kids.take k) - 1) * (1 + (S' - S)) ≤ (nodesL (t.kids.take (k + 1)) - 1) * (1 + (S' - S)) := Nat.mul_le_mul_right _ (by omega)
  omega
theorem CatI.done {b : Bool} (hk4 : t.kind = 2) (h : CatI t f o S E k cur S' E' b) (hk : k = t.kids.length) (h0 : 0 < k) : Grew t f o S E S' E' b := by
  have hst := size_one (t := t) (by omega)
  have ht : t.kids.take k = t.kids := List.take_of_length_le (by omega)
  have hn := Tr.nodes_eq t
  refine ⟨h.lo, h.hi, ?_, h.full, fun hb => ?_, fun hb => ?_⟩
  · have := h.few
    rw [ht] at this
    have h2 : (nodesL t.kids - 1) * (1 + (S' - S)) ≤ t.nodes * (1 + (S' - S)) := Nat.mul_le_mul_right _ (by omega)
    omega
  · have := h.room hb
    rw [ht] at this
    omega
  · obtain ⟨N, h1, h2, h3⟩ := h.good hb
    rw [ht] at h3
    obtain rfl : cur = o := (h.at_ hb).2 hk h0
    exact ⟨N, h1, h2, fun s => by rw [lang_cat hk4]; exact h3 s⟩
end

/-- one of several, so many of them -/
structure AltI (t : Tr) (f o S : Nat) (E : List Ed) (k S' : Nat) (E' : List Ed) (bad : Bool) : Prop where
  lo : S ≤ S'
  hi : S' ≤ 2000
  few : E'.length ≤ E.length + 4 * ((nodesL (t.kids.take k) - 1) * (1 + (S' - S)))
  full : bad = true → S' = 2000 ∧ 2004 < S + 2 * t.size
  room : bad = false → S' + 4 ≤ S + 2 * sizeL 1 (t.kids.take k) ∧ E'.length + 4 ≤ E.length + 2 * sizeL 1 (t.kids.take k)
  good : bad = false → ∃ N, E' = E ++ N ∧ WfE N ∧ ∀ s, Frag s (altL ((t.kids.take k).map (Tr.lang s))) f o S S' N
section
variable {t : Tr} {f o S : Nat} {E : List Ed} {k S' S2 : Nat} {E' E2 : List Ed} {b2 : Bool}
theorem AltI.begin (hS : S ≤ 2000) (hfo : f ≠ o) : AltI t f o S E 0 S E false :=
  ⟨Nat.le_refl _, hS, by simp, fun h => (by cases h), fun _ => by simp [sizeL],
   fun _ => ⟨[], by simp, WfE.nil, fun s => (Frag.none s (by omega) S S).lg (fun i j => by simp [altL])⟩⟩
theorem AltI.next (hk4 : t.kind = 3) (h : AltI t f o S E k S' E' false) (hk : k < t.kids.length) (hg : Grew (t.kids.getD k noTr) f o S' E' S2 E2 b2) : AltI t f o S E (k + 1) S2 E2 b2 := by
  have hn := nodesK_next t.kids k (by omega)
  have hs := sizeK_next 1 t.kids k (by omega)
  have hp := nodesL_pos (t.kids.take k)
  have hs2 := sizeL_take_le 1 t.kids (k + 1)
  have hst := size_one (t := t) (by omega)
  have hz2 := Tr.size_two (t.kids.getD k noTr)
  have hr := h.room rfl
  have hl := hg.lo
  have hll := h.lo
  refine ⟨by omega, hg.hi, ?_, fun hb => ⟨(hg.full hb).1, ?_⟩, fun hb => ?_, fun hb => ?_⟩
  · have := few_step (a := nodesL (t.kids.take k) - 1) (b := (t.kids.getD k noTr).nodes) (d := S2 - S) h.few hg.few (by omega) (by omega)
    rw [hn, show nodesL (t.kids.take k) + (t.kids.getD k noTr).nodes - 1 = nodesL (t.kids.take k) - 1 + (t.kids.getD k noTr).nodes by omega]
    exact this
  · have := (hg.full hb).2
    rw [hst]
    omega
  · have := hg.room hb
    omega
  · obtain ⟨N, rfl, hw, hF⟩ := h.good rfl
    obtain ⟨M, rfl, hw2, hF2⟩ := hg.good hb
    refine ⟨N ++ M, by simp, hw.app hw2, fun s => ?_⟩
    rw [take_next t.kids k noTr (by omega)]
    exact ((hF s).alt (hF2 s) h.lo hg.lo).lg (fun i j => (altK_snoc s _ _ i j).symm)
theorem AltI.stay (h : AltI t f o S E k S' E' true) (hk : k < t.kids.length) : AltI t f o S E (k + 1) S' E' true := by
  have hn := nodesK_next t.kids k (by omega)
  refine ⟨h.lo, h.hi, Nat.le_trans h.few ?_, fun _ => h.full rfl, fun h => (by cases h), fun h => (by cases h)⟩
  have : (nodesL (t.kids.take k) - 1) * (1 + (S' - S)) ≤ (nodesL (t.kids.take (k + 1)) - 1) * (1 + (S' - S)) := Nat.mul_le_mul_right _ (by omega)
  omega
theorem AltI.done {b : Bool} (hk4 : t.kind = 3) (h : AltI t f o S E k S' E' b) (hk : k = t.kids.length) : Grew t f o S E S' E' b := by
  have hst := size_one (t := t) (by omega)
  have ht : t.kids.take k = t.kids := List.take_of_length_le (by omega)
  have hn := Tr.nodes_eq t
  refine ⟨h.lo, h.hi, ?_, h.full, fun hb => ?_, fun hb => ?_⟩
  · have := h.few
    rw [ht] at this
    have h2 : (nodesL t.kids - 1) * (1 + (S' - S)) ≤ t.nodes * (1 + (S' - S)) := Nat.mul_le_mul_right _ (by omega)
    omega
  · have := h.room hb
    rw [ht] at this
    omega
  · obtain ⟨N, h1, h2, h3⟩ := h.good hb
    rw [ht] at h3
    exact ⟨N, h1, h2, fun s => by rw [lang_alt hk4]; exact h3 s⟩
end
end Go.Proofs.Ytfjgfabochiflaa
/- What the maker's loops of a repetition have made so far. Plain. -/
namespace Go.Proofs.Ytfjgfabochiflaa
open Go.RowKit

/-- a repetition that may be, its kid -/
structure RepT (t k : Tr) (c : Nat) : Prop where
  kind : t.kind = 4
  one : t.kids.length = 1
  kid : k = t.kids.getD 0 noTr
  times : c = t.times
  lo0 : 0 ≤ t.lo
  lo20 : t.lo ≤ 20
  hi : t.hi = -1 ∨ (t.lo ≤ t.hi ∧ t.hi ≤ 20)
theorem repT_of {t : Tr} (h : OkT t) (hk : t.kind = 4) : RepT t (t.kids.getD 0 noTr) t.times := by
  unfold OkT at h
  have h1 : t.kids.length = 1 ∧ 0 ≤ t.lo ∧ t.lo ≤ 20 ∧ (t.hi = -1 ∨ (t.lo ≤ t.hi ∧ t.hi ≤ 20 ∧ ¬ (t.lo = 1 ∧ t.hi = 1))) := by omega
  exact ⟨hk, h1.1, rfl, rfl, h1.2.1, h1.2.2.1, by omega⟩
section
variable {t kd : Tr} {c : Nat}
theorem RepT.size (h : RepT t kd c) : t.size = 2 + kd.size * c := by
  have h2 := sizeK_next t.times t.kids 0 (by have := h.one; omega)
  rw [List.take_of_length_le (by have := h.one; omega)] at h2
  rw [Tr.size_eq, h2, ← h.kid, ← h.times]
  simp [sizeL]
theorem RepT.nodes (h : RepT t kd c) : t.nodes = 1 + kd.nodes := by
  have h2 := nodesK_next t.kids 0 (by have := h.one; omega)
  rw [List.take_of_length_le (by have := h.one; omega)] at h2
  rw [Tr.nodes_eq, h2, ← h.kid]
  simp [nodesL]
theorem RepT.c1 (h : RepT t kd c) : 1 ≤ c ∧ t.lo.toNat ≤ c ∧ t.hi.toNat ≤ c := by
  rw [h.times]
  unfold Tr.times
  rw [if_pos h.kind]
  omega
theorem RepT.lang (h : RepT t kd c) (s : ByteArray) : t.lang s = repL (kd.lang s) t.lo t.hi := by
  rw [lang_rep h.kind h.one, ← h.kid]
end
theorem few_rep {x y z a d1 d2 n m : Nat} (h1 : y ≤ x + 4 * ((a + 1) * d1)) (h2 : z ≤ y + n + 4 * (a * (1 + d2))) (hm : 1 ≤ m) (hn : n ≤ 4 * m) : z ≤ x + 4 * ((a + 1) * (d1 + m + d2)) := by
  have h3 : a * 1 ≤ a * m := Nat.mul_le_mul_left a hm
  have h4 : (a + 1) * (d1 + m + d2) = (a + 1) * d1 + (a * m + m) + (a * d2 + d2) := by
    rw [Nat.mul_add, Nat.mul_add, Nat.add_mul a 1 m, Nat.add_mul a 1 d2]
    omega
  rw [Nat.mul_add] at h2
  omega

/-- the loop ahead: so many times -/
structure RepI (t kd : Tr) (f S : Nat) (E : List Ed) (i cur S' : Nat) (E' : List Ed) (bad : Bool) : Prop where
  lo : S ≤ S'
  hi : S' ≤ 2000
  few : E'.length ≤ E.length + 4 * ((kd.nodes + 1) * (S' - S))
  full : bad = true → S' = 2000 ∧ 2004 < S + 2 * t.size
  room : bad = false → S' ≤ S + 2 * (kd.size * i) ∧ E'.length ≤ E.length + 2 * (kd.size * i)
  at_ : bad = false → cur = f ∨ (S ≤ cur ∧ cur < S')
  good : bad = false → ∃ N, E' = E ++ N ∧ WfE N ∧ ∀ s, Frag s (powL (kd.lang s) i) f cur S S' N
/-- the loop behind: left to o each time -/
structure RepJ (t kd : Tr) (f o S : Nat) (E : List Ed) (a i cur S' : Nat) (E' : List Ed) (bad : Bool) : Prop where
  lo : S ≤ S'
  hi : S' ≤ 2000
  few : E'.length ≤ E.length + 4 * ((kd.nodes + 1) * (S' - S)) + (if bad = true then 2 else 0)
  full : bad = true → S' = 2000 ∧ 2004 < S + 2 * t.size
  room : bad = false → S' ≤ S + 2 * (kd.size * i) ∧ E'.length ≤ E.length + 2 * (kd.size * i)
  good : bad = false → ∃ N, E' = E ++ N ∧ WfE N ∧ ∀ s, Frag2 s (powL (kd.lang s) i) (fun i' j' => ∃ d : Nat, a ≤ d ∧ d < i ∧ powL (kd.lang s) d i' j') f cur o S S' N
section
variable {t kd : Tr} {f o S c : Nat} {E : List Ed} {a i cur S' S2 nx bg : Nat} {E' E2 : List Ed} {b2 : Bool}
theorem mul_lt_size {sk i c : Nat} (hi : i < c) : sk * i + sk ≤ sk * c := by
  have := Nat.mul_le_mul_left sk (show i + 1 ≤ c from hi)
  rwa [Nat.mul_succ] at this
theorem RepI.begin (hS : S ≤ 2000) : RepI t kd f S E 0 f S E false :=
  ⟨Nat.le_refl _, hS, by simp, fun h => (by cases h), fun _ => by simp, fun _ => .inl rfl, fun _ => ⟨[], by simp, WfE.nil, fun s => Frag.nil s f S S⟩⟩
theorem RepI.next (hr : RepT t kd c) (h : RepI t kd f S E i cur S' E' false) (hi : i < c) (hf : f < S) (hx : nx = S') (hg : Grew kd cur nx (S' + 1) E' S2 E2 b2) : RepI t kd f S E (i + 1) nx S2 E2 b2 := by
  subst hx
  have hsz := hr.size
  have hz := Tr.size_two kd
  have hml := mul_lt_size (sk := kd.size) hi
  have hro := h.room rfl
  have hl := hg.lo
  have hll := h.lo
  refine ⟨by omega, hg.hi, ?_, fun hb => ⟨(hg.full hb).1, ?_⟩, fun hb => ?_, fun hb => .inr ⟨by omega, by omega⟩, fun hb => ?_⟩
  · have := few_rep (n := 0) (m := 1) (z := E2.length) (d2 := S2 - (nx + 1)) h.few (by have := hg.few; omega) (by omega) (by omega)
    rw [show nx - S + 1 + (S2 - (nx + 1)) = S2 - S by omega] at this
    exact this
  · have := (hg.full hb).2
    omega
  · have := hg.room hb
    rw [Nat.mul_succ]
    omega
  · obtain ⟨N, rfl, hw, hF⟩ := h.good rfl
    obtain ⟨M, rfl, hw2, hF2⟩ := hg.good hb
    refine ⟨N ++ M, by simp, hw.app hw2, fun s => ?_⟩
    refine (hF s).seq ((hF2 s).widen (Nat.le_succ _) (Nat.le_refl _)) h.lo (by omega) ?_ ?_ ?_ ?_
    · rcases h.at_ rfl with h9 | h9
      · exact .inl (by omega)
      · exact .inr ⟨by omega, by omega⟩
    · unfold Own; omega
    · omega
    · unfold Own; omega
theorem RepI.none_left (hr : RepT t kd c) (h : RepI t kd f S E i cur S' E' false) (hi : i < c) (hS : S' = 2000) : RepI t kd f S E (i + 1) nx S' E' true := by
  have hsz := hr.size
  have hz := Tr.size_two kd
  have hml := mul_lt_size (sk := kd.size) hi
  have hro := h.room rfl
  exact ⟨h.lo, h.hi, h.few, fun _ => ⟨hS, by omega⟩, fun h => (by cases h), fun h => (by cases h), fun h => (by cases h)⟩
/-- round and round behind it -/
theorem RepI.around (hr : RepT t kd c) (h : RepI t kd f S E i cur S' E' false) (hhi : t.hi < 0) (hi : (i : Int) = max (t.lo - 1) 0) (hf : f < S) (ho : o < S) (hfo : f ≠ o) (hS : S' + 2 ≤ 2000) {l b : Nat} (hl : l = S') (hb : b = S' + 1)
    (hg : Grew kd l b (S' + 2) (E' ++ [freeE cur l]) S2 E2 b2) :
    Grew t f o S E S2 (E2 ++ freeE b l :: freeE b o :: (if decide (t.lo = 0) = true then [freeE l o] else [])) b2 := by
  subst hl hb
  have hsz := hr.size
  have hnd := hr.nodes
  have hz := Tr.size_two kd
  have hc := hr.c1
  have hl20 := hr.lo20
  have hl0 := hr.lo0
  have hic : i < c := by omega
  have hml := mul_lt_size (sk := kd.size) hic
  have hro := h.room rfl
  have hgl := hg.lo
  have hll := h.lo
  have hlen : ((if decide (t.lo = 0) = true then [freeE (l : Int) o] else []) : List Ed).length ≤ 1 := by split <;> simp
  refine ⟨by omega, hg.hi, ?_, fun hb => ⟨(hg.full hb).1, ?_⟩, fun hb => ?_, fun hb => ?_⟩
  · have h1 := few_rep (n := 1) (m := 2) (z := E2.length) (d2 := S2 - (l + 2)) h.few (by have := hg.few; simp only [List.length_append, List.length_cons, List.length_nil] at this; omega) (by omega) (by omega)
    rw [show l - S + 2 + (S2 - (l + 2)) = S2 - S by omega] at h1
    rw [hnd, show 1 + kd.nodes = kd.nodes + 1 by omega]
    rw [Nat.mul_add (kd.nodes + 1) 1]
    have h2 := Tr.nodes_pos kd
    simp only [List.length_append, List.length_cons]
    omega
  · have := (hg.full hb).2
    omega
  · have := hg.room hb
    simp only [List.length_append, List.length_cons, List.length_nil] at this ⊢
    omega
  · obtain ⟨N, rfl, hw, hF⟩ := h.good rfl
    obtain ⟨M, rfl, hw2, hF2⟩ := hg.good hb
    refine ⟨N ++ (freeE cur l :: (M ++ (freeE ((l + 1 : Nat) : Int) l :: freeE ((l + 1 : Nat) : Int) o :: (if decide (t.lo = 0) = true then [freeE l o] else [])))), by simp, ?_, fun s => ?_⟩
    · refine hw.app (fun e he => ?_)
      simp only [List.mem_cons, List.mem_append] at he
      rcases he with rfl | he | rfl | rfl | he
      · exact WfE.freeE _ _ _ (List.mem_singleton.2 rfl)
      · exact hw2 e he
      · exact WfE.freeE _ _ _ (List.mem_singleton.2 rfl)
      · exact WfE.freeE _ _ _ (List.mem_singleton.2 rfl)
      · by_cases h0 : t.lo = 0
        · rw [if_pos (by simpa using h0)] at he
          exact WfE.freeE _ _ _ he
        · rw [if_neg (by simpa using h0)] at he
          exact absurd he (by simp)
    · rw [hr.lang]
      have hcur : (cur : Int) = f ∨ Own S l cur := by
        rcases h.at_ rfl with h9 | h9
        · exact .inl (by omega)
        · exact .inr ⟨by omega, by omega⟩
      have hcn : ¬ Own l S2 (cur : Int) := by
        unfold Own at hcur ⊢
        omega
      have hlp := Frag.loop (f := (cur : Int)) (o := (o : Int)) (z := decide (t.lo = 0)) (hF2 s) rfl (show ((l + 1 : Nat) : Int) = (l : Int) + 1 by omega) rfl hgl hcn (by unfold Own; omega) (by unfold Own at hcur; omega)
      refine ((hF s).seq hlp h.lo (by omega) hcur (by unfold Own; omega) (by omega) (by unfold Own; omega)).lg (fun i' j' => rep_open hl0 hhi hi i' j')
theorem RepJ.begin (h : RepI t kd f S E i cur S' E' false) (ho : o < S) (hfo : f ≠ o) (hia : a = i) : RepJ t kd f o S E a i cur S' E' false := by
  refine ⟨h.lo, h.hi, h.few, fun h => (by cases h), h.room, fun _ => ?_⟩
  obtain ⟨N, h1, h2, h3⟩ := h.good rfl
  refine ⟨N, h1, h2, fun s => ?_⟩
  have hcur : (cur : Int) = f ∨ Own S S' cur := by
    rcases h.at_ rfl with h9 | h9
    · exact .inl (by omega)
    · exact .inr ⟨by omega, by omega⟩
  have h4 := Frag2.of (o := (o : Int)) (h3 s) hcur (by unfold Own; omega) (by omega)
  exact ⟨h4.src, h4.dst, h4.at_, h4.langc, fun i' j' => (h4.lango i' j').trans ⟨fun h => h.elim, fun ⟨d, h5, h6, _⟩ => by omega⟩⟩
theorem RepJ.next (hr : RepT t kd c) (h : RepJ t kd f o S E a i cur S' E' false) (hai : a ≤ i) (hi : i < c) (hf : f < S) (ho : o < S) (hfo : f ≠ o) (hx : nx = S') (hb : bg = S' + 1)
    (hg : Grew kd bg nx (S' + 2) (E' ++ [freeE cur o] ++ [freeE cur bg]) S2 E2 b2) : RepJ t kd f o S E a (i + 1) nx S2 E2 b2 := by
  subst hx hb
  have hsz := hr.size
  have hz := Tr.size_two kd
  have hml := mul_lt_size (sk := kd.size) hi
  have hro := h.room rfl
  have hl := hg.lo
  have hll := h.lo
  refine ⟨by omega, hg.hi, ?_, fun hb => ⟨(hg.full hb).1, ?_⟩, fun hb => ?_, fun hb => ?_⟩
  · have hfe := h.few
    simp only [Bool.false_eq_true, if_false, Nat.add_zero] at hfe
    have := few_rep (n := 2) (m := 2) (z := E2.length) (d2 := S2 - (nx + 2)) hfe (by have := hg.few; simp only [List.length_append, List.length_cons, List.length_nil] at this; omega) (by omega) (by omega)
    rw [show nx - S + 2 + (S2 - (nx + 2)) = S2 - S by omega] at this
    omega
  · have := (hg.full hb).2
    omega
  · have := hg.room hb
    simp only [List.length_append, List.length_cons, List.length_nil] at this
    rw [Nat.mul_succ]
    omega
  · obtain ⟨N, rfl, hw, hF⟩ := h.good rfl
    obtain ⟨M, rfl, hw2, hF2⟩ := hg.good hb
    refine ⟨N ++ (freeE cur o :: freeE cur ((nx + 1 : Nat) : Int) :: M), by simp, ?_, fun s => ?_⟩
    · refine hw.app (fun e he => ?_)
      simp only [List.mem_cons] at he
      rcases he with rfl | rfl | he
      · exact WfE.freeE _ _ _ (List.mem_singleton.2 rfl)
      · exact WfE.freeE _ _ _ (List.mem_singleton.2 rfl)
      · exact hw2 e he
    · have h4 := (hF s).more (nx := (nx : Int)) (b := ((nx + 1 : Nat) : Int)) rfl (by omega) (hF2 s) h.lo (by omega) (by unfold Own; omega) (by unfold Own; omega) (by omega)
      exact ⟨h4.src, h4.dst, h4.at_, h4.langc, fun i' j' => (h4.lango i' j').trans ⟨fun h => by
        rcases h with ⟨d, h5, h6, h7⟩ | h7
        · exact ⟨d, h5, by omega, h7⟩
        · exact ⟨i, hai, by omega, h7⟩, fun ⟨d, h5, h6, h7⟩ => by
        by_cases hd : d = i
        · subst hd; exact .inr h7
        · exact .inl ⟨d, h5, by omega, h7⟩⟩⟩
/-- there is no state left for the one, or for the other -/
theorem RepJ.none_left (hr : RepT t kd c) (h : RepJ t kd f o S E a i cur S' E' false) (hi : i < c) (hS : 2000 ≤ S2 + 0) (hS2 : S2 ≤ S' + 1) (hS3 : S' ≤ S2) (hS4 : S2 ≤ 2000) {x y : Ed} : RepJ t kd f o S E a (i + 1) nx S2 (E' ++ [x] ++ [y]) true := by
  have hsz := hr.size
  have hz := Tr.size_two kd
  have hml := mul_lt_size (sk := kd.size) hi
  have hro := h.room rfl
  have hll := h.lo
  refine ⟨by omega, hS4, ?_, fun _ => ⟨by omega, by omega⟩, fun h => (by cases h), fun h => (by cases h)⟩
  have hfe := h.few
  simp only [Bool.false_eq_true, if_false, Nat.add_zero] at hfe
  have : (kd.nodes + 1) * (S' - S) ≤ (kd.nodes + 1) * (S2 - S) := Nat.mul_le_mul_left _ (by omega)
  simp only [List.length_append, List.length_cons, List.length_nil, if_true]
  omega
theorem RepJ.done (hr : RepT t kd c) (h : RepJ t kd f o S E a i cur S' E' b2) (ha : (a : Int) = t.lo) (hi : b2 = false → (i : Int) = t.hi) (hhi : t.lo ≤ t.hi) (ho : o < S) (hfo : f ≠ o) : Grew t f o S E S' (E' ++ [freeE cur o]) b2 := by
  have hsz := hr.size
  have hnd := hr.nodes
  have hz := Tr.size_two kd
  have hc := hr.c1
  have hll := h.lo
  have hn := Tr.nodes_pos kd
  refine ⟨h.lo, h.hi, ?_, h.full, fun hb => ?_, fun hb => ?_⟩
  · have hfe := h.few
    have h2 : (if b2 = true then 2 else 0) ≤ 2 := by split <;> omega
    rw [hnd, show 1 + kd.nodes = kd.nodes + 1 by omega, Nat.mul_add (kd.nodes + 1) 1]
    simp only [List.length_append, List.length_cons, List.length_nil]
    omega
  · have h1 := h.room hb
    have h2 := hi hb
    have h3 : kd.size * i ≤ kd.size * c := Nat.mul_le_mul_left _ (by omega)
    simp only [List.length_append, List.length_cons, List.length_nil]
    omega
  · obtain ⟨N, rfl, hw, hF⟩ := h.good hb
    refine ⟨N ++ [freeE cur o], by simp, hw.app (WfE.freeE _ _), fun s => ?_⟩
    rw [hr.lang]
    exact ((hF s).close (by unfold Own; omega) (by omega)).lg (fun i' j' => rep_shut ha (hi hb) (by have := hi hb; omega) i' j')
/-- it was given up in the loop ahead -/
theorem RepI.given_up (hr : RepT t kd c) (h : RepI t kd f S E i cur S' E' true) {M : List Ed} (hM : M.length ≤ 4) : Grew t f o S E S' (E' ++ M) true := by
  have hnd := hr.nodes
  have hn := Tr.nodes_pos kd
  refine ⟨h.lo, h.hi, ?_, h.full, fun h => (by cases h), fun h => (by cases h)⟩
  have hfe := h.few
  rw [hnd, show 1 + kd.nodes = kd.nodes + 1 by omega, Nat.mul_add (kd.nodes + 1) 1]
  simp only [List.length_append]
  omega
/-- there was no state left to go round -/
theorem RepI.no_round (hr : RepT t kd c) (h : RepI t kd f S E i cur S' E' false) (hi : i < c) (hS : 2000 = S2) (hS2 : S2 ≤ S' + 1) (hS3 : S' ≤ S2) {M : List Ed} (hM : M.length ≤ 4) : Grew t f o S E S2 (E' ++ M) true := by
  have hsz := hr.size
  have hnd := hr.nodes
  have hz := Tr.size_two kd
  have hml := mul_lt_size (sk := kd.size) hi
  have hro := h.room rfl
  have hll := h.lo
  have hn := Tr.nodes_pos kd
  refine ⟨by omega, by omega, ?_, fun _ => ⟨by omega, by omega⟩, fun h => (by cases h), fun h => (by cases h)⟩
  have hfe := h.few
  have : (kd.nodes + 1) * (S' - S) ≤ (kd.nodes + 1) * (S2 - S) := Nat.mul_le_mul_left _ (by omega)
  rw [hnd, show 1 + kd.nodes = kd.nodes + 1 by omega, Nat.mul_add (kd.nodes + 1) 1]
  simp only [List.length_append]
  omega
end
end Go.Proofs.Ytfjgfabochiflaa
