/- What the maker's loops have made so far. Plain. -/
import Derived.Test.YtpeoomdfopjlmaaLang
namespace Go.Proofs.Ytpeoomdfopjlmaa
open Go.RowKit

def WfE (N : List Ed) : Prop := ∀ e ∈ N, U64w e.s0 ∧ U64w e.s1 ∧ U64w e.s2 ∧ U64w e.s3
theorem WfE.app {N M : List Ed} (h : WfE N) (k : WfE M) : WfE (N ++ M) := fun e he => by
  rcases List.mem_append.1 he with he | he
  · exact h e he
  · exact k e he
theorem WfE.freeE (a b : Int) : WfE [freeE a b] := fun e he => by
  obtain rfl : e = Ytpeoomdfopjlmaa.freeE a b := by simpa using he
  simp only [Ytpeoomdfopjlmaa.freeE, U64w]
  omega
theorem WfE.nil : WfE [] := fun e he => absurd he (by simp)
theorem few_step {x y z a b d1 d2 d : Nat} (h1 : y ≤ x + 4 * (a * (1 + d1))) (h2 : z ≤ y + 4 * (b * (1 + d2))) (hd1 : d1 ≤ d) (hd2 : d2 ≤ d) : z ≤ x + 4 * ((a + b) * (1 + d)) := by
  have h3 : a * (1 + d1) ≤ a * (1 + d) := Nat.mul_le_mul_left a (by omega)
  have h4 : b * (1 + d2) ≤ b * (1 + d) := Nat.mul_le_mul_left b (by omega)
  rw [Nat.add_mul]
  omega
theorem size_one {t : Tr} (h : t.kind ≠ 4) : t.size = sizeL 1 t.kids := by
  rw [Tr.size_eq]
  congr 1
  unfold Tr.times
  rw [if_neg h]
theorem sizeK_next (c : Nat) (l : List Tr) (k : Nat) (h : k < l.length) : sizeL c (l.take (k + 1)) = sizeL c (l.take k) + (l.getD k noTr).size * c := by
  rw [take_next l k noTr h, sizeL_snoc]
theorem nodesK_next (l : List Tr) (k : Nat) (h : k < l.length) : nodesL (l.take (k + 1)) = nodesL (l.take k) + (l.getD k noTr).nodes := by
  rw [take_next l k noTr h, nodesL_snoc]

/-- a set's edge -/
def setE (t : Tr) (f o : Int) : Ed := ⟨f, o, false, t.s0, t.s1, t.s2, t.s3⟩
theorem grew_set {t : Tr} (hk : t.kind = 1) (hw : TrWf t) {f o S : Nat} {E : List Ed} (hfo : f ≠ o) (hS : S ≤ 2000) : Grew t f o S E S (E ++ [setE t f o]) false := by
  have h2 := Tr.size_two t
  have h3 := Tr.nodes_pos t
  refine ⟨Nat.le_refl _, hS, ?_, fun h => (by cases h), fun _ => ⟨by omega, by simp; omega⟩, fun _ => ⟨_, rfl, fun e he => ?_, fun s => ?_⟩⟩
  · have : t.nodes * 1 ≤ t.nodes * (1 + (S - S)) := Nat.mul_le_mul_left _ (by omega)
    simp only [List.length_append, List.length_cons, List.length_nil]
    omega
  · obtain rfl : e = setE t f o := by simpa using he
    cases hw with | mk h0 h1 h2 h3 _ => exact ⟨h0, h1, h2, h3⟩
  · rw [lang_set hk]
    refine (Frag.edge s (setE t f o) (by simp [setE]; omega) S S).lg (fun i j => ?_)
    unfold Stp setE Rd hasE setL
    simp
/-- the empty chain -/
theorem grew_empty {t : Tr} (hk : t.kind = 2) (h0 : t.kids.length = 0) {f o S : Nat} {E : List Ed} (hfo : f ≠ o) (hS : S ≤ 2000) : Grew t f o S E S (E ++ [freeE f o]) false := by
  have h2 := Tr.size_two t
  have h3 := Tr.nodes_pos t
  refine ⟨Nat.le_refl _, hS, ?_, fun h => (by cases h), fun _ => ⟨by omega, by simp; omega⟩, fun _ => ⟨_, rfl, WfE.freeE _ _, fun s => ?_⟩⟩
  · have : t.nodes * 1 ≤ t.nodes * (1 + (S - S)) := Nat.mul_le_mul_left _ (by omega)
    simp only [List.length_append, List.length_cons, List.length_nil]
    omega
  · rw [lang_cat hk, List.eq_nil_of_length_eq_zero h0]
    exact (Frag.free s (by omega) S S).lg (fun i j => Iff.rfl)

/-- the chain, so many kids of it -/
structure CatI (t : Tr) (f o S : Nat) (E : List Ed) (k cur S' : Nat) (E' : List Ed) (bad : Bool) : Prop where
  lo : S ≤ S'
  hi : S' ≤ 2000
  few : E'.length ≤ E.length + 4 * ((nodesL (t.kids.take k) - 1) * (1 + (S' - S)))
  full : bad = true → S' = 2000 ∧ 2004 < S + 2 * t.size
  room : bad = false → S' + 4 ≤ S + 2 * sizeL 1 (t.kids.take k) ∧ E'.length + 4 ≤ E.length + 2 * sizeL 1 (t.kids.take k)
  at_ : bad = false → (k < t.kids.length → cur = f ∨ (S ≤ cur ∧ cur < S')) ∧ (k = t.kids.length → 0 < k → cur = o)
  good : bad = false → ∃ N, E' = E ++ N ∧ WfE N ∧ ∀ s, Frag s (catL ((t.kids.take k).map (Tr.lang s))) f cur S S' N
section
variable {t : Tr} {f o S : Nat} {E : List Ed} {k cur S' S2 nx : Nat} {E' E2 : List Ed} {b2 : Bool}
theorem CatI.begin (hS : S ≤ 2000) : CatI t f o S E 0 f S E false :=
  ⟨Nat.le_refl _, hS, by simp, fun h => (by cases h), fun _ => by simp [sizeL], fun _ => ⟨fun _ => .inl rfl, fun _ h => absurd h (by omega)⟩,
   fun _ => ⟨[], by simp, WfE.nil, fun s => by simpa [catL] using Frag.nil s f S S⟩⟩
/-- the next kid, to a new state -/
theorem CatI.next (hk4 : t.kind = 2) (h : CatI t f o S E k cur S' E' false) (hk : k + 1 < t.kids.length) (hf : f < S) (hx : nx = S')
    (hg : Grew (t.kids.getD k noTr) cur nx (S' + 1) E' S2 E2 b2) : CatI t f o S E (k + 1) nx S2 E2 b2 := by
  subst hx
  have hn := nodesK_next t.kids k (by omega)
  have hs := sizeK_next 1 t.kids k (by omega)
  have hp := nodesL_pos (t.kids.take k)
  have hs2 := sizeL_take_le 1 t.kids (k + 1 + 1)
  have hs3 := sizeK_next 1 t.kids (k + 1) hk
  have hst := size_one (t := t) (by omega)
  have hz := Tr.size_two (t.kids.getD (k + 1) noTr)
  have hz2 := Tr.size_two (t.kids.getD k noTr)
  have hr := h.room rfl
  have hl := hg.lo
  have hll := h.lo
  refine ⟨by omega, hg.hi, ?_, fun hb => ⟨(hg.full hb).1, ?_⟩, fun hb => ?_, fun hb => ⟨fun _ => .inr ⟨h.lo, by omega⟩, fun h9 => by omega⟩, fun hb => ?_⟩
  · have := few_step (a := nodesL (t.kids.take k) - 1) (b := (t.kids.getD k noTr).nodes) (d := S2 - S) h.few hg.few (by omega) (by omega)
    rw [hn, show nodesL (t.kids.take k) + (t.kids.getD k noTr).nodes - 1 = nodesL (t.kids.take k) - 1 + (t.kids.getD k noTr).nodes by omega]
    exact this
  · have := (hg.full hb).2
    rw [hst]
    omega
  · have := hg.room hb
    omega
  · obtain ⟨N, rfl, hw, hF⟩ := h.good rfl
    obtain ⟨M, rfl, hw2, hF2⟩ := hg.good hb
    refine ⟨N ++ M, by simp, hw.app hw2, fun s => ?_⟩
    rw [take_next t.kids k noTr (by omega), catK_snoc]
    refine ((hF s).widen (Nat.le_refl _) (Nat.le_refl _)).seq ((hF2 s).widen (Nat.le_succ _) (Nat.le_refl _)) h.lo (by omega) ?_ ?_ ?_ ?_
    · rcases (h.at_ rfl).1 (by omega) with h9 | h9
      · exact .inl (by omega)
      · exact .inr ⟨by omega, by omega⟩
    · unfold Own; omega
    · omega
    · unfold Own; omega
/-- the last kid -/
theorem CatI.last (hk4 : t.kind = 2) (h : CatI t f o S E k cur S' E' false) (hk : k + 1 = t.kids.length) (hf : f < S) (hfo : f ≠ o) (ho : o < S)
    (hg : Grew (t.kids.getD k noTr) cur o S' E' S2 E2 b2) : CatI t f o S E (k + 1) o S2 E2 b2 := by
  have hn := nodesK_next t.kids k (by omega)
  have hs := sizeK_next 1 t.kids k (by omega)
  have hp := nodesL_pos (t.kids.take k)
  have hs2 := sizeL_take_le 1 t.kids (k + 1)
  have hst := size_one (t := t) (by omega)
  have hz2 := Tr.size_two (t.kids.getD k noTr)
  have hr := h.room rfl
  have hl := hg.lo
  have hll := h.lo
  refine ⟨by omega, hg.hi, ?_, fun hb => ⟨(hg.full hb).1, ?_⟩, fun hb => ?_, fun hb => ⟨fun _ => by omega, fun _ _ => rfl⟩, fun hb => ?_⟩
  · have := few_step (a := nodesL (t.kids.take k) - 1) (b := (t.kids.getD k noTr).nodes) (d := S2 - S) h.few hg.few (by omega) (by omega)
    rw [hn, show nodesL (t.kids.take k) + (t.kids.getD k noTr).nodes - 1 = nodesL (t.kids.take k) - 1 + (t.kids.getD k noTr).nodes by omega]
    exact this
  · have := (hg.full hb).2
    rw [hst]
    omega
  · have := hg.room hb
    omega
  · obtain ⟨N, rfl, hw, hF⟩ := h.good rfl
    obtain ⟨M, rfl, hw2, hF2⟩ := hg.good hb
    refine ⟨N ++ M, by simp, hw.app hw2, fun s => ?_⟩
    rw [take_next t.kids k noTr (by omega), catK_snoc]
    refine (hF s).seq (hF2 s) h.lo hg.lo ?_ ?_ ?_ ?_
    · rcases (h.at_ rfl).1 (by omega) with h9 | h9
      · exact .inl (by omega)
      · exact .inr ⟨by omega, by omega⟩
    · unfold Own; omega
    · omega
    · unfold Own; omega
/-- there is no state left -/
theorem CatI.none_left (hk4 : t.kind = 2) (h : CatI t f o S E k cur S' E' false) (hk : k + 1 < t.kids.length) (hS : S' = 2000) : CatI t f o S E (k + 1) nx S' E' true := by
  have hn := nodesK_next t.kids k (by omega)
  have hs2 := sizeL_take_le 1 t.kids (k + 1)
  have hs := sizeK_next 1 t.kids k (by omega)
  have hst := size_one (t := t) (by omega)
  have hz2 := Tr.size_two (t.kids.getD k noTr)
  have hr := h.room rfl
  refine ⟨h.lo, h.hi, Nat.le_trans h.few ?_, fun _ => ⟨hS, ?_⟩, fun h => (by cases h), fun h => (by cases h), fun h => (by cases h)⟩
  · have : (nodesL (t.kids.take k) - 1) * (1 + (S' - S)) ≤ (nodesL (t.kids.take (k + 1)) - 1) * (1 + (S' - S)) := Nat.mul_le_mul_right _ (by omega)
    omega
  · rw [hst]; omega
theorem CatI.stay (h : CatI t f o S E k cur S' E' true) (hk : k < t.kids.length) : CatI t f o S E (k + 1) nx S' E' true := by
  have hn := nodesK_next t.kids k (by omega)
  refine ⟨h.lo, h.hi, Nat.le_trans h.few ?_, fun _ => h.full rfl, fun h => (by cases h), fun h => (by cases h), fun h => (by cases h)⟩
  have : (nodesL (t.kids.take k) - 1) * (1 + (S' - S)) ≤ (nodesL (t.kids.take (k + 1)) - 1) * (1 + (S' - S)) := Nat.mul_le_mul_right _ (by omega)
  omega
theorem CatI.done {b : Bool} (hk4 : t.kind = 2) (h : CatI t f o S E k cur S' E' b) (hk : k = t.kids.length) (h0 : 0 < k) : Grew t f o S E S' E' b := by
  have hst := size_one (t := t) (by omega)
  have ht : t.kids.take k = t.kids := List.take_of_length_le (by omega)
  have hn := Tr.nodes_eq t
  refine ⟨h.lo, h.hi, ?_, h.full, fun hb => ?_, fun hb => ?_⟩
  · have := h.few
    rw [ht] at this
    have h2 : (nodesL t.kids - 1) * (1 + (S' - S)) ≤ t.nodes * (1 + (S' - S)) := Nat.mul_le_mul_right _ (by omega)
    omega
  · have := h.room hb
    rw [ht] at this
    omega
  · obtain ⟨N, h1, h2, h3⟩ := h.good hb
    rw [ht] at h3
    obtain rfl : cur = o := (h.at_ hb).2 hk h0
    exact ⟨N, h1, h2, fun s => by rw [lang_cat hk4]; exact h3 s⟩
end

/-- one of several, so many of them -/
structure AltI (t : Tr) (f o S : Nat) (E : List Ed) (k S' : Nat) (E' : List Ed) (bad : Bool) : Prop where
  lo : S ≤ S'
  hi : S' ≤ 2000
  few : E'.length ≤ E.length + 4 * ((nodesL (t.kids.take k) - 1) * (1 + (S' - S)))
  full : bad = true → S' = 2000 ∧ 2004 < S + 2 * t.size
  room : bad = false → S' + 4 ≤ S + 2 * sizeL 1 (t.kids.take k) ∧ E'.length + 4 ≤ E.length + 2 * sizeL 1 (t.kids.take k)
  good : bad = false → ∃ N, E' = E ++ N ∧ WfE N ∧ ∀ s, Frag s (altL ((t.kids.take k).map (Tr.lang s))) f o S S' N
section
variable {t : Tr} {f o S : Nat} {E : List Ed} {k S' S2 : Nat} {E' E2 : List Ed} {b2 : Bool}
theorem AltI.begin (hS : S ≤ 2000) (hfo : f ≠ o) : AltI t f o S E 0 S E false :=
  ⟨Nat.le_refl _, hS, by simp, fun h => (by cases h), fun _ => by simp [sizeL],
   fun _ => ⟨[], by simp, WfE.nil, fun s => (Frag.none s (by omega) S S).lg (fun i j => by simp [altL])⟩⟩
theorem AltI.next (hk4 : t.kind = 3) (h : AltI t f o S E k S' E' false) (hk : k < t.kids.length) (hg : Grew (t.kids.getD k noTr) f o S' E' S2 E2 b2) : AltI t f o S E (k + 1) S2 E2 b2 := by
  have hn := nodesK_next t.kids k (by omega)
  have hs := sizeK_next 1 t.kids k (by omega)
  have hp := nodesL_pos (t.kids.take k)
  have hs2 := sizeL_take_le 1 t.kids (k + 1)
  have hst := size_one (t := t) (by omega)
  have hz2 := Tr.size_two (t.kids.getD k noTr)
  have hr := h.room rfl
  have hl := hg.lo
  have hll := h.lo
  refine ⟨by omega, hg.hi, ?_, fun hb => ⟨(hg.full hb).1, ?_⟩, fun hb => ?_, fun hb => ?_⟩
  · have := few_step (a := nodesL (t.kids.take k) - 1) (b := (t.kids.getD k noTr).nodes) (d := S2 - S) h.few hg.few (by omega) (by omega)
    rw [hn, show nodesL (t.kids.take k) + (t.kids.getD k noTr).nodes - 1 = nodesL (t.kids.take k) - 1 + (t.kids.getD k noTr).nodes by omega]
    exact this
  · have := (hg.full hb).2
    rw [hst]
    omega
  · have := hg.room hb
    omega
  · obtain ⟨N, rfl, hw, hF⟩ := h.good rfl
    obtain ⟨M, rfl, hw2, hF2⟩ := hg.good hb
    refine ⟨N ++ M, by simp, hw.app hw2, fun s => ?_⟩
    rw [take_next t.kids k noTr (by omega)]
    exact ((hF s).alt (hF2 s) h.lo hg.lo).lg (fun i j => (altK_snoc s _ _ i j).symm)
theorem AltI.stay (h : AltI t f o S E k S' E' true) (hk : k < t.kids.length) : AltI t f o S E (k + 1) S' E' true := by
  have hn := nodesK_next t.kids k (by omega)
  refine ⟨h.lo, h.hi, Nat.le_trans h.few ?_, fun _ => h.full rfl, fun h => (by cases h), fun h => (by cases h)⟩
  have : (nodesL (t.kids.take k) - 1) * (1 + (S' - S)) ≤ (nodesL (t.kids.take (k + 1)) - 1) * (1 + (S' - S)) := Nat.mul_le_mul_right _ (by omega)
  omega
theorem AltI.done {b : Bool} (hk4 : t.kind = 3) (h : AltI t f o S E k S' E' b) (hk : k = t.kids.length) : Grew t f o S E S' E' b := by
  have hst := size_one (t := t) (by omega)
  have ht : t.kids.take k = t.kids := List.take_of_length_le (by omega)
  have hn := Tr.nodes_eq t
  refine ⟨h.lo, h.hi, ?_, h.full, fun hb => ?_, fun hb => ?_⟩
  · have := h.few
    rw [ht] at this
    have h2 : (nodesL t.kids - 1) * (1 + (S' - S)) ≤ t.nodes * (1 + (S' - S)) := Nat.mul_le_mul_right _ (by omega)
    omega
  · have := h.room hb
    rw [ht] at this
    omega
  · obtain ⟨N, h1, h2, h3⟩ := h.good hb
    rw [ht] at h3
    exact ⟨N, h1, h2, fun s => by rw [lang_alt hk4]; exact h3 s⟩
end
end Go.Proofs.Ytpeoomdfopjlmaa
