/- What an automaton takes of a text, place by place. Plain. -/
import Derived.Test.YtfjhcoeehjephaaNfaMb
import Derived.Test.YtfjhcoeehjephaaHasMb
namespace Go.Proofs.Ytfjhcoeehjephaa
open Go.RowKit

def byteAt (s : ByteArray) (p : Nat) : Nat := (s.data.toList.getD p 0).toNat
theorem byteAt_lt (s : ByteArray) (p : Nat) : byteAt s p < 256 := UInt8.toNat_lt _
def hasE (e : Ed) (c : Nat) : Bool := hasB e.s0 e.s1 e.s2 e.s3 c
/-- the edge reads the text's byte -/
def Rd (e : Ed) (s : ByteArray) (p : Nat) : Prop := e.free = false ∧ hasE e (byteAt s p) = true
inductive On (E : List Ed) (S : Nat) (a : Int) (s : ByteArray) (p0 : Nat) : Nat → Int → Prop
  | start : 0 ≤ a → a < (S : Int) → On E S a s p0 p0 a
  | free {p : Nat} {e : Ed} : e ∈ E → e.free = true → On E S a s p0 p e.src → On E S a s p0 p e.dst
  | read {p : Nat} {e : Ed} : e ∈ E → p < s.size → Rd e s p → On E S a s p0 p e.src → On E S a s p0 (p + 1) e.dst
section
variable {E : List Ed} {S : Nat} {a : Int} {s : ByteArray} {p0 p : Nat} {i : Int}
theorem On.lo (h : On E S a s p0 p i) : p0 ≤ p := by
  induction h with
  | start _ _ => exact Nat.le_refl _
  | free _ _ _ ih => exact ih
  | read _ _ _ _ ih => omega
theorem On.range (hE : OkE E S) (h : On E S a s p0 p i) : 0 ≤ i ∧ i < (S : Int) := by
  cases h with
  | start h1 h2 => exact ⟨h1, h2⟩
  | free he _ _ => exact ⟨(hE _ he).2.2.1, (hE _ he).2.2.2⟩
  | read he _ _ _ => exact ⟨(hE _ he).2.2.1, (hE _ he).2.2.2⟩
/-- the first layer -/
theorem on_start {L : List Int} (hL : ∀ i, i ∈ L ↔ i = a) (ha : 0 ≤ a ∧ a < (S : Int)) (i : Int) : Rch E S L i ↔ On E S a s p0 p0 i := by
  constructor
  · intro h
    induction h with
    | root h1 _ _ => rw [(hL _).1 h1]; exact .start ha.1 ha.2
    | step he hf _ ih => exact .free he hf ih
  · intro h
    have key : ∀ q j, On E S a s p0 q j → q = p0 → Rch E S L j := fun q j h => by
      induction h with
      | start h1 h2 => intro _; exact .root ((hL _).2 rfl) h1 h2
      | free he hf _ ih => intro e; exact .step he hf (ih e)
      | read _ _ _ h9 _ => intro e; have := h9.lo; omega
    exact key _ _ h rfl
/-- the next layer -/
theorem on_next {L' : List Int} (hE : OkE E S) (hlo : p0 ≤ p) (hp : p < s.size) (hL : ∀ i, i ∈ L' ↔ ∃ e ∈ E, Rd e s p ∧ On E S a s p0 p e.src ∧ e.dst = i) (i : Int) : Rch E S L' i ↔ On E S a s p0 (p + 1) i := by
  constructor
  · intro h
    induction h with
    | root h1 _ _ =>
      obtain ⟨e, he, hr, ho, rfl⟩ := (hL _).1 h1
      exact .read he hp hr ho
    | step he hf _ ih => exact .free he hf ih
  · intro h
    have key : ∀ q j, On E S a s p0 q j → q = p + 1 → Rch E S L' j := fun q j h => by
      induction h with
      | start _ _ => intro e; omega
      | free he hf _ ih => intro e; exact .step he hf (ih e)
      | @read p' e he _ hr ho _ =>
        intro e9
        obtain rfl : p' = p := by omega
        exact .root ((hL _).2 ⟨e, he, hr, ho, rfl⟩) (hE _ he).2.2.1 (hE _ he).2.2.2
    exact key _ _ h rfl
/-- behind a place that nothing leaves there is nothing -/
theorem on_stop (hlo : p0 ≤ p) (hno : ∀ e ∈ E, p < s.size → Rd e s p → On E S a s p0 p e.src → False) {q : Nat} (h : On E S a s p0 q i) : q ≤ p := by
  induction h with
  | start _ _ => exact hlo
  | free _ _ _ ih => exact ih
  | @read p' e he hp hr ho ih =>
    rcases Nat.lt_or_ge p' p with h9 | h9
    · omega
    · obtain rfl : p' = p := by omega
      exact (hno e he hp hr ho).elim
end
open Classical in
noncomputable def onB (E : List Ed) (S : Nat) (a z : Int) (s : ByteArray) (p0 : Nat) (k : Nat) : Bool := decide (On E S a s p0 (p0 + k) z)
theorem onB_iff {E : List Ed} {S : Nat} {a z : Int} {s : ByteArray} {p0 k : Nat} : onB E S a z s p0 k = true ↔ On E S a s p0 (p0 + k) z := by
  unfold onB; simp
def outsTo (f : Nat → Bool) (p0 m : Nat) : List Int := ((List.range m).filter f).map (fun k => ((p0 + k : Nat) : Int))
theorem outsTo_next (f : Nat → Bool) (p0 m : Nat) : outsTo f p0 (m + 1) = if f m = true then outsTo f p0 m ++ [((p0 + m : Nat) : Int)] else outsTo f p0 m := by
  unfold outsTo
  rw [List.range_succ, List.filter_append, List.map_append]
  by_cases h : f m = true
  · rw [if_pos h]; simp [h]
  · rw [if_neg h]; simp [h]
theorem outsTo_stop (f : Nat → Bool) (p0 m k : Nat) (h : ∀ j, m ≤ j → f j = false) : outsTo f p0 (m + k) = outsTo f p0 m := by
  induction k with
  | zero => rfl
  | succ k ih => rw [Nat.add_succ, Nat.succ_eq_add_one, outsTo_next, if_neg (by rw [h (m + k) (by omega)]; decide)]; exact ih
theorem outsTo_len (f : Nat → Bool) (p0 m : Nat) : (outsTo f p0 m).length ≤ m := by
  unfold outsTo
  rw [List.length_map]
  exact Nat.le_trans (List.length_filter_le _ _) (by simp)
/-- the places at which it may end -/
noncomputable def endsN (E : List Ed) (S : Nat) (a z : Int) (s : ByteArray) (p0 : Nat) : List Int := outsTo (onB E S a z s p0) p0 (s.size + 1 - p0)

/-- the states that are read to -/
structure Nxt (S : Nat) (s : ByteArray) (p : Nat) (D : Ed → Prop) (next : List Int) (inl : List Bool) : Prop where
  len : inl.length = S
  nodup : next.Nodup
  mark : ∀ j, j < S → (inl.getD j false = true ↔ (j : Int) ∈ next)
  mem : ∀ i, i ∈ next ↔ p < s.size ∧ ∃ e, D e ∧ Rd e s p ∧ e.dst = i
  range : ∀ i ∈ next, 0 ≤ i ∧ i < (S : Int)
section
variable {S : Nat} {s : ByteArray} {p : Nat} {D D' : Ed → Prop} {next : List Int} {inl : List Bool}
theorem Nxt.begin : Nxt S s p (fun _ => False) [] (List.replicate S false) := ⟨by simp, by simp, fun j hj => by simp [hj], fun i => by simp, by simp⟩
theorem Nxt.iff (h : Nxt S s p D next inl) (hD : ∀ e, D' e ↔ D e) : Nxt S s p D' next inl := ⟨h.len, h.nodup, h.mark, fun i => by
  rw [h.mem i]
  constructor
  · rintro ⟨h1, e, h2, h3⟩; exact ⟨h1, e, (hD e).2 h2, h3⟩
  · rintro ⟨h1, e, h2, h3⟩; exact ⟨h1, e, (hD e).1 h2, h3⟩, h.range⟩
theorem Nxt.skip (h : Nxt S s p D next inl) {e : Ed} (hD : ∀ e', D' e' ↔ D e' ∨ e' = e) (hn : ¬ (p < s.size ∧ Rd e s p)) : Nxt S s p D' next inl := ⟨h.len, h.nodup, h.mark, fun i => by
  rw [h.mem i]
  constructor
  · rintro ⟨h1, e', h2, h3⟩; exact ⟨h1, e', (hD e').2 (.inl h2), h3⟩
  · rintro ⟨h1, e', h2, h3, h4⟩
    rcases (hD e').1 h2 with h2 | rfl
    · exact ⟨h1, e', h2, h3, h4⟩
    · exact absurd ⟨h1, h3⟩ hn, h.range⟩
theorem Nxt.dup (h : Nxt S s p D next inl) {e : Ed} {j : Nat} (hD : ∀ e', D' e' ↔ D e' ∨ e' = e) (hj : j < S) (he : e.dst = (j : Int)) (hm : inl.getD j false = true) : Nxt S s p D' next inl := ⟨h.len, h.nodup, h.mark, fun i => by
  constructor
  · intro h9
    obtain ⟨h1, e', h2, h3⟩ := (h.mem i).1 h9
    exact ⟨h1, e', (hD e').2 (.inl h2), h3⟩
  · rintro ⟨h1, e', h2, h3, h4⟩
    rcases (hD e').1 h2 with h2 | rfl
    · exact (h.mem i).2 ⟨h1, e', h2, h3, h4⟩
    · rw [← h4, he]; exact (h.mark j hj).1 hm, h.range⟩
theorem Nxt.push (h : Nxt S s p D next inl) {e : Ed} {j : Nat} (hD : ∀ e', D' e' ↔ D e' ∨ e' = e) (hj : j < S) (he : e.dst = (j : Int)) (hm : inl.getD j false = false) (hp : p < s.size) (hr : Rd e s p) : Nxt S s p D' (next ++ [(j : Int)]) (inl.set j true) := by
  have hn : (j : Int) ∉ next := fun h9 => by have := (h.mark j hj).2 h9; rw [hm] at this; cases this
  have hl := h.len
  refine ⟨by simp [hl], ?_, fun k hk => ?_, fun i => ?_, fun i hi => ?_⟩
  · rw [List.nodup_append]
    refine ⟨h.nodup, by simp, fun a ha b hb => ?_⟩
    obtain rfl : b = (j : Int) := by simpa using hb
    exact fun e => hn (e ▸ ha)
  · rw [List.mem_append]
    by_cases e9 : k = j
    · subst e9; simp [show k < inl.length by omega]
    · have e8 : (inl.set j true).getD k false = inl.getD k false := by simp [List.getD_eq_getElem?_getD, Ne.symm e9]
      rw [e8, h.mark k hk]
      constructor
      · exact .inl
      · rintro (h9 | h9)
        · exact h9
        · exact absurd (Int.ofNat.inj (by simpa using h9)) e9
  · rw [List.mem_append]
    constructor
    · rintro (h9 | h9)
      · obtain ⟨h1, e', h2, h3⟩ := (h.mem i).1 h9
        exact ⟨h1, e', (hD e').2 (.inl h2), h3⟩
      · obtain rfl : i = (j : Int) := by simpa using h9
        exact ⟨hp, e, (hD e).2 (.inr rfl), hr, he⟩
    · rintro ⟨h1, e', h2, h3, h4⟩
      rcases (hD e').1 h2 with h2 | rfl
      · exact .inl ((h.mem i).2 ⟨h1, e', h2, h3, h4⟩)
      · right; rw [← h4, he]; simp
  · rw [List.mem_append] at hi
    rcases hi with hi | hi
    · exact h.range i hi
    · obtain rfl : i = (j : Int) := by simpa using hi
      omega
theorem Nxt.few (h : Nxt S s p D next inl) : next.length ≤ S := pigeon S _ h.nodup h.range
end
end Go.Proofs.Ytfjhcoeehjephaa
