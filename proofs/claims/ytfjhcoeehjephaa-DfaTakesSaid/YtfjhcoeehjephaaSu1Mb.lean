/- Sets of states: what is reached from sets over bytes. Plain. -/
import Derived.Test.YtfjhcoeehjephaaEnPlainMb
namespace Go.Proofs.Ytfjhcoeehjephaa
open Go.RowKit

section
variable {E : List Ed} {S : Nat}
open Classical in
/-- the states that are reached over nothing, rising -/
noncomputable def closN (E : List Ed) (S : Nat) (L : List Int) : List Nat := (List.range S).filter (fun q => decide (Rch E S L (q : Int)))
theorem mem_closN {L : List Int} {q : Nat} (hE : OkE E S) : q ∈ closN E S L ↔ Rch E S L (q : Int) := by
  unfold closN
  simp only [List.mem_filter, List.mem_range, decide_eq_true_eq]
  exact ⟨fun h => h.2, fun h => ⟨by have := h.range hE; omega, h⟩⟩
theorem closN_congr {L M : List Int} (h : ∀ i, i ∈ L ↔ i ∈ M) : closN E S L = closN E S M := by
  unfold closN
  congr 1
  funext q
  have key : ∀ {L M : List Int}, (∀ i, i ∈ L ↔ i ∈ M) → ∀ i, Rch E S L i → Rch E S M i := fun h i hr => by
    induction hr with
    | root h1 h2 h3 => exact .root ((h _).1 h1) h2 h3
    | step he hf _ ih => exact .step he hf ih
  have : Rch E S L (q : Int) ↔ Rch E S M (q : Int) := ⟨key h _, key (fun i => (h i).symm) _⟩
  apply Bool.eq_iff_iff.2
  simp only [decide_eq_true_eq]
  exact this
theorem closN_sorted (L : List Int) : (closN E S L).Pairwise (· < ·) := List.Pairwise.filter _ List.pairwise_lt_range
theorem closN_lt {L : List Int} {q : Nat} (h : q ∈ closN E S L) : q < S := by
  unfold closN at h
  simp only [List.mem_filter, List.mem_range] at h
  exact h.1
/-- two rising lists of the same members are one -/
theorem rising_ext : ∀ {l m : List Nat}, l.Pairwise (· < ·) → m.Pairwise (· < ·) → (∀ q, q ∈ l ↔ q ∈ m) → l = m
  | [], [], _, _, _ => rfl
  | [], b :: m, _, _, h => absurd ((h b).2 (by simp)) (by simp)
  | a :: l, [], _, _, h => absurd ((h a).1 (by simp)) (by simp)
  | a :: l, b :: m, hl, hm, h => by
    rw [List.pairwise_cons] at hl hm
    have h1 := (h a).1 (by simp)
    have h2 := (h b).2 (by simp)
    have hab : a = b := by
      rcases List.mem_cons.1 h1 with h3 | h3
      · exact h3
      · rcases List.mem_cons.1 h2 with h4 | h4
        · exact h4.symm
        · have := hl.1 b h4
          have := hm.1 a h3
          omega
    subst hab
    congr 1
    refine rising_ext hl.2 hm.2 (fun q => ?_)
    have := h q
    simp only [List.mem_cons] at this
    constructor
    · intro hq
      rcases this.1 (.inr hq) with h5 | h5
      · have := hl.1 q hq; omega
      · exact h5
    · intro hq
      rcases this.2 (.inr hq) with h5 | h5
      · have := hm.1 q hq; omega
      · exact h5
/-- the edges that read, of a state -/
def overE (E : List Ed) (i : Nat) : List Ed := E.filter (fun e => !e.free && decide (e.src = (i : Int)))
def freeD (E : List Ed) (i : Nat) : List Int := (E.filter (fun e => e.free && decide (e.src = (i : Int)))).map Ed.dst
theorem mem_overE {e : Ed} {i : Nat} : e ∈ overE E i ↔ e ∈ E ∧ e.free = false ∧ e.src = (i : Int) := by
  unfold overE
  simp
theorem mem_freeD {d : Int} {i : Nat} : d ∈ freeD E i ↔ ∃ e ∈ E, e.free = true ∧ e.src = (i : Int) ∧ e.dst = d := by
  unfold freeD
  simp only [List.mem_map, List.mem_filter, Bool.and_eq_true, decide_eq_true_eq]
  constructor
  · rintro ⟨e, ⟨h1, h2, h3⟩, h4⟩; exact ⟨e, h1, h2, h3, h4⟩
  · rintro ⟨e, h1, h2, h3, h4⟩; exact ⟨e, ⟨h1, h2, h3⟩, h4⟩
/-- where a byte leads from some states -/
def moveL (E : List Ed) (X : List Nat) (b : Nat) : List Int := X.flatMap (fun i => ((overE E i).filter (fun e => hasE e b)).map Ed.dst)
theorem mem_moveL {X : List Nat} {b : Nat} {d : Int} : d ∈ moveL E X b ↔ ∃ e ∈ E, e.free = false ∧ hasE e b = true ∧ (∃ i ∈ X, e.src = (i : Int)) ∧ e.dst = d := by
  unfold moveL
  simp only [List.mem_flatMap, List.mem_map, List.mem_filter, mem_overE]
  constructor
  · rintro ⟨i, hi, e, ⟨⟨h1, h2, h3⟩, h4⟩, h5⟩; exact ⟨e, h1, h2, h4, ⟨i, hi, h3⟩, h5⟩
  · rintro ⟨e, h1, h2, h4, ⟨i, hi, h3⟩, h5⟩; exact ⟨i, hi, e, ⟨⟨h1, h2, h3⟩, h4⟩, h5⟩
noncomputable def stepN (E : List Ed) (S : Nat) (X : List Nat) (b : Nat) : List Nat := closN E S (moveL E X b)
theorem stepN_nil (hE : OkE E S) {X : List Nat} {b : Nat} : stepN E S X b = [] ↔ moveL E X b = [] := by
  constructor
  · intro h
    cases hm : moveL E X b with
    | nil => rfl
    | cons d l =>
      have hd : d ∈ moveL E X b := by rw [hm]; simp
      obtain ⟨e, he, _, _, _, rfl⟩ := mem_moveL.1 hd
      have hr := hE e he
      have : (e.dst.toNat) ∈ stepN E S X b := by
        unfold stepN
        rw [mem_closN hE, show ((e.dst.toNat : Nat) : Int) = e.dst by omega]
        exact .root hd hr.2.2.1 hr.2.2.2
      rw [h] at this
      cases this
  · intro h
    unfold stepN
    rw [h]
    cases hm : closN E S [] with
    | nil => rfl
    | cons q l =>
      exfalso
      have hq : q ∈ closN E S [] := by rw [hm]; simp
      have hr := (mem_closN hE).1 hq
      have key : ∀ i, Rch E S [] i → False := fun i h => by
        induction h with
        | root h1 _ _ => cases h1
        | step _ _ _ ih => exact ih
      exact key _ hr
/-- bytes that all sets have alike -/
def Alike (E : List Ed) (b c : Nat) : Prop := ∀ e ∈ E, e.free = false → hasE e b = hasE e c
theorem stepN_alike {X : List Nat} {b c : Nat} (h : Alike E b c) : stepN E S X b = stepN E S X c := by
  unfold stepN
  refine closN_congr (fun d => ?_)
  rw [mem_moveL, mem_moveL]
  constructor
  · rintro ⟨e, h1, h2, h3, h4⟩; exact ⟨e, h1, h2, by rw [← h e h1 h2]; exact h3, h4⟩
  · rintro ⟨e, h1, h2, h3, h4⟩; exact ⟨e, h1, h2, by rw [h e h1 h2]; exact h3, h4⟩
/-- the sets of states that are reached -/
inductive RSet (E : List Ed) (S : Nat) (a : Int) : List Nat → Prop
  | first : RSet E S a (closN E S [a])
  | step {X : List Nat} {b : Nat} : RSet E S a X → b < 256 → moveL E X b ≠ [] → RSet E S a (stepN E S X b)
theorem RSet.sorted {a : Int} {X : List Nat} (h : RSet E S a X) : X.Pairwise (· < ·) ∧ ∀ q ∈ X, q < S := by
  cases h with
  | first => exact ⟨closN_sorted _, fun q hq => closN_lt hq⟩
  | step _ _ _ => exact ⟨closN_sorted _, fun q hq => closN_lt hq⟩
/-- a list of sets that is closed has them all -/
theorem RSet.all {a : Int} {all : List (List Nat)} (h0 : closN E S [a] ∈ all) (hc : ∀ X ∈ all, ∀ b, b < 256 → moveL E X b ≠ [] → stepN E S X b ∈ all) {X : List Nat} (h : RSet E S a X) : X ∈ all := by
  induction h with
  | first => exact h0
  | step _ hb hm ih => exact hc _ ih _ hb hm
theorem nodup_le {α : Type} [DecidableEq α] : ∀ {l m : List α}, l.Nodup → (∀ x ∈ l, x ∈ m) → l.length ≤ m.length
  | [], _, _, _ => by simp
  | x :: l, m, hn, h => by
    rw [List.nodup_cons] at hn
    have hx : x ∈ m := h x (by simp)
    have := nodup_le (l := l) (m := m.erase x) hn.2 (fun y hy => by
      rw [List.mem_erase_of_ne (show y ≠ x from fun e => hn.1 (by rw [← e]; exact hy))]
      exact h y (by simp [hy]))
    rw [List.length_erase_of_mem hx] at this
    have : 0 < m.length := List.length_pos_of_mem hx
    simp only [List.length_cons]
    omega
/-- a set stands for where one may be -/
def Stands (E : List Ed) (S : Nat) (a : Int) (s : ByteArray) (p0 p : Nat) (X : List Nat) : Prop := ∀ q : Nat, q ∈ X ↔ On E S a s p0 p (q : Int)
theorem Stands.start {a : Int} (hE : OkE E S) (ha : 0 ≤ a ∧ a < (S : Int)) (s : ByteArray) (p0 : Nat) : Stands E S a s p0 p0 (closN E S [a]) := fun q => by
  rw [mem_closN hE]
  exact on_start (by simp) ha _
theorem Stands.next {a : Int} {s : ByteArray} {p0 p : Nat} {X : List Nat} (hE : OkE E S) (hlo : p0 ≤ p) (hp : p < s.size) (h : Stands E S a s p0 p X) : Stands E S a s p0 (p + 1) (stepN E S X (byteAt s p)) := fun q => by
  unfold stepN
  rw [mem_closN hE]
  refine on_next hE hlo hp (fun d => ?_) _
  rw [mem_moveL]
  constructor
  · rintro ⟨e, h1, h2, h3, ⟨i, h4, h5⟩, h6⟩
    exact ⟨e, h1, ⟨h2, h3⟩, by rw [h5]; exact (h i).1 h4, h6⟩
  · rintro ⟨e, h1, h2, h3, h6⟩
    have hr := hE e h1
    exact ⟨e, h1, h2.1, h2.2, ⟨e.src.toNat, (h _).2 (by rw [show ((e.src.toNat : Nat) : Int) = e.src by omega]; exact h3), by omega⟩, h6⟩
theorem Stands.dead {a : Int} {s : ByteArray} {p0 p : Nat} {X : List Nat} (hE : OkE E S) (hlo : p0 ≤ p) (h : Stands E S a s p0 p X) (hm : p < s.size → moveL E X (byteAt s p) = []) {k : Nat} {i : Int} (ho : On E S a s p0 k i) : k ≤ p := by
  refine on_stop hlo (fun e he hp hr hs => ?_) ho
  have hx := hE e he
  have : e.dst ∈ moveL E X (byteAt s p) := mem_moveL.2 ⟨e, he, hr.1, hr.2, ⟨e.src.toNat, (h _).2 (by rw [show ((e.src.toNat : Nat) : Int) = e.src by omega]; exact hs), by omega⟩, rfl⟩
  rw [hm hp] at this
  cases this
end
end Go.Proofs.Ytfjhcoeehjephaa
