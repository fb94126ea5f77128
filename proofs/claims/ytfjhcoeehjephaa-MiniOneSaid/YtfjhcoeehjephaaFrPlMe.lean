/- Rows of places: what the reference computes with. Plain. -/
import Derived.Test.YtfjhcoeehjephaaLangMe
import Derived.Test.YtfjhcoeehjephaaLeavingMe
namespace Go.Proofs.Ytfjhcoeehjephaa
open Go.RowKit

def bi (b : Bool) : Int := if b = true then 1 else 0
theorem bi_true : bi true = 1 := rfl
theorem bi_false : bi false = 0 := rfl
def rowV (X : Nat → Bool) (L : Nat) : List Value := (List.range L).map (fun k => .int .i64 (bi (X k)))
theorem rowV_len (X : Nat → Bool) (L : Nat) : (rowV X L).length = L := by simp [rowV]
theorem rowV_get (X : Nat → Bool) {L k : Nat} (h : k < L) : (rowV X L)[k]? = some (.int .i64 (bi (X k))) := by simp [rowV, h]
def updB (X : Nat → Bool) (i : Nat) (b : Bool) : Nat → Bool := fun j => if j = i then b else X j
theorem rowV_set (X : Nat → Bool) (L i : Nat) (b : Bool) : (rowV X L).set i (.int .i64 (bi b)) = rowV (updB X i b) L := by
  apply List.ext_getElem?
  intro j
  rw [List.getElem?_set]
  by_cases h : j < L
  · rw [rowV_get _ h]
    by_cases e : i = j
    · subst e
      rw [if_pos rfl, rowV_len, if_pos h, rowV_get _ h]
      unfold updB
      rw [if_pos rfl]
    · rw [if_neg e, rowV_get _ h]
      unfold updB
      rw [if_neg (fun h => e h.symm)]
  · have h1 : (rowV X L)[j]? = none := List.getElem?_eq_none (by rw [rowV_len]; omega)
    have h2 : (rowV (updB X i b) L)[j]? = none := List.getElem?_eq_none (by rw [rowV_len]; omega)
    rw [h2]
    by_cases e : i = j
    · rw [if_pos e, rowV_len, if_neg (by omega)]
    · rw [if_neg e, h1]
theorem rowV_zero (L : Nat) : (Array.replicate L (Value.int .i64 0)) = (rowV (fun _ => false) L).toArray := by
  apply Array.ext
  · simp [rowV]
  · intro i h1 h2
    simp [rowV, bi]
theorem rowV_congr {X Y : Nat → Bool} {L : Nat} (h : ∀ j, j < L → X j = Y j) : rowV X L = rowV Y L := by
  unfold rowV
  apply List.map_congr_left
  intro j hj
  rw [h j (List.mem_range.1 hj)]

/-- how many places -/
def cnt (O : Nat → Bool) : Nat → Nat
  | 0 => 0
  | L + 1 => cnt O L + (if O L = true then 1 else 0)
theorem cnt_le (O : Nat → Bool) (L : Nat) : cnt O L ≤ L := by
  induction L with
  | zero => exact Nat.le_refl _
  | succ L ih => simp only [cnt]; split <;> omega
theorem cnt_mono {O O' : Nat → Bool} (h : ∀ j, O j = true → O' j = true) (L : Nat) : cnt O L ≤ cnt O' L := by
  induction L with
  | zero => exact Nat.le_refl _
  | succ L ih =>
    simp only [cnt]
    by_cases h1 : O L = true
    · rw [if_pos h1, if_pos (h L h1)]; omega
    · rw [if_neg h1]; split <;> omega
theorem cnt_lt {O O' : Nat → Bool} (h : ∀ j, O j = true → O' j = true) {L k : Nat} (hk : k < L) (h1 : O k = false) (h2 : O' k = true) : cnt O L < cnt O' L := by
  induction L with
  | zero => omega
  | succ L ih =>
    simp only [cnt]
    by_cases e : k = L
    · subst e
      rw [if_neg (by rw [h1]; decide), if_pos h2]
      have := cnt_mono h k
      omega
    · have := ih (by omega)
      by_cases h3 : O L = true
      · rw [if_pos h3, if_pos (h L h3)]; omega
      · rw [if_neg h3]; split <;> omega

/-- nothing is taken backwards, or behind the end -/
def Fwd (s : ByteArray) (K : Lg) : Prop := ∀ i j, K i j → i ≤ j ∧ (i ≤ s.size → j ≤ s.size)
theorem Fwd.id (s : ByteArray) : Fwd s (fun i j => j = i) := fun i j h => by
  have h : j = i := h
  omega
theorem Fwd.seq {s : ByteArray} {K M : Lg} (h1 : Fwd s K) (h2 : Fwd s M) : Fwd s (seqL K M) := fun i j ⟨k, h3, h4⟩ => by
  have := h1 i k h3
  have := h2 k j h4
  omega
theorem Fwd.pow {s : ByteArray} {K : Lg} (h : Fwd s K) (c : Nat) : Fwd s (powL K c) := by
  induction c with
  | zero => exact Fwd.id s
  | succ c ih => exact ih.seq h
theorem fwd_foldl {s : ByteArray} : ∀ (l : List Lg) (a : Lg), Fwd s a → (∀ K ∈ l, Fwd s K) → Fwd s (l.foldl seqL a)
  | [], _, h, _ => h
  | K :: l, a, h, hl => fwd_foldl l (seqL a K) (h.seq (hl K (by simp))) (fun M hM => hl M (by simp [hM]))
theorem lang_fwd (s : ByteArray) (t : Tr) (hsh : Shp t) : Fwd s (t.lang s) := by
  induction t using Tr.ind with
  | h t ih =>
    have hok := hsh.ok
    have hk : t.kind = 1 ∨ t.kind = 2 ∨ t.kind = 3 ∨ t.kind = 4 := by
      unfold OkT at hok
      omega
    rcases hk with hk | hk | hk | hk
    · rw [lang_set hk]
      rintro i j ⟨h1, _, rfl⟩
      omega
    · rw [lang_cat hk]
      unfold catL
      refine fwd_foldl _ _ (Fwd.id s) (fun K hK => ?_)
      obtain ⟨k, h1, rfl⟩ := List.mem_map.1 hK
      exact ih k h1 (hsh.kid h1)
    · rw [lang_alt hk]
      rintro i j ⟨K, hK, h9⟩
      obtain ⟨k, h1, rfl⟩ := List.mem_map.1 hK
      exact ih k h1 (hsh.kid h1) i j h9
    · have hr := repT_of hok hk
      have hm : t.kids.getD 0 noTr ∈ t.kids := getD_mem (by have := hr.one; omega)
      rw [hr.lang]
      rintro i j ⟨c, _, _, h9⟩
      exact (ih _ hm (hsh.kid hm)).pow c i j h9

/-- the places reached from some by a law -/
def Img (K : Lg) (X O : Nat → Bool) : Prop := ∀ j, O j = true ↔ ∃ i, X i = true ∧ K i j
def Sup (L : Nat) (X : Nat → Bool) : Prop := ∀ i, X i = true → i < L
theorem Img.sup {s : ByteArray} {K : Lg} {X O : Nat → Bool} (h : Img K X O) (hf : Fwd s K) (hX : Sup (s.size + 1) X) : Sup (s.size + 1) O := fun j hj => by
  obtain ⟨i, h1, h2⟩ := (h j).1 hj
  have := hX i h1
  have := (hf i j h2).2
  omega
theorem Img.seq {K M : Lg} {X Y Z : Nat → Bool} (h1 : Img K X Y) (h2 : Img M Y Z) : Img (seqL K M) X Z := fun j => by
  rw [h2 j]
  constructor
  · rintro ⟨k, h3, h4⟩
    obtain ⟨i, h5, h6⟩ := (h1 k).1 h3
    exact ⟨i, h5, k, h6, h4⟩
  · rintro ⟨i, h5, k, h6, h4⟩
    exact ⟨k, (h1 k).2 ⟨i, h5, h6⟩, h4⟩
theorem Img.lg {K M : Lg} {X Y : Nat → Bool} (h : Img K X Y) (hK : ∀ i j, K i j ↔ M i j) : Img M X Y := fun j => by
  rw [h j]
  constructor
  · rintro ⟨i, h1, h2⟩; exact ⟨i, h1, (hK i j).1 h2⟩
  · rintro ⟨i, h1, h2⟩; exact ⟨i, h1, (hK i j).2 h2⟩
theorem Img.id (X : Nat → Bool) : Img (fun i j => j = i) X X := fun j => ⟨fun h => ⟨j, h, rfl⟩, fun ⟨i, h1, h2⟩ => by
  have h2 : j = i := h2
  rw [h2]; exact h1⟩
/-- between so many and so many times -/
def midL (K : Lg) (a n : Nat) : Lg := fun i j => ∃ m : Nat, a ≤ m ∧ m ≤ n ∧ powL K m i j
theorem mid_begin (K : Lg) (a : Nat) (i j : Nat) : powL K a i j ↔ midL K a a i j :=
  ⟨fun h => ⟨a, Nat.le_refl _, Nat.le_refl _, h⟩, fun ⟨m, h1, h2, h3⟩ => by
    obtain rfl : m = a := by omega
    exact h3⟩
/-- a time more -/
theorem mid_next {K : Lg} {a n : Nat} {X C O O' : Nat → Bool} (han : a ≤ n) (hC : Img (powL K (n + 1)) X C) (hO : Img (midL K a n) X O) (hO' : ∀ j, O' j = true ↔ O j = true ∨ C j = true) : Img (midL K a (n + 1)) X O' := fun j => by
  rw [hO' j, hO j, hC j]
  constructor
  · rintro (⟨i, h1, m, h2, h3, h4⟩ | ⟨i, h1, h2⟩)
    · exact ⟨i, h1, m, h2, by omega, h4⟩
    · exact ⟨i, h1, n + 1, by omega, Nat.le_refl _, h2⟩
  · rintro ⟨i, h1, m, h2, h3, h4⟩
    by_cases e : m = n + 1
    · subst e; exact .inr ⟨i, h1, h4⟩
    · exact .inl ⟨i, h1, m, h2, by omega, h4⟩
/-- nothing new: nothing new ever -/
theorem mid_shut {K : Lg} {a n : Nat} {X C O : Nat → Bool} (han : a ≤ n) (hC : Img (powL K (n + 1)) X C) (hO : Img (midL K a n) X O) (hno : ∀ j, C j = true → O j = true) :
    ∀ d i j, X i = true → powL K (n + 1 + d) i j → O j = true := fun d => by
  induction d with
  | zero => exact fun i j h1 h2 => hno j ((hC j).2 ⟨i, h1, h2⟩)
  | succ d ih =>
    rintro i j h1 ⟨k, h2, h3⟩
    obtain ⟨i', h4, m, h5, h6, h7⟩ := (hO k).1 (ih i k h1 h2)
    by_cases e : m = n
    · subst e
      exact hno j ((hC j).2 ⟨i', h4, k, h7, h3⟩)
    · exact (hO j).2 ⟨i', h4, m + 1, by omega, by omega, k, h7, h3⟩
theorem rep_stops {K : Lg} {a n : Nat} {lo hi : Int} {X C O : Nat → Bool} (hlo : (a : Int) = lo) (han : a ≤ n) (hC : Img (powL K (n + 1)) X C) (hO : Img (midL K a n) X O) (hno : ∀ j, C j = true → O j = true) (hh : hi < 0 ∨ (n : Int) < hi) : Img (repL K lo hi) X O := fun j => by
  constructor
  · intro h
    obtain ⟨i, h1, m, h2, h3, h4⟩ := (hO j).1 h
    exact ⟨i, h1, m, by omega, by omega, h4⟩
  · rintro ⟨i, h1, m, h2, h3, h4⟩
    by_cases e : m ≤ n
    · exact (hO j).2 ⟨i, h1, m, by omega, e, h4⟩
    · refine mid_shut han hC hO hno (m - (n + 1)) i j h1 ?_
      rwa [show n + 1 + (m - (n + 1)) = m by omega]
theorem rep_ends {K : Lg} {a n : Nat} {lo hi : Int} {X O : Nat → Bool} (hlo : (a : Int) = lo) (hO : Img (midL K a n) X O) (hh : (n : Int) = hi) : Img (repL K lo hi) X O := hO.lg (fun i j => by
  constructor
  · rintro ⟨m, h1, h2, h3⟩; exact ⟨m, by omega, by omega, h3⟩
  · rintro ⟨m, h1, h2, h3⟩; exact ⟨m, by omega, by omega, h3⟩)
end Go.Proofs.Ytfjhcoeehjephaa
