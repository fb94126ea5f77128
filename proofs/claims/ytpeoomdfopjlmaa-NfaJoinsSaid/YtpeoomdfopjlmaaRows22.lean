/- Rows of edges in a slice of slices that the call has made itself. -/
import Derived.Test.YtpeoomdfopjlmaaNfa
import Derived.Deep.AppendLies
namespace Go.Proofs.Ytpeoomdfopjlmaa
open Go.RowKit

def edsV (l : List Ed) : List Value := (l.map edV).flatten
theorem edsV_snoc (l : List Ed) (e : Ed) : edsV (l ++ [e]) = edsV l ++ edV e := by simp [edsV]
theorem edV_length (e : Ed) : (edV e).length = 7 := rfl
theorem edsV_length (l : List Ed) : (edsV l).length = l.length * 7 := by
  induction l with
  | nil => rfl
  | cons e l ih =>
    have h : edsV (e :: l) = edV e ++ edsV l := by simp [edsV]
    rw [h, List.length_append, ih, edV_length, List.length_cons]; omega
theorem edsV_get (l : List Ed) : ∀ (k j : Nat), k < l.length → j < 7 → (edsV l)[k * 7 + j]? = some (EdC l k j) := by
  induction l with
  | nil => intro k j h _; exact absurd h (by simp)
  | cons e l ih =>
    intro k j hk hj
    have h : edsV (e :: l) = edV e ++ edsV l := by simp [edsV]
    rw [h]
    cases k with
    | zero =>
      rw [List.getElem?_append_left (by rw [edV_length]; omega)]
      have h1 : 0 * 7 + j < (edV e).length := by rw [edV_length]; omega
      rw [List.getElem?_eq_getElem h1]
      simp [EdC, List.getD_eq_getElem?_getD, List.getElem?_eq_getElem (show j < (edV e).length by rw [edV_length]; omega)]
    | succ k =>
      rw [List.getElem?_append_right (by rw [edV_length]; omega), edV_length, show (k + 1) * 7 + j - 7 = k * 7 + j by omega, ih k j (by simpa using hk) hj]
      simp [EdC]
/-- the edges that leave a state -/
def leave (E : List Ed) (i : Nat) : List Ed := E.filter (fun e => decide (e.src = (i : Int)))
theorem leave_snoc (E : List Ed) (e : Ed) (i : Nat) : leave (E ++ [e]) i = if e.src = (i : Int) then leave E i ++ [e] else leave E i := by
  unfold leave
  rw [List.filter_append]
  by_cases h : e.src = (i : Int)
  · rw [if_pos h]; simp [h]
  · rw [if_neg h]; simp [h]
theorem leave_len (E : List Ed) (i : Nat) : (leave E i).length ≤ E.length := List.length_filter_le _ _

theorem add_plain' (b o j : Nat) : (⟨b, o, none⟩ : Addr).add j = ⟨b, o + j, none⟩ := by unfold Addr.add; split <;> simp_all
theorem own_eds {w : World} {base c n : Nat} {e : TypeId} {A : Option Addr} {l : List Ed} (h : w.ownsRow base e 7 (.slice A n c) n (edsV l)) : Arr w w.heap.size 7 A n (EdC l) := fun hn => by
  have hl : l.length = n := by have := h.1; rw [edsV_length] at this; omega
  obtain ⟨g, cap, hv, _, hlt⟩ := h.form hn
  have hA : A = some ⟨g, 0, none⟩ := by injection hv
  subst hA
  refine ⟨g, 0, rfl, hlt, fun k j hk hj => ?_⟩
  have hc := h.cells (g := g) rfl (k * 7 + j) (EdC l k j) (edsV_get l k j (by omega) hj)
  rw [add_plain'] at hc
  exact hc
theorem far_own {w : World} {base g n size : Nat} {e : TypeId} {v : Value} {xs : List Value} (h : w.ownsRow base e size v n xs) (hg : w.heap.size ≤ g) : some g ≠ v.ownBlock := fun hv => by
  have := (h.lt g hv.symm).2
  omega

structure RW (w1 W : World) (g S : Nat) (vs : List Value) (ls : Nat → List Ed) : Prop where
  blk : Blk W g 29 vs
  len : vs.length = S
  own : ∀ i, i < S → W.ownsRow (g + 1) 55 7 (vs.getD i undef) (ls i).length (edsV (ls i))
  apart : ∀ i j, i < S → j < S → i ≠ j → ∀ b, (vs.getD i undef).ownBlock = some b → (vs.getD j undef).ownBlock ≠ some b
  bel : Below g w1 W
/-- row i has been appended to; the slice of slices does not say so yet -/
structure RM (w1 W : World) (g S : Nat) (vs : List Value) (ls : Nat → List Ed) (i : Nat) (e : Ed) (v : Value) : Prop where
  blk : Blk W g 29 vs
  len : vs.length = S
  own : ∀ j, j < S → j ≠ i → W.ownsRow (g + 1) 55 7 (vs.getD j undef) (ls j).length (edsV (ls j))
  new : W.ownsRow (g + 1) 55 7 v ((ls i).length + 1) (edsV (ls i ++ [e]))
  apart : ∀ i j, i < S → j < S → i ≠ j → ∀ b, (vs.getD i undef).ownBlock = some b → (vs.getD j undef).ownBlock ≠ some b
  fresh : ∀ j, j < S → j ≠ i → ∀ b, v.ownBlock = some b → (vs.getD j undef).ownBlock ≠ some b
  bel : Below g w1 W
section
variable {w1 W : World} {g S : Nat} {vs : List Value} {ls : Nat → List Ed}
theorem RW.lt (h : RW w1 W g S vs ls) : g < W.heap.size := h.blk.lt
theorem RW.drew (h : RW w1 W g S vs ls) : RW w1 W.drew g S vs ls := ⟨h.blk, h.len, fun i hi => (h.own i hi).drew, h.apart, h.bel.drew⟩
theorem RW.alloc (h : RW w1 W g S vs ls) (o : Obj) : RW w1 (W.alloc o) g S vs ls := ⟨h.blk.alloc o, h.len, fun i hi => (h.own i hi).alloc o, h.apart, h.bel.alloc (Nat.le_of_lt h.lt) o⟩
theorem RW.cell (h : RW w1 W g S vs ls) {i : Nat} (hi : i < S) : W.cell? ⟨g, i, none⟩ = some (vs.getD i undef) := by
  rw [h.blk.cell]
  have := h.len
  rw [List.getElem?_eq_getElem (by omega)]
  simp [show i < vs.length by omega]
theorem RW.app (h : RW w1 W g S vs ls) {i : Nat} (hi : i < S) {W' : World} {g5 n5 c5 : Nat} {e : Ed} (hgrow : W.grownBy W' (vs.getD i undef).ownBlock)
    (hown : W'.ownsRow (g + 1) 55 7 (.slice (some ⟨g5, 0, none⟩) n5 c5) ((ls i).length + 1) (edsV (ls i ++ [e]))) (hat : (vs.getD i undef).ownBlock = some g5 ∨ g5 = W.heap.size) :
    RM w1 W' g S vs ls i e (.slice (some ⟨g5, 0, none⟩) n5 c5) := by
  refine ⟨h.blk.same (hgrow.block g h.lt (fun e9 => ?_)), h.len, fun j hj hne => (h.own j hj).kept hgrow ?_, hown, h.apart, fun j hj hne b hb => ?_, h.bel.grown hgrow (Nat.le_of_lt h.lt) (fun k hk => ?_)⟩
  · have := ((h.own i hi).lt g e9.symm).1; omega
  · cases hv : (vs.getD j undef).ownBlock with
    | none => left; rfl
    | some b => right; exact fun e9 => h.apart j i hj hi hne b hv e9.symm
  · obtain rfl : g5 = b := by simpa [Value.ownBlock] using hb
    rcases hat with hat | hat
    · exact h.apart i j hi hj (Ne.symm hne) g5 hat
    · exact fun e9 => by have := ((h.own j hj).lt g5 e9).2; omega
  · have := ((h.own i hi).lt k hk).1; omega
theorem RM.store {i : Nat} {e : Ed} {v : Value} (h : RM w1 W g S vs ls i e v) (hi : i < S) : RW w1 (W.setCell ⟨g, i, none⟩ v) g S (vs.set i v) (fun j => if j = i then ls j ++ [e] else ls j) := by
  have hg : W.grownBy (W.setCell ⟨g, i, none⟩ v) (some g) := ⟨rfl, rfl, rfl, by show W.heap.size ≤ (W.heap.modify g _).size; simp, fun k _ hk => Below.heap_setCell _ _ _ k (fun e => hk (by rw [e]))⟩
  have hlen := h.len
  have hget : ∀ j, j < S → (vs.set i v).getD j undef = if j = i then v else vs.getD j undef := fun j hj => by
    by_cases e9 : j = i
    · subst e9; simp [show j < vs.length by omega]
    · rw [if_neg e9]; simp [List.getD_eq_getElem?_getD, Ne.symm e9]
  have hkeep : ∀ {u : Value} {n : Nat} {xs : List Value}, W.ownsRow (g + 1) 55 7 u n xs → (W.setCell ⟨g, i, none⟩ v).ownsRow (g + 1) 55 7 u n xs := fun {u n xs} hu => hu.kept hg (by
    cases hv : u.ownBlock with
    | none => left; rfl
    | some b => right; exact fun e9 => by have := (hu.lt b hv).1; cases e9; omega)
  refine ⟨h.blk.set i v, by simp [hlen], fun j hj => ?_, fun j k hj hk hne b hb => ?_, h.bel.setCell (p := ⟨g, i, none⟩) (Nat.le_refl _) _⟩
  · rw [hget j hj]
    by_cases e9 : j = i
    · subst e9
      rw [if_pos rfl, if_pos rfl]
      have := hkeep h.new
      rw [List.length_append]; exact this
    · rw [if_neg e9, if_neg e9]
      exact hkeep (h.own j hj e9)
  · rw [hget j hj] at hb
    rw [hget k hk]
    by_cases e1 : j = i
    · rw [if_pos e1] at hb
      rw [if_neg (by omega)]
      exact h.fresh k hk (by omega) b hb
    · rw [if_neg e1] at hb
      by_cases e2 : k = i
      · rw [if_pos e2]
        exact fun e9 => h.fresh j hj e1 b e9 hb
      · rw [if_neg e2]
        exact h.apart j k hj hk hne b hb
end
end Go.Proofs.Ytpeoomdfopjlmaa
