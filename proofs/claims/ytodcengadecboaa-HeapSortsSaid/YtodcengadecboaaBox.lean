/- A struct variable of two cells whose first holds a row of the call's own: a heap. -/
import Derived.Test.YtodcengadecboaaBase
import Derived.Deep.AppendLies
import Derived.Deep.RegionLaw
namespace Go.Proofs.Ytodcengadecboaa
open Go.RowKit

def numsV (q : IntKind) (l : List Int) : List Value := l.map (Value.int q)
theorem numsV_snoc (q : IntKind) (l : List Int) (t : Int) : numsV q (l ++ [t]) = numsV q l ++ [.int q t] := by simp [numsV]
theorem length_numsV (q : IntKind) (l : List Int) : (numsV q l).length = l.length := by simp [numsV]
theorem numsV_set (q : IntKind) (l : List Int) (j : Nat) (t : Int) : (numsV q l).set j (.int q t) = numsV q (l.set j t) := by simp [numsV, List.map_set]
theorem numsV_take (q : IntKind) (l : List Int) (j : Nat) : (numsV q l).take j = numsV q (l.take j) := by simp [numsV, List.map_take]
theorem numsV_get (q : IntKind) (l : List Int) (j : Nat) (h : j < l.length) : (numsV q l)[j]? = some (.int q (l.getD j 0)) := by simp [numsV, h]

def NumC (q : IntKind) (xs : List Int) : Nat → Nat → Value := fun k _ => .int q (xs.getD k 0)
theorem own_num {w : World} {base c n : Nat} {e : TypeId} {q : IntKind} {A : Option Addr} {xs : List Int} (h : w.ownsRow base e 1 (.slice A n c) n (numsV q xs)) : Arr w w.heap.size 1 A n (NumC q xs) := fun hn => by
  have hl : xs.length = n := by have := h.1; simpa [numsV] using this
  obtain ⟨b, off, rfl, hlt, hc⟩ := (Arr.of_own h) hn
  refine ⟨b, off, rfl, hlt, fun k j hk hj => ?_⟩
  rw [hc k j hk hj]
  simp [numsV, NumC, hl, hk]

structure HB (g0 : Nat) (w0 w : World) (t e : TypeId) (x1 a : Value) (na : Nat) (la : List Value) : Prop where
  below : Below g0 w0 w
  box : w.heap[g0]? = some (.cells #[a, x1] t (0, 0))
  own : w.ownsRow (g0 + 1) e 1 a na la

section
variable {g0 : Nat} {w0 w w' : World} {t e : TypeId} {x1 a : Value} {na : Nat} {la : List Value}
theorem HB.lt (h : HB g0 w0 w t e x1 a na la) : g0 < w.heap.size := by
  rcases Nat.lt_or_ge g0 w.heap.size with h' | h'
  · exact h'
  · have := h.box; rw [Array.getElem?_eq_none h'] at this; cases this
theorem HB.c0 (h : HB g0 w0 w t e x1 a na la) : w.cell? ⟨g0, 0, none⟩ = some a := by rw [cell_of_row w g0 0 _ t _ h.box]; rfl
theorem HB.c1 (h : HB g0 w0 w t e x1 a na la) : w.cell? ⟨g0, 1, none⟩ = some x1 := by rw [cell_of_row w g0 1 _ t _ h.box]; rfl
theorem HB.f (h : HB g0 w0 w t e x1 a na la) (j : Nat) : w.frozen? ⟨g0, j, none⟩ = false := frozen_of_row w g0 j _ t h.box
theorem HB.drew (h : HB g0 w0 w t e x1 a na la) : HB g0 w0 w.drew t e x1 a na la := ⟨h.below.drew, h.box, h.own.drew⟩
theorem HB.drewN (h : HB g0 w0 w t e x1 a na la) (n : Nat) : HB g0 w0 (w.drewN n) t e x1 a na la := ⟨below_drewN h.below n, h.box, own_drewN h.own n⟩
theorem HB.keep (h : HB g0 w0 w t e x1 a na la) (hb : Below w.heap.size w w') : HB g0 w0 w' t e x1 a na la :=
  ⟨h.below.trans (hb.mono (Nat.le_of_lt h.lt)), (hb.block _ h.lt).trans h.box, h.own.kept (row := none) ⟨hb.os, hb.tape, hb.output, hb.size, fun k hk _ => hb.block k hk⟩ (by cases a.ownBlock <;> simp)⟩
/-- the row's value is put into the box: any own row -/
theorem HB.put {x : Value} {a' : Value} {na' : Nat} {la' : List Value} (hb : Below g0 w0 w) (hbox : w.heap[g0]? = some (.cells #[x, x1] t (0, 0))) (ho : w.ownsRow (g0 + 1) e 1 a' na' la') :
    HB g0 w0 (w.setCell ⟨g0, 0, none⟩ a') t e x1 a' na' la' := by
  have hlt : g0 < w.heap.size := by
    rcases Nat.lt_or_ge g0 w.heap.size with h' | h'
    · exact h'
    · rw [Array.getElem?_eq_none h'] at hbox; cases hbox
  have hg : w.grownBy (w.setCell ⟨g0, 0, none⟩ a') (some g0) := ⟨rfl, rfl, rfl, by simp, fun k _ hk => heap_setCell_other w ⟨g0, 0, none⟩ k a' (fun e => hk (by simp [e]))⟩
  refine ⟨hb.grown hg (Nat.le_of_lt hlt) (fun k hk => by cases hk; exact Nat.le_refl _), ?_, ho.kept hg ?_⟩
  · rw [heap_setCell_same w g0 0 _ t a' hbox]; rfl
  · cases hv : a'.ownBlock with
    | none => exact .inl rfl
    | some g => exact .inr (fun e => by injection e with e; have := (ho.lt g hv).1; omega)
/-- a store into the row -/
theorem HB.set {g n cap : Nat} {q : IntKind} {ys : List Int} (h : HB g0 w0 w t e x1 (.slice (some ⟨g, 0, none⟩) n cap) n (numsV q ys)) (j : Nat) (u : Int) :
    HB g0 w0 (w.setCell ⟨g, j, none⟩ (.int q u)) t e x1 (.slice (some ⟨g, 0, none⟩) n cap) n (numsV q (ys.set j u)) := by
  obtain ⟨ho, hg⟩ := h.own.stored j (.int q u)
  have hlt := (h.own.lt g rfl).1
  refine ⟨h.below.grown hg (Nat.le_of_lt h.lt) (fun k hk => by cases hk; omega), (hg.block g0 h.lt (fun e => by cases e; omega)).trans h.box, ?_⟩
  rw [← numsV_set]
  exact ho
theorem HB.form {n : Nat} {q : IntKind} {ys : List Int} (h : HB g0 w0 w t e x1 a n (numsV q ys)) (hn : 0 < n) : ∃ g cap, a = .slice (some ⟨g, 0, none⟩) n cap := by
  obtain ⟨g, cap, hv, _⟩ := h.own.form hn
  exact ⟨g, cap, hv⟩
theorem HB.cell {g n cap : Nat} {q : IntKind} {ys : List Int} (h : HB g0 w0 w t e x1 (.slice (some ⟨g, 0, none⟩) n cap) n (numsV q ys)) (j : Nat) (hj : j < n) : w.cell? ⟨g, j, none⟩ = some (.int q (ys.getD j 0)) := by
  have hl : ys.length = n := by have := h.own.1; simpa [numsV] using this
  rw [h.own.cellAt j (by omega), numsV_get q ys j (by omega)]
theorem HB.frozen {g n cap : Nat} {q : IntKind} {ys : List Int} (h : HB g0 w0 w t e x1 (.slice (some ⟨g, 0, none⟩) n cap) n (numsV q ys)) (j : Nat) : w.frozen? ⟨g, j, none⟩ = false := h.own.frozenAt j
theorem HB.near {g n cap : Nat} {q : IntKind} {ys : List Int} (h : HB g0 w0 w t e x1 (.slice (some ⟨g, 0, none⟩) n cap) n (numsV q ys)) : g0 < g ∧ g < w.heap.size ∧ n ≤ cap := by
  have h1 := h.own.lt g rfl
  rcases h.own.2 with ⟨h', _⟩ | ⟨g', cap', cur, h', _, _, hnc, _⟩
  · simp at h'
  · simp only [Value.slice.injEq, Option.some.injEq, Addr.mk.injEq, and_true, true_and] at h'
    obtain ⟨rfl, rfl⟩ := h'
    exact ⟨by omega, h1.2, hnc⟩
theorem one_news {g : Nat} {u : Value} (h0 : w.cell? ⟨g, 0, none⟩ = some u) : ∀ j u', [u][j]? = some u' → w.cell? ((⟨g, 0, none⟩ : Addr).add j) = some u' := by
  intro j u' hj
  match j, hj with
  | 0, hj => simp at hj; subst hj; simpa [Addr.add] using h0
theorem HB.off (h : HB g0 w0 w t e x1 a na la) : some g0 ≠ a.ownBlock := fun hv => by have := (h.own.lt g0 hv.symm).1; omega
theorem own_cut {g n cap m base : Nat} {xs : List Value} (h : w.ownsRow base e 1 (.slice (some ⟨g, 0, none⟩) n cap) n xs) (hm : m ≤ n) : w.ownsRow base e 1 (.slice (some ⟨g, 0, none⟩) m cap) m (xs.take m) := by
  have hl := h.1
  rcases h.2 with ⟨h', _⟩ | ⟨g', cap', cur, h', hb, hg, hnc, hcm, hcs, htake⟩
  · simp at h'
  · simp only [Value.slice.injEq, Option.some.injEq, Addr.mk.injEq, and_true, true_and] at h'
    obtain ⟨rfl, rfl⟩ := h'
    refine ⟨by simp; omega, .inr ⟨g, cap, cur, rfl, hb, hg, by omega, hcm, hcs, ?_⟩⟩
    rw [← htake, List.take_take]
    congr 1
    omega
end
end Go.Proofs.Ytodcengadecboaa
