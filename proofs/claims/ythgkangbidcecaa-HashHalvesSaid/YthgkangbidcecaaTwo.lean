/- A struct variable of three cells whose second and third hold rows of the call's own: 'h.Keys, h.Vals = append(h.Keys, k), append(h.Vals, v)'. -/
import Derived.Test.YthgkangbidcecaaBase
import Derived.Deep.AppendLies
import Derived.Deep.RegionLaw
namespace Go.Proofs.Ythgkangbidcecaa
open Go.RowKit

structure HX (g0 : Nat) (w0 w : World) (t e : TypeId) (x0 x1 x2 a : Value) (na : Nat) (la : List Value) (b : Value) (nb : Nat) (bs : List Value) : Prop where
  below : Below g0 w0 w
  box : w.heap[g0]? = some (.cells #[x0, x1, x2] t (0, 0))
  ownA : w.ownsRow (g0 + 1) e 1 a na la
  ownB : w.ownsRow (g0 + 1) e 1 b nb bs
  ne : ∀ g, a.ownBlock = some g → b.ownBlock ≠ some g

section
variable {g0 : Nat} {w0 w w' : World} {t e : TypeId} {x0 x1 x2 a : Value} {na : Nat} {la : List Value} {b : Value} {nb : Nat} {bs : List Value}
theorem HX.lt (h : HX g0 w0 w t e x0 x1 x2 a na la b nb bs) : g0 < w.heap.size := by
  rcases Nat.lt_or_ge g0 w.heap.size with h' | h'
  · exact h'
  · have := h.box; rw [Array.getElem?_eq_none h'] at this; cases this
theorem HX.alloc (h : HX g0 w0 w t e x0 x1 x2 a na la b nb bs) (o : Obj) : HX g0 w0 (w.alloc o) t e x0 x1 x2 a na la b nb bs :=
  ⟨h.below.alloc (Nat.le_of_lt h.lt) o, (((World.grownBy_alloc w o none).block g0 h.lt (by simp)).trans h.box), h.ownA.alloc o, h.ownB.alloc o, h.ne⟩
theorem HX.drew (h : HX g0 w0 w t e x0 x1 x2 a na la b nb bs) : HX g0 w0 w.drew t e x0 x1 x2 a na la b nb bs := ⟨h.below.drew, h.box, h.ownA.drew, h.ownB.drew, h.ne⟩
theorem HX.drewN (h : HX g0 w0 w t e x0 x1 x2 a na la b nb bs) (n : Nat) : HX g0 w0 (w.drewN n) t e x0 x1 x2 a na la b nb bs := ⟨below_drewN h.below n, h.box, own_drewN h.ownA n, own_drewN h.ownB n, h.ne⟩
theorem HX.c0 (h : HX g0 w0 w t e x0 x1 x2 a na la b nb bs) : w.cell? ⟨g0, 0, none⟩ = some x0 := by rw [cell_of_row w g0 0 _ t _ h.box]; rfl
theorem HX.c1 (h : HX g0 w0 w t e x0 x1 x2 a na la b nb bs) : w.cell? ⟨g0, 1, none⟩ = some x1 := by rw [cell_of_row w g0 1 _ t _ h.box]; rfl
theorem HX.c2 (h : HX g0 w0 w t e x0 x1 x2 a na la b nb bs) : w.cell? ⟨g0, 2, none⟩ = some x2 := by rw [cell_of_row w g0 2 _ t _ h.box]; rfl
theorem HX.f (h : HX g0 w0 w t e x0 x1 x2 a na la b nb bs) (j : Nat) : w.frozen? ⟨g0, j, none⟩ = false := frozen_of_row w g0 j _ t h.box
theorem HX.swap_ne (h : HX g0 w0 w t e x0 x1 x2 a na la b nb bs) : ∀ g, b.ownBlock = some g → a.ownBlock ≠ some g := fun g hb ha => h.ne g ha hb

theorem own_other {v : Value} {n : Nat} {xs : List Value} {base : Nat} {row : Option Nat} (h : w.ownsRow base e 1 v n xs) (hg : w.grownBy w' row) (hne : ∀ g, v.ownBlock = some g → row ≠ some g) : w'.ownsRow base e 1 v n xs :=
  h.kept hg (by
    cases hv : v.ownBlock with
    | none => exact .inl rfl
    | some g => exact .inr (fun e => hne g hv e.symm))

theorem HX.app1 (h : HX g0 w0 w t e x0 x1 x2 a na la b nb bs) {a' : Value} {na' : Nat} {la' : List Value} {g H : Nat} (hg : w.grownBy w' a.ownBlock) (ha : w'.ownsRow (g0 + 1) e 1 a' na' la') (hv : a'.ownBlock = some g) (hat : a.ownBlock = some g ∨ g = H) (hH : w.heap.size = H) :
    HX g0 w0 w' t e x0 x1 x2 a' na' la' b nb bs := by
  refine ⟨h.below.grown hg (Nat.le_of_lt h.lt) (fun k hk => by have := (h.ownA.lt k hk).1; omega), (hg.block g0 h.lt (fun e => by have := (h.ownA.lt g0 e.symm).1; omega)).trans h.box, ha,
    own_other h.ownB hg h.swap_ne, fun g' hg' hb => ?_⟩
  rw [hv] at hg'
  obtain rfl : g = g' := by injection hg'
  rcases hat with h1 | h1
  · exact h.ne g h1 hb
  · have := (h.ownB.lt g hb).2
    omega
theorem HX.swap (h : HX g0 w0 w t e x0 x1 x2 a na la b nb bs) : HX g0 w0 w t e x0 x1 x2 b nb bs a na la := ⟨h.below, h.box, h.ownB, h.ownA, h.swap_ne⟩
theorem HX.app2 (h : HX g0 w0 w t e x0 x1 x2 a na la b nb bs) {b' : Value} {nb' : Nat} {bs' : List Value} {g H : Nat} (hg : w.grownBy w' b.ownBlock) (hb : w'.ownsRow (g0 + 1) e 1 b' nb' bs') (hv : b'.ownBlock = some g) (hat : b.ownBlock = some g ∨ g = H) (hH : w.heap.size = H) :
    HX g0 w0 w' t e x0 x1 x2 a na la b' nb' bs' := (h.swap.app1 hg hb hv hat hH).swap

theorem HX.store (h : HX g0 w0 w t e x0 x1 x2 a na la b nb bs) (j : Nat) (v : Value) {y0 y1 y2 : Value} (hy : (#[x0, x1, x2] : Array Value).setIfInBounds j v = #[y0, y1, y2]) : HX g0 w0 (w.setCell ⟨g0, j, none⟩ v) t e y0 y1 y2 a na la b nb bs := by
  have hg : w.grownBy (w.setCell ⟨g0, j, none⟩ v) (some g0) := ⟨rfl, rfl, rfl, by simp, fun k _ hk => heap_setCell_other w ⟨g0, j, none⟩ k v (fun e => hk (by simp [e]))⟩
  refine ⟨h.below.grown hg (Nat.le_of_lt h.lt) (fun k hk => by cases hk; exact Nat.le_refl _), ?_, own_other h.ownA hg (fun g hv => ?_), own_other h.ownB hg (fun g hv => ?_), h.ne⟩
  · rw [heap_setCell_same w g0 j _ t v h.box, hy]
  · have := (h.ownA.lt g hv).1; simp; omega
  · have := (h.ownB.lt g hv).1; simp; omega
theorem HX.store1 (h : HX g0 w0 w t e x0 x1 x2 a na la b nb bs) (v : Value) : HX g0 w0 (w.setCell ⟨g0, 1, none⟩ v) t e x0 v x2 a na la b nb bs := h.store 1 v rfl
theorem HX.store2 (h : HX g0 w0 w t e x0 x1 x2 a na la b nb bs) (v : Value) : HX g0 w0 (w.setCell ⟨g0, 2, none⟩ v) t e x0 x1 v a na la b nb bs := h.store 2 v rfl

theorem far_new {g : Nat} {v : Value} {n : Nat} {xs : List Value} {base : Nat} (h : w.ownsRow base e 1 v n xs) (hg : w.heap.size ≤ g) : some g ≠ v.ownBlock := fun hv => by
  have := (h.lt g hv.symm).2
  omega
theorem one_news {g : Nat} {u : Value} (h0 : w.cell? ⟨g, 0, none⟩ = some u) : ∀ j u', [u][j]? = some u' → w.cell? ((⟨g, 0, none⟩ : Addr).add j) = some u' := by
  intro j u' hj
  match j, hj with
  | 0, hj => simp at hj; subst hj; simpa [Addr.add] using h0
end
end Go.Proofs.Ythgkangbidcecaa
