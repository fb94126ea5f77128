/- mini.Least: what the search for states keeps in memory. -/
import Derived.Test.YtfjhcoeehjephaaMMiNarMe
import Derived.Test.YtfjhcoeehjephaaMFlatMe
namespace Go.Proofs.Ytfjhcoeehjephaa.M9
open Go.RowKit Go.Maps Go.WideMaps

def cellW : List Int → Nat → Value := fun r j => .int .i64 (r.getD j 0)
/-- the map from parts to places, the states that were met, the rows that are whole: all made behind world B -/
structure LstW (B W : World) (gm m : Nat) (D : DataW Unit) (q : List Int) (va vw : Value) (met : List Nat) (wide : List (List Int)) : Prop where
  bel : Below B.heap.size B W
  nm : W.ownsMap Try.prog 3 (plainElem Try.prog 3) gm m D
  idx : IdxD intK D (met.map (fun i => q.getD i 0))
  hgm : B.heap.size ≤ gm
  all : W.ownsRow B.heap.size 3 1 va met.length (natsV met)
  wid : W.ownsRow B.heap.size 104 256 vw wide.length (flat 256 cellW [] wide)
section
variable {B W W' : World} {gm m : Nat} {D : DataW Unit} {q : List Int} {va vw : Value} {met : List Nat} {wide : List (List Int)} {S : Nat → Prop}
theorem LstW.ch (h : LstW B W gm m D q va vw met wide) (hb : But S W W') (h1 : ¬ S gm) (h2 : ∀ k, va.ownBlock = some k → ¬ S k) (h3 : ∀ k, vw.ownBlock = some k → ¬ S k) (h4 : ∀ k, k < B.heap.size → ¬ S k) : LstW B W' gm m D q va vw met wide :=
  ⟨h.bel.trans (hb.below h.bel.size (fun k hk => Nat.le_of_not_lt (fun h9 => h4 k h9 hk))), hb.maps h.nm h1, h.idx, h.hgm, hb.own h.all h2, hb.own h.wid h3⟩
theorem LstW.go (h : LstW B W gm m D q va vw met wide) (hb : Below W.heap.size W W') : LstW B W' gm m D q va vw met wide :=
  h.ch (But.of_below hb) (by have := h.nm.lt; omega) (fun k hk => by have := (h.all.lt k hk).2; omega) (fun k hk => by have := (h.wid.lt k hk).2; omega) (fun k hk => by have := h.bel.size; omega)
theorem LstW.alloc (h : LstW B W gm m D q va vw met wide) (o : Obj) : LstW B (W.alloc o) gm m D q va vw met wide := h.go ((Below.refl _ _).alloc (Nat.le_refl _) _)
/-- a row's cell is set -/
theorem LstW.cell (h : LstW B W gm m D q va vw met wide) {g : Nat} {cs : List Value} (hg : Blk W g 104 cs) (hgb : B.heap.size ≤ g) (hne : vw.ownBlock ≠ some g) (j : Nat) (v : Value) : LstW B (W.setCell ⟨g, j, none⟩ v) gm m D q va vw met wide :=
  h.ch (but_setCell W g j v) (fun e => map_blk_ne h.nm hg e) (fun k hk e => blk_own_ne hg h.all (by decide) (by rw [hk, e])) (fun k hk e => hne (by rw [hk, e])) (fun k hk e => by omega)
/-- a part more -/
theorem LstW.name (h : LstW B W gm m D q va vw met wide) {m' : Nat} {D' : DataW Unit} {x : Nat} (hg : W.grownBy W' (some gm)) (hn : W'.ownsMap Try.prog 3 (plainElem Try.prog 3) gm m' D') : Below B.heap.size B W' ∧ W'.ownsRow B.heap.size 3 1 va met.length (natsV met) ∧ W'.ownsRow B.heap.size 104 256 vw wide.length (flat 256 cellW [] wide) ∧ gm < W'.heap.size ∧ x = x :=
  have hb := But.of_grown hg
  have hgm := h.hgm
  ⟨h.bel.trans (hb.below h.bel.size (fun k hk => by injection hk with hk; omega)), hb.own h.all (fun k hk e => map_own_ne h.nm h.all (by rw [hk, ← e])), hb.own h.wid (fun k hk e => map_own_ne h.nm h.wid (by rw [hk, ← e])), hn.lt, rfl⟩
/-- a state more: the map and the list of states have grown together -/
theorem LstW.push (h : LstW B W gm m D q va vw met wide) {va' : Value} {x : Nat} {D' : DataW Unit} {m' : Nat} {W1 : World} (hg1 : W.grownBy W1 (some gm)) (hn : W1.ownsMap Try.prog 3 (plainElem Try.prog 3) gm m' D') (hi : IdxD intK D' ((met ++ [x]).map (fun i => q.getD i 0)))
    {o : Obj} (hown : W'.ownsRow B.heap.size 3 1 va' (met.length + 1) (natsV met ++ [.int .i64 (x : Int)])) (hg : (W1.alloc o).grownBy W' va.ownBlock) : LstW B W' gm m' D' q va' vw (met ++ [x]) wide := by
  obtain ⟨b1, a1, w1, -, -⟩ := h.name (x := x) hg1 hn
  have ha : Below W1.heap.size W1 (W1.alloc o) := (Below.refl _ _).alloc (Nat.le_refl _) _
  have a2 := own_kept a1 ha
  have w2 := own_kept w1 ha
  have n2 := hn.alloc o
  have b2 := b1.alloc b1.size o
  have hb := But.of_grown hg
  exact ⟨b2.trans (hb.below b2.size (fun k hk => (a2.lt k hk).1)), hb.maps n2 (fun e => map_own_ne n2 a2 e), hi, h.hgm, by rw [List.length_append]; unfold natsV at hown ⊢; rw [List.map_append]; exact hown,
    hb.own w2 (fun k hk e => own_own_ne w2 a2 (by decide) k hk e)⟩
/-- a row more -/
theorem LstW.row (h : LstW B W gm m D q va vw met wide) {vw' : Value} {r : List Int} (hown : W'.ownsRow B.heap.size 104 256 vw' (wide.length + 1) (flat 256 cellW [] wide ++ cellsOfEl 256 cellW r)) (hg : W.grownBy W' vw.ownBlock) : LstW B W' gm m D q va vw' met (wide ++ [r]) :=
  have hb := But.of_grown hg
  ⟨h.bel.trans (hb.below h.bel.size (fun k hk => (h.wid.lt k hk).1)), hb.maps h.nm (fun e => map_own_ne h.nm h.wid e), h.idx, h.hgm, hb.own h.all (fun k hk e => own_own_ne h.all h.wid (by decide) k hk e), by rw [List.length_append, flat_snoc]; exact hown⟩
end
end Go.Proofs.Ytfjhcoeehjephaa.M9
