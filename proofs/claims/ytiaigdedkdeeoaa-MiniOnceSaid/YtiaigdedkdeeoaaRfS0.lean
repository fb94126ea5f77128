/- The reference's Least: what it keeps; plain facts. -/
import Derived.Test.YtiaigdedkdeeoaaRfA
import Derived.Test.YtiaigdedkdeeoaaMiLst
namespace Go.Proofs.Ytiaigdedkdeeoaa
open Go.RowKit Go.Maps Go.WideMaps

def RowV (RA : Nat → Option Addr) (rc : Nat → Nat) (wide : List (List Int)) (i : Nat) : Value := .slice (RA i) (wide.getD i []).length (rc i)
/-- the states that were met and the rows that are whole: all made behind world B -/
structure RsA (B W : World) (va vw : Value) (met : List Nat) (wide : List (List Int)) (RA : Nat → Option Addr) (rc : Nat → Nat) : Prop where
  bel : Below B.heap.size B W
  all : W.ownsRow B.heap.size 3 1 va met.length (natsV met)
  wid : NarX B W wide.length 0 vw (.slice none 0 0) RA rc wide []
  nra : ∀ i, i < wide.length → ∀ j, (RowV RA rc wide i).ownBlock = some j → va.ownBlock ≠ some j
/-- and a row in the making -/
structure RsB (B W : World) (gr : Nat) (va vw vr : Value) (met : List Nat) (wide : List (List Int)) (row : List Int) (RA : Nat → Option Addr) (rc : Nat → Nat) : Prop where
  a : RsA B W va vw met wide RA rc
  own : W.ownsRow gr 3 1 vr row.length (numsV .i64 row)
  hgr : B.heap.size + 1 ≤ gr
  lt : ∀ i, i < wide.length → ∀ j, (RowV RA rc wide i).ownBlock = some j → j < gr
  nr : ∀ j, vr.ownBlock = some j → va.ownBlock ≠ some j
  g0 : gr ≤ W.heap.size
section
variable {B W W' : World} {gr : Nat} {va vw vr : Value} {met : List Nat} {wide : List (List Int)} {row : List Int} {RA : Nat → Option Addr} {rc : Nat → Nat}
theorem RsA.go (h : RsA B W va vw met wide RA rc) (hb : Below W.heap.size W W') : RsA B W' va vw met wide RA rc :=
  ⟨h.bel.trans (hb.mono h.bel.size), own_kept h.all hb, h.wid.go hb, h.nra⟩
theorem RsB.go (h : RsB B W gr va vw vr met wide row RA rc) (hb : Below W.heap.size W W') : RsB B W' gr va vw vr met wide row RA rc :=
  ⟨h.a.go hb, own_kept h.own hb, h.hgr, h.lt, h.nr, Nat.le_trans h.g0 hb.size⟩
theorem RsA.begin (h : RsA B W va vw met wide RA rc) (hs : B.heap.size + 1 ≤ W.heap.size) : RsB B (W.alloc (.cells #[] 3)) W.heap.size va vw (.slice (some ⟨W.heap.size, 0, none⟩) 0 0) met wide [] RA rc := by
  refine ⟨h.go ((Below.refl _ _).alloc (Nat.le_refl _) _), ⟨rfl, .inr ⟨W.heap.size, 0, #[], rfl, Nat.le_refl _, heap_alloc_new W _, Nat.le_refl _, by simp [maxLen], rfl, rfl⟩⟩, hs, fun i hi j hj => ((h.wid.row i hi).lt j hj).2, fun j hj e => ?_, by simp⟩
  have h1 := (h.all.lt j e).2
  have h2 : some W.heap.size = some j := hj
  injection h2 with h2
  omega
/-- a number more in the row -/
theorem RsB.pushRow (h : RsB B W gr va vw vr met wide row RA rc) {o : Obj} {g : Nat} {v' : Value} {x : Int} (hv : v'.ownBlock = some g) (hown : W'.ownsRow gr 3 1 v' (row.length + 1) (numsV .i64 row ++ [.int .i64 x])) (hgw : (W.alloc o).grownBy W' vr.ownBlock) (hat : vr.ownBlock = some g ∨ g = (W.alloc o).heap.size) :
    RsB B W' gr va vw v' met wide (row ++ [x]) RA rc := by
  have h1 := h.go ((Below.refl _ _).alloc (Nat.le_refl _) o)
  have hB := But.of_grown hgw
  have hlt := fun j hj => (h1.own.lt j hj).1
  have hgr := h.hgr
  refine ⟨⟨h1.a.bel.trans (hB.below h1.a.bel.size (fun j hj => by have := hlt j hj; omega)), hB.own h1.a.all (fun j hj e => h1.nr j e hj), ?_, h1.a.nra⟩, by rw [numsV_snoc, List.length_append]; exact hown, h.hgr, h.lt, fun j hj => ?_, Nat.le_trans h1.g0 hgw.size⟩
  · exact h1.a.wid.ch hB (fun j hj e => own_own_ne h1.a.wid.on h1.own (by decide) j hj e) (fun j hj e => by cases hj) (fun i hi j hj e => by
      have a1 := h1.lt i hi j hj
      have a2 := hlt j e
      omega)
  · rw [hv] at hj
    injection hj with hj
    subst hj
    rcases hat with h9 | h9
    · exact h.nr _ h9
    · intro h8
      have := (h1.a.all.lt _ h8).2
      omega
/-- a state more -/
theorem RsB.pushMet (h : RsB B W gr va vw vr met wide row RA rc) {o : Obj} {g : Nat} {v' : Value} {x : Nat} (hv : v'.ownBlock = some g) (hown : W'.ownsRow B.heap.size 3 1 v' (met.length + 1) (natsV met ++ [.int .i64 (x : Int)])) (hgw : (W.alloc o).grownBy W' va.ownBlock) (hat : va.ownBlock = some g ∨ g = (W.alloc o).heap.size) :
    RsB B W' gr v' vw vr (met ++ [x]) wide row RA rc := by
  have h1 := h.go ((Below.refl _ _).alloc (Nat.le_refl _) o)
  have hB := But.of_grown hgw
  have hlt := fun j hj => (h1.a.all.lt j hj).1
  have hne : ∀ j, (va.ownBlock = some j → False) → (j < (W.alloc o).heap.size) → v'.ownBlock ≠ some j := fun j hj hlt e => by
    rw [hv] at e
    injection e with e
    subst e
    rcases hat with h9 | h9
    · exact hj h9
    · omega
  refine ⟨⟨h1.a.bel.trans (hB.below h1.a.bel.size (fun j hj => hlt j hj)), by rw [List.length_append]; unfold natsV at hown ⊢; rw [List.map_append]; exact hown, ?_, fun i hi j hj => ?_⟩, hB.own h1.own (fun j hj e => h1.nr j hj e), h.hgr, h.lt, fun j hj => ?_, Nat.le_trans h1.g0 hgw.size⟩
  · exact h1.a.wid.ch hB (fun j hj e => own_own_ne h1.a.wid.on h1.a.all (by decide) j hj e) (fun j hj e => by cases hj) (fun i hi j hj e => h1.a.nra i hi j hj e)
  · exact hne j (fun e => h1.a.nra i hi j hj e) ((h1.a.wid.row i hi).lt j hj).2
  · exact hne j (fun e => h1.nr j hj e) (h1.own.lt j hj).2
theorem getD_app3 {wide : List (List Int)} {row : List Int} {i : Nat} (h : i < wide.length) : (wide ++ [row]).getD i [] = wide.getD i [] := getD_app1 h
/-- the row is whole -/
theorem RsB.done {A : Option Addr} {c : Nat} (h : RsB B W gr va vw (.slice A row.length c) met wide row RA rc) {o : Obj} {v' : Value} (hown : W'.ownsRow (B.heap.size + 1) 34 1 v' (wide.length + 1) ((List.range wide.length).map (fun i => .slice (RA i) (wide.getD i []).length (rc i)) ++ [.slice A row.length c])) (hgw : (W.alloc o).grownBy W' vw.ownBlock) :
    RsA B W' va v' met (wide ++ [row]) (updA RA wide.length A) (updA rc wide.length c) := by
  have h1 := h.go ((Below.refl _ _).alloc (Nat.le_refl _) o)
  have hB := But.of_grown hgw
  have hadd := h1.a.wid.addRow (own_less h1.own h1.hgr) hown hgw
  refine ⟨h1.a.bel.trans (hB.below h1.a.bel.size (fun j hj => by have := (h1.a.wid.on.lt j hj).1; omega)), hB.own h1.a.all (fun j hj e => own_own_ne h1.a.all h1.a.wid.on (by decide) j hj e), by rw [List.length_append]; exact hadd, fun i hi j hj => ?_⟩
  rw [List.length_append, List.length_singleton] at hi
  unfold RowV updA at hj
  by_cases e : i = wide.length
  · subst e
    rw [if_pos rfl, if_pos rfl, getD_app2] at hj
    exact h.nr j hj
  · rw [if_neg e, if_neg e] at hj
    rw [getD_app3 (by omega)] at hj
    exact h.a.nra i (by omega) j hj
end
/-- the first place where f is false, as the loop looks for it -/
def Fst (f : Nat → Bool) (u : Nat) (kv : Int) : Prop := (kv = -1 ∧ ∀ q, q < u → f q = true) ∨ ∃ p : Nat, p < u ∧ kv = (p : Int) ∧ f p = false ∧ ∀ q, q < p → f q = true
theorem Fst.zero (f : Nat → Bool) : Fst f 0 (-1) := .inl ⟨rfl, fun q hq => by omega⟩
theorem Fst.lo {f : Nat → Bool} {u : Nat} {kv : Int} (h : Fst f u kv) : -1 ≤ kv ∧ kv < (u : Int) := by
  rcases h with ⟨rfl, _⟩ | ⟨p, h1, rfl, _⟩ <;> omega
theorem Fst.keep {f : Nat → Bool} {u : Nat} {kv : Int} (h : Fst f u kv) (h0 : 0 ≤ kv) : Fst f (u + 1) kv := by
  rcases h with ⟨rfl, _⟩ | ⟨p, h1, h2, h3, h4⟩
  · omega
  · exact .inr ⟨p, by omega, h2, h3, h4⟩
theorem Fst.skip {f : Nat → Bool} {u : Nat} {kv : Int} (h : Fst f u kv) (hf : f u = true) : Fst f (u + 1) kv := by
  rcases h with ⟨h1, h2⟩ | ⟨p, h1, h2, h3, h4⟩
  · exact .inl ⟨h1, fun q hq => by
      by_cases e : q = u
      · rw [e]; exact hf
      · exact h2 q (by omega)⟩
  · exact .inr ⟨p, by omega, h2, h3, h4⟩
theorem Fst.hit {f : Nat → Bool} {u : Nat} {kv : Int} (h : Fst f u kv) (h0 : kv < 0) (hf : f u = false) : Fst f (u + 1) (u : Int) := by
  rcases h with ⟨_, h2⟩ | ⟨p, h1, h2, h3, h4⟩
  · exact .inr ⟨u, by omega, rfl, hf, h2⟩
  · omega
theorem Fst.find {α : Type} {l : List α} {d : α} {f : Nat → Bool} {kv : Int} (h : Fst f l.length kv) {p : α → Bool} (hp : ∀ q, q < l.length → f q = !p (l.getD q d)) : (kv = -1 ∧ l.findIdx p = l.length) ∨ (kv = ((l.findIdx p : Nat) : Int) ∧ l.findIdx p < l.length) := by
  rcases h with ⟨h1, h2⟩ | ⟨k, h1, h2, h3, h4⟩
  · refine .inl ⟨h1, ?_⟩
    rw [List.findIdx_eq_length]
    intro x hx
    obtain ⟨q, hq, rfl⟩ := List.getElem_of_mem hx
    have := hp q hq
    rw [h2 q hq] at this
    simp [hq] at this
    exact this
  · have e : l.findIdx p = k := by
      rw [List.findIdx_eq h1]
      constructor
      · have := hp k h1
        rw [h3] at this
        simp [h1] at this
        exact this
      · intro q hq
        have := hp q (by omega)
        rw [h4 q hq] at this
        simp [show q < l.length by omega] at this
        exact this
    exact .inr ⟨by rw [h2, e], by rw [e]; exact h1⟩
open Classical in
theorem fst_idx {A : Aut} {T : List (List Bool)} {met : List Nat} {j : Nat} {kv : Int} (h : Fst (fun q => tb T j (met.getD q 0)) met.length kv) (ht : ∀ q, q < met.length → (tb T j (met.getD q 0) = false ↔ LE A A j (met.getD q 0))) : (kv = -1 ∧ idxL A met j = met.length) ∨ (kv = ((idxL A met j : Nat) : Int) ∧ idxL A met j < met.length) :=
  Fst.find (d := 0) (p := fun m => decide (LE A A j m)) h (fun q hq => by
    have h1 := ht q hq
    by_cases e : LE A A j (met.getD q 0)
    · rw [h1.2 e, decide_eq_true e]; rfl
    · have : tb T j (met.getD q 0) = true := by
        cases e2 : tb T j (met.getD q 0) with
        | true => rfl
        | false => exact (e (h1.1 e2)).elim
      rw [this, decide_eq_false e]; rfl)
/-- are two columns the same, as far as row u -/
def SameU (wide : List (List Int)) (b l : Nat) (u : Nat) : Bool := (List.range u).all (fun i => (wide.getD i []).getD b 0 == (wide.getD i []).getD l 0)
theorem sameU_succ (wide : List (List Int)) (b l u : Nat) : SameU wide b l (u + 1) = (SameU wide b l u && (wide.getD u []).getD b 0 == (wide.getD u []).getD l 0) := by
  unfold SameU; rw [List.range_succ, List.all_append]; simp
theorem sameU_all {wide : List (List Int)} {b l : Nat} : SameU wide b l wide.length = (colOf wide l == colOf wide b) := by
  have h : SameU wide b l wide.length = true ↔ (colOf wide l == colOf wide b) = true := by
    unfold SameU colOf
    rw [List.all_eq_true, beq_iff_eq]
    constructor
    · intro h
      apply List.map_congr_left
      intro r hr
      obtain ⟨i, hi, rfl⟩ := List.getElem_of_mem hr
      have := h i (List.mem_range.2 hi)
      simp [hi] at this
      simpa using this.symm
    · intro h i hi
      have hi := List.mem_range.1 hi
      have h2 := congrArg (fun l => l[i]?) h
      simp [hi] at h2
      simp [hi, h2]
  cases e1 : SameU wide b l wide.length <;> cases e2 : (colOf wide l == colOf wide b) <;> first | rfl | (rw [e1, e2] at h; simp at h)
/-- the box of what is made, and the first bytes of classes -/
structure OutW (B W : World) (g : Nat) (vl : Value) (least cl : List Nat) (nx ac : Value) : Prop where
  bel : Below B.heap.size B W
  hg : B.heap.size ≤ g
  box : Blk W g 26 (dCells cl nx ac)
  own : W.ownsRow (B.heap.size + 1) 3 1 vl least.length (natsV least)
section
variable {B W W' : World} {g : Nat} {vl : Value} {least cl : List Nat} {nx ac : Value}
theorem OutW.go (h : OutW B W g vl least cl nx ac) (hb : Below W.heap.size W W') : OutW B W' g vl least cl nx ac :=
  ⟨h.bel.trans (hb.mono h.bel.size), h.hg, h.box.below hb h.box.lt, own_kept h.own hb⟩
theorem OutW.put (h : OutW B W g vl least cl nx ac) {j : Nat} {v : Value} {cl' : List Nat} {nx' ac' : Value} (hd : (dCells cl nx ac).set j v = dCells cl' nx' ac') : OutW B (W.setCell ⟨g, j, none⟩ v) g vl least cl' nx' ac' :=
  have hb := but_setCell W g j v
  ⟨h.bel.setCell (p := ⟨g, j, none⟩) h.hg _, h.hg, by rw [← hd]; exact h.box.set j v, hb.own h.own (fun k hk e => blk_own_ne h.box h.own (by decide) (by rw [hk, e]))⟩
theorem OutW.push (h : OutW B W g vl least cl nx ac) {v : Value} {x : Nat} {o : Obj} (hown : W'.ownsRow (B.heap.size + 1) 3 1 v (least.length + 1) (natsV least ++ [.int .i64 (x : Int)])) (hg : (W.alloc o).grownBy W' vl.ownBlock) : OutW B W' g v (least ++ [x]) cl nx ac :=
  have h1 := h.go ((Below.refl _ _).alloc (Nat.le_refl _) o)
  have hb := But.of_grown hg
  ⟨h1.bel.trans (hb.below h1.bel.size (fun k hk => by have := (h1.own.lt k hk).1; omega)), h.hg, hb.blk h1.box (fun e => blk_own_ne h1.box h1.own (by decide) e), by rw [List.length_append]; unfold natsV at hown ⊢; rw [List.map_append]; exact hown⟩
theorem OutW.grew (h : OutW B W g vl least cl nx ac) {v : Value} {e : TypeId} {n : Nat} {xs : List Value} (ho : W.ownsRow (B.heap.size + 1) e 1 v n xs) (he : e ≠ 26 ∧ e ≠ 3) (hg : W.grownBy W' v.ownBlock) : OutW B W' g vl least cl nx ac :=
  have hb := But.of_grown hg
  ⟨h.bel.trans (hb.below h.bel.size (fun k hk => by have := (ho.lt k hk).1; omega)), h.hg, hb.blk h.box (fun e9 => blk_own_ne h.box ho (Ne.symm he.1) e9), hb.own h.own (fun k hk e9 => own_own_ne h.own ho (Ne.symm he.2) k hk e9)⟩
theorem NarX.box2 {k ka : Nat} {RA : Nat → Option Addr} {rc : Nat → Nat} {rows : List (List Int)} {abs : List Bool} (h : NarX B W k ka nx ac RA rc rows abs) {cs : List Value} {g : Nat} (hb : Blk W g 26 cs) (j : Nat) (v : Value) : NarX B (W.setCell ⟨g, j, none⟩ v) k ka nx ac RA rc rows abs :=
  h.ch (but_setCell W _ j v) (fun i hi e => blk_own_ne hb h.on (by decide) (by rw [hi, e])) (fun i hi e => blk_own_ne hb h.oa (by decide) (by rw [hi, e])) (fun i hk j hj e => blk_own_ne hb (h.row i hk) (by decide) (by rw [hj, e]))
end
end Go.Proofs.Ytiaigdedkdeeoaa
