/- mini.narrow: what it keeps in memory. -/
import Derived.Test.YtiaigdedkdeeoaaMiNar0
namespace Go.Proofs.Ytiaigdedkdeeoaa
open Go.RowKit Go.Maps Go.WideMaps

def dCells (cl : List Nat) (nx ac : Value) : List Value := (List.range 256).map (fun j => .int .u8 ((cl.getD j 0 : Nat) : Int)) ++ [nx, ac]
theorem dCells_len (cl : List Nat) (nx ac : Value) : (dCells cl nx ac).length = 258 := by rw [dCells, List.length_append, List.length_map, List.length_range]; rfl
theorem dCells_get (cl : List Nat) (nx ac : Value) {j : Nat} (h : j < 256) : (dCells cl nx ac)[j]? = some (.int .u8 ((cl.getD j 0 : Nat) : Int)) := by
  rw [dCells, List.getElem?_append_left (by rw [List.length_map, List.length_range]; exact h), List.getElem?_map, List.getElem?_range h]; rfl
theorem dCells_256 (cl : List Nat) (nx ac : Value) : (dCells cl nx ac)[256]? = some nx := by
  rw [dCells, List.getElem?_append_right (by rw [List.length_map, List.length_range]; exact Nat.le_refl _), List.length_map, List.length_range]; rfl
theorem dCells_257 (cl : List Nat) (nx ac : Value) : (dCells cl nx ac)[257]? = some ac := by
  rw [dCells, List.getElem?_append_right (by rw [List.length_map, List.length_range]; omega), List.length_map, List.length_range]; rfl
theorem dCells_ext {l : List Value} {cl : List Nat} {nx ac : Value} (hl : l.length = 258) (h1 : ∀ j, j < 256 → l[j]? = some (.int .u8 ((cl.getD j 0 : Nat) : Int))) (h2 : l[256]? = some nx) (h3 : l[257]? = some ac) : l = dCells cl nx ac := by
  apply List.ext_getElem?
  intro j
  by_cases h : j < 256
  · rw [h1 j h, dCells_get _ _ _ h]
  · by_cases e : j = 256
    · subst e; rw [h2, dCells_256]
    · by_cases e2 : j = 257
      · subst e2; rw [h3, dCells_257]
      · rw [List.getElem?_eq_none (by omega), List.getElem?_eq_none (by rw [dCells_len]; omega)]
theorem dCells_set {cl : List Nat} {nx ac : Value} {k c : Nat} (hk : k < 256) (hl : cl.length = k) : (dCells cl nx ac).set k (.int .u8 (c : Int)) = dCells (cl ++ [c]) nx ac := by
  refine dCells_ext (by rw [List.length_set, dCells_len]) (fun j hj => ?_) ?_ ?_
  · rw [List.getElem?_set, dCells_len]
    by_cases e : k = j
    · subst e
      rw [if_pos rfl, if_pos (by omega), ← hl, getD_app2]
    · rw [if_neg e, dCells_get _ _ _ hj]
      by_cases h : j < k
      · rw [getD_app1 (by omega)]
      · rw [List.getD_eq_getElem?_getD, List.getElem?_eq_none (by omega), List.getD_eq_getElem?_getD, List.getElem?_eq_none (by rw [List.length_append, List.length_singleton]; omega)]
  · rw [List.getElem?_set, if_neg (by omega), dCells_256]
  · rw [List.getElem?_set, if_neg (by omega), dCells_257]
theorem dCells_nx (cl : List Nat) (nx ac v : Value) : (dCells cl nx ac).set 256 v = dCells cl v ac := by
  refine dCells_ext (by rw [List.length_set, dCells_len]) (fun j hj => ?_) ?_ ?_
  · rw [List.getElem?_set, if_neg (by omega), dCells_get _ _ _ hj]
  · rw [List.getElem?_set, if_pos rfl, if_pos (by rw [dCells_len]; omega)]
  · rw [List.getElem?_set, if_neg (by omega), dCells_257]
theorem dCells_ac (cl : List Nat) (nx ac v : Value) : (dCells cl nx ac).set 257 v = dCells cl nx v := by
  refine dCells_ext (by rw [List.length_set, dCells_len]) (fun j hj => ?_) ?_ ?_
  · rw [List.getElem?_set, if_neg (by omega), dCells_get _ _ _ hj]
  · rw [List.getElem?_set, if_neg (by omega), dCells_256]
  · rw [List.getElem?_set, if_pos rfl, if_pos (by rw [dCells_len]; omega)]
theorem zs26_cells : zs26.toList = dCells [] (.slice none 0 0) (.slice none 0 0) := by
  have h0 : zs26.toList = List.replicate 256 (Value.int .u8 0) ++ [Value.slice none 0 0, Value.slice none 0 0] := rfl
  rw [h0]
  refine dCells_ext (by rw [List.length_append, List.length_replicate]; rfl) (fun j hj => ?_) ?_ ?_
  · rw [List.getElem?_append_left (by rw [List.length_replicate]; exact hj), List.getElem?_replicate, if_pos hj]; rfl
  · rw [List.getElem?_append_right (by rw [List.length_replicate]; exact Nat.le_refl _), List.length_replicate]; rfl
  · rw [List.getElem?_append_right (by rw [List.length_replicate]; omega), List.length_replicate]; rfl
/-- what narrowing keeps -/
structure NarW (w W : World) (gm m : Nat) (D : DataW Unit) (tx : List Bs) (vl : Value) (least cl : List Nat) (nx ac : Value) : Prop where
  bel : Below w.heap.size w W
  r6 : Blk W w.heap.size 26 zs26.toList
  box : Blk W (w.heap.size + 1) 26 (dCells cl nx ac)
  nm : W.ownsMap Try.prog 9 (plainElem Try.prog 3) gm m D
  idx : IdxD textK D tx
  size : Maps.size D = tx.length
  hgm : w.heap.size + 1 < gm
  own : W.ownsRow (w.heap.size + 1) 3 1 vl least.length (natsV least)
section
variable {w W W' : World} {gm m : Nat} {D : DataW Unit} {tx : List Bs} {vl : Value} {least cl : List Nat} {nx ac : Value} {S : Nat → Prop}
theorem NarW.ch (h : NarW w W gm m D tx vl least cl nx ac) (hb : But S W W') (h1 : ¬ S w.heap.size) (h2 : ¬ S (w.heap.size + 1)) (h3 : ¬ S gm) (h4 : ∀ k, vl.ownBlock = some k → ¬ S k) (h5 : ∀ k, k < w.heap.size → ¬ S k) : NarW w W' gm m D tx vl least cl nx ac :=
  ⟨h.bel.trans (hb.below h.bel.size (fun k hk => Nat.le_of_not_lt (fun h9 => h5 k h9 hk))), hb.blk h.r6 h1, hb.blk h.box h2, hb.maps h.nm h3, h.idx, h.size, h.hgm, hb.own h.own h4⟩
theorem NarW.go (h : NarW w W gm m D tx vl least cl nx ac) (hb : Below W.heap.size W W') : NarW w W' gm m D tx vl least cl nx ac :=
  h.ch (But.of_below hb) (by have := h.r6.lt; omega) (by have := h.box.lt; omega) (by have := h.nm.lt; omega) (fun k hk => by have := (h.own.lt k hk).2; omega) (fun k hk => by have := h.bel.size; omega)
theorem NarW.alloc (h : NarW w W gm m D tx vl least cl nx ac) (o : Obj) : NarW w (W.alloc o) gm m D tx vl least cl nx ac := h.go ((Below.refl _ _).alloc (Nat.le_refl _) _)
/-- a key more -/
theorem NarW.name (h : NarW w W gm m D tx vl least cl nx ac) {m' : Nat} {D' : DataW Unit} {tx' : List Bs} (hg : W.grownBy W' (some gm)) (hn : W'.ownsMap Try.prog 9 (plainElem Try.prog 3) gm m' D') (hi : IdxD textK D' tx') (hs : Maps.size D' = tx'.length) : NarW w W' gm m' D' tx' vl least cl nx ac :=
  have hb := But.of_grown hg
  have hgm := h.hgm
  ⟨h.bel.trans (hb.below h.bel.size (fun k hk => by injection hk with hk; omega)), hb.blk h.r6 (fun e => by injection e with e; omega), hb.blk h.box (fun e => by injection e with e; omega), hn, hi, hs, h.hgm, hb.own h.own (fun k hk e => map_own_ne h.nm h.own (by rw [hk, ← e]))⟩
/-- a byte more -/
theorem NarW.push (h : NarW w W gm m D tx vl least cl nx ac) {v : Value} {x : Nat} (hown : W'.ownsRow (w.heap.size + 1) 3 1 v (least.length + 1) (natsV least ++ [.int .i64 (x : Int)])) (hg : W.grownBy W' vl.ownBlock) : NarW w W' gm m D tx v (least ++ [x]) cl nx ac :=
  have hb := But.of_grown hg
  have hlt := fun k hk => (h.own.lt k hk).1
  ⟨h.bel.trans (hb.below h.bel.size (fun k hk => by have := hlt k hk; omega)), hb.blk h.r6 (fun e => by have := hlt _ e; omega), hb.blk h.box (fun e => blk_own_ne h.box h.own (by decide) e), hb.maps h.nm (fun e => map_own_ne h.nm h.own e), h.idx, h.size, h.hgm,
    by rw [List.length_append]; unfold natsV at hown ⊢; rw [List.map_append]; exact hown⟩
/-- a cell of the box is set -/
theorem NarW.put (h : NarW w W gm m D tx vl least cl nx ac) {j : Nat} {v : Value} {cl' : List Nat} {nx' ac' : Value} (hd : (dCells cl nx ac).set j v = dCells cl' nx' ac') : NarW w (W.setCell ⟨w.heap.size + 1, j, none⟩ v) gm m D tx vl least cl' nx' ac' :=
  have hb := but_setCell W (w.heap.size + 1) j v
  have hgm := h.hgm
  ⟨h.bel.setCell (p := ⟨w.heap.size + 1, j, none⟩) (Nat.le_succ _) _, hb.blk h.r6 (by omega), by rw [← hd]; exact h.box.set j v, hb.maps h.nm (by omega), h.idx, h.size, h.hgm, hb.own h.own (fun k hk e => blk_own_ne h.box h.own (by decide) (by rw [hk, e]))⟩
end
/-- rows and marks that are made already -/
structure NarX (w W : World) (k ka : Nat) (nx ac : Value) (RA : Nat → Option Addr) (rc : Nat → Nat) (rows : List (List Int)) (abs : List Bool) : Prop where
  len : rows.length = k
  alen : abs.length = ka
  on : W.ownsRow (w.heap.size + 1) 34 1 nx k ((List.range k).map (fun i => .slice (RA i) (rows.getD i []).length (rc i)))
  row : ∀ i, i < k → W.ownsRow (w.heap.size + 1) 3 1 (.slice (RA i) (rows.getD i []).length (rc i)) (rows.getD i []).length (numsV .i64 (rows.getD i []))
  oa : W.ownsRow (w.heap.size + 1) 4 1 ac ka (abs.map Value.bool)
section
variable {w W W' : World} {k ka : Nat} {nx ac : Value} {RA : Nat → Option Addr} {rc : Nat → Nat} {rows : List (List Int)} {abs : List Bool} {S : Nat → Prop}
theorem NarX.ch (h : NarX w W k ka nx ac RA rc rows abs) (hb : But S W W') (h1 : ∀ j, nx.ownBlock = some j → ¬ S j) (h2 : ∀ j, ac.ownBlock = some j → ¬ S j) (h3 : ∀ i, i < k → ∀ j, (Value.slice (RA i) (rows.getD i []).length (rc i)).ownBlock = some j → ¬ S j) : NarX w W' k ka nx ac RA rc rows abs :=
  ⟨h.len, h.alen, hb.own h.on h1, fun i hi => hb.own (h.row i hi) (h3 i hi), hb.own h.oa h2⟩
theorem NarX.go (h : NarX w W k ka nx ac RA rc rows abs) (hb : Below W.heap.size W W') : NarX w W' k ka nx ac RA rc rows abs :=
  h.ch (But.of_below hb) (fun j hj => by have := (h.on.lt j hj).2; omega) (fun j hj => by have := (h.oa.lt j hj).2; omega) (fun i hi j hj => by have := ((h.row i hi).lt j hj).2; omega)
/-- a cell of the box is set -/
theorem NarX.box (h : NarX w W k ka nx ac RA rc rows abs) {cs : List Value} (hb : Blk W (w.heap.size + 1) 26 cs) (j : Nat) (v : Value) : NarX w (W.setCell ⟨w.heap.size + 1, j, none⟩ v) k ka nx ac RA rc rows abs :=
  h.ch (but_setCell W _ j v) (fun i hi e => blk_own_ne hb h.on (by decide) (by rw [hi, e])) (fun i hi e => blk_own_ne hb h.oa (by decide) (by rw [hi, e])) (fun i hk j hj e => blk_own_ne hb (h.row i hk) (by decide) (by rw [hj, e]))
def updA {α : Type} (f : Nat → α) (k : Nat) (a : α) : Nat → α := fun i => if i = k then a else f i
/-- a row more -/
theorem NarX.addRow (h : NarX w W k ka nx ac RA rc rows abs) {v : Value} {A : Option Addr} {c : Nat} {l : List Int} (hl : W.ownsRow (w.heap.size + 1) 3 1 (.slice A l.length c) l.length (numsV .i64 l))
    (hown : W'.ownsRow (w.heap.size + 1) 34 1 v (k + 1) ((List.range k).map (fun i => .slice (RA i) (rows.getD i []).length (rc i)) ++ [.slice A l.length c])) (hg : W.grownBy W' nx.ownBlock) :
    NarX w W' (k + 1) ka v ac (updA RA k A) (updA rc k c) (rows ++ [l]) abs := by
  have hb := But.of_grown hg
  have e1 : ∀ i, i < k → (rows ++ [l]).getD i [] = rows.getD i [] := fun i hi => getD_app1 (by rw [h.len]; exact hi)
  have e2 : (rows ++ [l]).getD k [] = l := by rw [← h.len]; exact getD_app2
  refine ⟨by rw [List.length_append, h.len]; rfl, h.alen, ?_, fun i hi => ?_, hb.own h.oa (fun j hj e => own_own_ne h.oa h.on (by decide) j hj e)⟩
  · rw [List.range_succ, List.map_append, List.map_singleton, e2]
    unfold updA
    rw [if_pos rfl, if_pos rfl]
    have e3 : (List.range k).map (fun i => Value.slice (if i = k then A else RA i) ((rows ++ [l]).getD i []).length (if i = k then c else rc i)) = (List.range k).map (fun i => Value.slice (RA i) (rows.getD i []).length (rc i)) := by
      apply List.map_congr_left
      intro i hi
      have := List.mem_range.1 hi
      rw [if_neg (by omega), if_neg (by omega), e1 i this]
    rw [e3]; exact hown
  · unfold updA
    by_cases e : i = k
    · rw [if_pos e, if_pos e, e, e2]
      exact hb.own hl (fun j hj e9 => own_own_ne hl h.on (by decide) j hj e9)
    · rw [if_neg e, if_neg e, e1 i (by omega)]
      exact hb.own (h.row i (by omega)) (fun j hj e9 => own_own_ne (h.row i (by omega)) h.on (by decide) j hj e9)
/-- a mark more -/
theorem NarX.addMark (h : NarX w W k ka nx ac RA rc rows abs) {v : Value} {x : Bool} (hown : W'.ownsRow (w.heap.size + 1) 4 1 v (ka + 1) (abs.map Value.bool ++ [.bool x])) (hg : W.grownBy W' ac.ownBlock) : NarX w W' k (ka + 1) nx v RA rc rows (abs ++ [x]) :=
  have hb := But.of_grown hg
  ⟨h.len, by rw [List.length_append, h.alen]; rfl, hb.own h.on (fun j hj e => own_own_ne h.on h.oa (by decide) j hj e), fun i hi => hb.own (h.row i hi) (fun j hj e => own_own_ne (h.row i hi) h.oa (by decide) j hj e), by rw [List.map_append]; exact hown⟩
/-- a row of slices or marks has grown: the rest stays -/
theorem NarW.grew {gm m : Nat} {D : DataW Unit} {tx : List Bs} {vl : Value} {least cl : List Nat} (h : NarW w W gm m D tx vl least cl nx ac) {v : Value} {e : TypeId} {n : Nat} {xs : List Value} (ho : W.ownsRow (w.heap.size + 1) e 1 v n xs) (he : e ≠ 26 ∧ e ≠ 3) (hg : W.grownBy W' v.ownBlock) : NarW w W' gm m D tx vl least cl nx ac :=
  h.ch (But.of_grown hg) (fun e9 => by have := (ho.lt _ e9).1; omega) (fun e9 => blk_own_ne h.box ho (Ne.symm he.1) e9) (fun e9 => map_own_ne h.nm ho e9) (fun k hk e9 => own_own_ne h.own ho (Ne.symm he.2) k hk e9) (fun k hk e9 => by have := (ho.lt _ e9).1; omega)
end
theorem dCells_one (cl : List Nat) (Ax Ay : Option Addr) (n m cx cy : Nat) : (dCells cl (.slice Ax n cx) (.slice Ay m cy)).toArray.all (·.oneCell') = true := by
  rw [Array.all_eq_true_iff_forall_mem]
  intro x hx
  simp only [dCells, List.mem_toArray, List.mem_append, List.mem_map] at hx
  rcases hx with ⟨b, _, rfl⟩ | hx
  · rfl
  · simp at hx
    rcases hx with rfl | rfl <;> rfl
/-- what was made is an automaton -/
theorem narX_dfa {w W : World} {n cx cy : Nat} {Ax Ay : Option Addr} {RA : Nat → Option Addr} {rc : Nat → Nat} {rows : List (List Int)} {abs : List Bool} {cl : List Nat} (h : NarX w W n n (.slice Ax n cx) (.slice Ay n cy) RA rc rows abs) (hc : ∀ b, b < 256 → cl.getD b 0 < 256) (hn : n ≤ 400) (hr : ∀ i, i < n → (rows.getD i []).length ≤ 256) :
    DfaIn W (dCells cl (.slice Ax n cx) (.slice Ay n cy)).toArray Ax Ay n n cx cy ⟨fun b => cl.getD b 0, rows, abs⟩ RA rc := by
  refine ⟨⟨by rw [List.size_toArray, dCells_len], fun b hb => by rw [List.getElem?_toArray]; exact dCells_get _ _ _ hb, by rw [List.getElem?_toArray]; exact dCells_256 _ _ _, by rw [List.getElem?_toArray]; exact dCells_257 _ _ _, hc⟩, ⟨h.len, by omega, fun hp => ?_, fun i hi => own_ints (h.row i hi), fun i hi => by have := hr i hi; show (rows.getD i []).length ≤ _; omega⟩, h.alen, by omega, fun hp => ?_⟩
  · obtain ⟨b, o, e, hlt, hcell⟩ := Arr.of_own h.on hp
    refine ⟨b, o, e, hlt, fun i j hi hj => ?_⟩
    have e5 : ((List.range n).map (fun i => Value.slice (RA i) (rows.getD i []).length (rc i))).getD i undef = .slice (RA i) (rows.getD i []).length (rc i) := by
      rw [List.getD_eq_getElem?_getD, List.getElem?_map, List.getElem?_range hi]; rfl
    rw [hcell i j hi hj]
    exact congrArg some e5
  · obtain ⟨b, o, e, hlt, hcell⟩ := Arr.of_own h.oa hp
    refine ⟨b, o, e, hlt, fun i j hi hj => ?_⟩
    have hl : i < abs.length := by rw [h.alen]; exact hi
    rw [hcell i j hi hj]
    simp [BoolC, hl]
end Go.Proofs.Ytiaigdedkdeeoaa
