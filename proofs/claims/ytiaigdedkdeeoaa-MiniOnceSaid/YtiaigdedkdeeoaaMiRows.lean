/- Rows of the call's own in a block of slices: one of them grows. -/
import Derived.Test.YtiaigdedkdeeoaaMiParts
namespace Go.Proofs.Ytiaigdedkdeeoaa
open Go.RowKit Go.Maps Go.WideMaps

/-- n slices in block gb; slice j is a row of the call's own, that holds ls[j]; no two share a block -/
structure RowsW (W : World) (base gb n : Nat) (V : Nat → Value) (ls : List (List Int)) : Prop where
  blk : Blk W gb 34 ((List.range n).map V)
  len : ls.length = n
  own : ∀ j, j < n → W.ownsRow base 3 1 (V j) (ls.getD j []).length (numsV .i64 (ls.getD j []))
  ne : ∀ i j, i < n → j < n → i ≠ j → ∀ k, (V i).ownBlock = some k → (V j).ownBlock ≠ some k
def updV (V : Nat → Value) (j : Nat) (v : Value) : Nat → Value := fun i => if i = j then v else V i
theorem range_set (V : Nat → Value) (n j : Nat) (v : Value) : ((List.range n).map V).set j v = (List.range n).map (updV V j v) := by
  apply List.ext_getElem?
  intro i
  rw [List.getElem?_set]
  by_cases e : j = i
  · subst e
    rw [if_pos rfl, List.getElem?_map]
    by_cases h : j < n
    · rw [if_pos (by simpa using h), List.getElem?_range h]; simp [updV]
    · rw [if_neg (by simpa using h), List.getElem?_eq_none (by simp; omega)]; rfl
  · rw [if_neg e, List.getElem?_map, List.getElem?_map]
    by_cases h : i < n
    · rw [List.getElem?_range h]; simp [updV, Ne.symm e]
    · rw [List.getElem?_eq_none (by simp; omega)]; rfl
section
variable {W W' : World} {base gb n : Nat} {V : Nat → Value} {ls : List (List Int)} {S : Nat → Prop}
theorem RowsW.nb (h : RowsW W base gb n V ls) {j : Nat} (hj : j < n) : (V j).ownBlock ≠ some gb := blk_own_ne h.blk (h.own j hj) (by decide)
theorem RowsW.but (h : RowsW W base gb n V ls) (hb : But S W W') (h1 : ¬ S gb) (h2 : ∀ j, j < n → ∀ k, (V j).ownBlock = some k → ¬ S k) : RowsW W' base gb n V ls :=
  ⟨hb.blk h.blk h1, h.len, fun j hj => hb.own (h.own j hj) (h2 j hj), h.ne⟩
theorem RowsW.go (h : RowsW W base gb n V ls) (hb : Below W.heap.size W W') : RowsW W' base gb n V ls :=
  h.but (But.of_below hb) (by have := h.blk.lt; omega) (fun j hj k hk => by have := ((h.own j hj).lt k hk).2; omega)
theorem RowsW.cell (h : RowsW W base gb n V ls) {j : Nat} (hj : j < n) : W.cell? ⟨gb, j, none⟩ = some (V j) := by
  rw [h.blk.cell, List.getElem?_map, List.getElem?_range hj]; rfl
theorem getD_set1 {l : List (List Int)} {i j : Nat} (x : List Int) (hj : j < l.length) : (l.set j x).getD i [] = if i = j then x else l.getD i [] := by
  by_cases e : i = j
  · subst e; simp [hj]
  · rw [if_neg e, List.getD_eq_getElem?_getD, List.getElem?_set, if_neg (Ne.symm e), ← List.getD_eq_getElem?_getD]
/-- a row has grown and is stored again -/
theorem RowsW.app (h : RowsW W base gb n V ls) {j : Nat} (hj : j < n) {g : Nat} {v : Value} {l : List Int} (hown : W'.ownsRow base 3 1 v l.length (numsV .i64 l)) (hv : v.ownBlock = some g) (hg : W.grownBy W' (V j).ownBlock) (hat : (V j).ownBlock = some g ∨ W.heap.size ≤ g) :
    RowsW (W'.setCell ⟨gb, j, none⟩ v) base gb n (updV V j v) (ls.set j l) := by
  have hb := But.of_grown hg
  have hblk' : Blk W' gb 34 ((List.range n).map V) := hb.blk h.blk (fun e => h.nb hj e)
  have hs := but_setCell W' gb j v
  have hgb : g ≠ gb := fun e => blk_own_ne hblk' hown (by decide) (by rw [hv, e])
  refine ⟨by rw [← range_set]; exact hblk'.set j v, by simp [h.len], fun i hi => ?_, fun i i' hi hi' hne k hk => ?_⟩
  · rw [getD_set1 _ (by rw [h.len]; exact hj)]
    unfold updV
    by_cases e : i = j
    · rw [if_pos e, if_pos e]
      exact hs.own hown (fun k hk e9 => hgb (by rw [hv] at hk; injection hk with hk; rw [hk, e9]))
    · rw [if_neg e, if_neg e]
      refine hs.own (hb.own (h.own i hi) (fun k hk => h.ne i j hi hj e k hk)) (fun k hk e9 => h.nb hi (by rw [hk, e9]))
  · unfold updV at hk ⊢
    by_cases e : i = j
    · rw [if_pos e] at hk
      rw [if_neg (fun e9 => hne (by rw [e, e9]))]
      have hkg : k = g := by rw [hv] at hk; injection hk with hk; exact hk.symm
      subst hkg
      rcases hat with h9 | h9
      · exact h.ne j i' hj hi' (fun e9 => hne (by rw [e, e9])) _ h9
      · intro h8
        have := ((h.own i' hi').lt _ h8).2
        omega
    · rw [if_neg e] at hk
      by_cases e2 : i' = j
      · rw [if_pos e2]
        intro h8
        have hkg : k = g := by rw [hv] at h8; injection h8 with h8; exact h8.symm
        subst hkg
        rcases hat with h9 | h9
        · exact h.ne i j hi hj e _ hk h9
        · have := ((h.own i hi).lt _ hk).2
          omega
      · rw [if_neg e2]
        exact h.ne i i' hi hi' hne k hk
end
theorem info34 : (Try.prog.info? 34).map (fun i => (i.zero, i.size, i.bytes)) = some (some (.slice none 0 0), 1, 24) := by kernel_rfl
theorem info4 : (Try.prog.info? 4).map (fun i => (i.zero, i.size, i.bytes)) = some (some (.bool false), 1, 1) := by kernel_rfl
theorem RowsW.start (W : World) (base n : Nat) : RowsW (W.alloc (.cells (Array.replicate n (.slice none 0 0)) 34)) base W.heap.size n (fun _ => .slice none 0 0) (List.replicate n []) := by
  have e : (List.range n).map (fun _ => Value.slice none 0 0) = List.replicate n (Value.slice none 0 0) := by
    apply List.ext_getElem (by simp)
    intro i h1 h2; simp
  refine ⟨?_, by simp, fun j hj => ?_, fun i j _ _ _ k hk => by cases hk⟩
  · rw [e]
    have := Blk.new W 34 (List.replicate n (Value.slice none 0 0))
    simpa using this
  · rw [show (List.replicate n ([] : List Int)).getD j [] = [] by simp [hj]]
    exact World.ownsRow_nil _ _ _ _
/-- where rows grow, a slice that the prover knows may be read -/
theorem RowsW.arr {W : World} {base gb n : Nat} {V : Nat → Value} {ls : List (List Int)} (h : RowsW W base gb n V ls) {j : Nat} (hj : j < n) {A : Option Addr} {m c : Nat} (hv : V j = .slice A m c) : m = (ls.getD j []).length ∧ Arr W W.heap.size 1 A m (NumC .i64 (ls.getD j [])) := by
  have ho := h.own j hj
  obtain ⟨A', c', e⟩ := own_sl ho
  rw [hv] at e
  injection e with e1 e2 e3
  rw [hv, ← e2] at ho
  exact ⟨e2, own_ints ho⟩
end Go.Proofs.Ytiaigdedkdeeoaa
