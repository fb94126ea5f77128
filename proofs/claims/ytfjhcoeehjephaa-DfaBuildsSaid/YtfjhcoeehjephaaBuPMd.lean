/- dfa.Build: memory of its main loop. -/
import Derived.Test.YtfjhcoeehjephaaBuNMd
namespace Go.Proofs.Ytfjhcoeehjephaa
open Go.RowKit Go.Maps Go.WideMaps

/-- what the main loop has made: its sets, their rows, the marks, the map; F: blocks of numbers that are still written -/
structure ML (w0 : World) (gD gm : Nat) (cls : Nat → Nat) (vall vnx vac : Value) (sA sN : List Value) (all : List (List Nat)) (next : List (List Int)) (acc : List Bool) (n : Nat) (D : DataW Unit) (F : Nat → Prop) (W : World) : Prop where
  bel : Below w0.heap.size w0 W
  hD : w0.heap.size ≤ gD
  hm : w0.heap.size ≤ gm
  box : Blk W gD 30 (dV cls vnx vac)
  map : W.ownsMap Try.prog 9 (plainElem (H := Unit) Try.prog 3) gm n D
  ownA : W.ownsRow w0.heap.size 36 1 vall all.length sA
  ownN : W.ownsRow w0.heap.size 36 1 vnx next.length sN
  ownC : W.ownsRow w0.heap.size 4 1 vac acc.length (acc.map Value.bool)
  ap : ∀ b, vall.ownBlock = some b → vnx.ownBlock ≠ some b
  rowA : ∀ k, k < all.length → W.ownsRow w0.heap.size 3 1 (sA.getD k undef) (all.getD k []).length (numsV .i64 (natL (all.getD k [])))
  rowN : ∀ k, k < next.length → W.ownsRow w0.heap.size 3 1 (sN.getD k undef) (next.getD k []).length (numsV .i64 (next.getD k []))
  frA : ∀ k, k < all.length → ∀ b, (sA.getD k undef).ownBlock = some b → ¬ F b
  frN : ∀ k, k < next.length → ∀ b, (sN.getD k undef).ownBlock = some b → ¬ F b
section
variable {w0 W W' : World} {gD gm : Nat} {cls : Nat → Nat} {vall vnx vac : Value} {sA sN : List Value} {all : List (List Nat)} {next : List (List Int)} {acc : List Bool} {n : Nat} {D : DataW Unit} {F : Nat → Prop}
theorem ML.go (h : ML w0 gD gm cls vall vnx vac sA sN all next acc n D F W) (hb : Below W.heap.size W W') : ML w0 gD gm cls vall vnx vac sA sN all next acc n D F W' :=
  ⟨h.bel.trans (hb.mono h.bel.size), h.hD, h.hm, h.box.below hb h.box.lt, h.map.kept (row := none) ⟨hb.os, hb.tape, hb.output, hb.size, fun b hb' _ => hb.block b hb'⟩ (by simp), own_kept h.ownA hb, own_kept h.ownN hb, own_kept h.ownC hb, h.ap,
    fun k hk => own_kept (h.rowA k hk) hb, fun k hk => own_kept (h.rowN k hk) hb, h.frA, h.frN⟩
theorem ML.alloc (h : ML w0 gD gm cls vall vnx vac sA sN all next acc n D F W) (o : Obj) : ML w0 gD gm cls vall vnx vac sA sN all next acc n D F (W.alloc o) := h.go ((Below.refl _ _).alloc (Nat.le_refl _) o)
/-- a row of numbers that is still written has grown -/
theorem ML.grow3 (h : ML w0 gD gm cls vall vnx vac sA sN all next acc n D F W) {v : Value} {m : Nat} {xs : List Value} (hv : W.ownsRow w0.heap.size 3 1 v m xs) (hF : ∀ b, v.ownBlock = some b → F b) (hg : W.grownBy W' v.ownBlock) : ML w0 gD gm cls vall vnx vac sA sN all next acc n D F W' := by
  have hb := But.of_grown hg
  exact ⟨h.bel.grown hg h.bel.size (fun k hk => (hv.lt k hk).1), h.hD, h.hm, hb.blk h.box (blk_own_ne h.box hv (by decide)), hb.maps h.map (map_own_ne h.map hv), kept_ne hg h.ownA (own_own_ne hv h.ownA (by decide)), kept_ne hg h.ownN (own_own_ne hv h.ownN (by decide)), kept_ne hg h.ownC (own_own_ne hv h.ownC (by decide)), h.ap,
    fun k hk => kept_ne hg (h.rowA k hk) (fun b e e2 => h.frA k hk b e2 (hF b e)), fun k hk => kept_ne hg (h.rowN k hk) (fun b e e2 => h.frN k hk b e2 (hF b e)), h.frA, h.frN⟩
/-- a cell of a block of numbers that is still written -/
theorem ML.cell3 (h : ML w0 gD gm cls vall vnx vac sA sN all next acc n D F W) {g j : Nat} {cur : List Value} (hb : Blk W g 3 cur) (hg : w0.heap.size ≤ g) (hF : F g) (u : Value) : ML w0 gD gm cls vall vnx vac sA sN all next acc n D F (W.setCell ⟨g, j, none⟩ u) := by
  have hgr := grownBy_setCell W g j u
  exact ⟨below_sc h.bel hg _, h.hD, h.hm, blk_cell hb h.box (by decide), h.map.setCell (fun e => map_blk_ne h.map hb e) u, kept_cell hb h.ownA (by decide), kept_cell hb h.ownN (by decide), kept_cell hb h.ownC (by decide), h.ap,
    fun k hk => kept_ne hgr (h.rowA k hk) (fun b e e2 => h.frA k hk b e2 (by cases e; exact hF)), fun k hk => kept_ne hgr (h.rowN k hk) (fun b e e2 => h.frN k hk b e2 (by cases e; exact hF)), h.frA, h.frN⟩
/-- the map has a key more -/
theorem ML.put (h : ML w0 gD gm cls vall vnx vac sA sN all next acc n D F W) {n' : Nat} {D' : DataW Unit} (hg : W.grownBy W' (some gm)) (hm : W'.ownsMap Try.prog 9 (plainElem (H := Unit) Try.prog 3) gm n' D') : ML w0 gD gm cls vall vnx vac sA sN all next acc n' D' F W' := by
  have hk : ∀ {e base size m : Nat} {v : Value} {xs : List Value}, W.ownsRow base e size v m xs → W'.ownsRow base e size v m xs := fun ho => kept_ne hg ho (fun b e e2 => by cases e; exact map_own_ne h.map ho e2)
  exact ⟨h.bel.grown hg h.bel.size (fun k e => by cases e; exact h.hm), h.hD, h.hm, h.box.same (hg.block _ h.box.lt (fun e => map_blk_ne h.map h.box (by cases e; rfl))), hm, hk h.ownA, hk h.ownN, hk h.ownC, h.ap, fun k h9 => hk (h.rowA k h9), fun k h9 => hk (h.rowN k h9), h.frA, h.frN⟩
/-- fewer blocks are still written -/
theorem ML.less (h : ML w0 gD gm cls vall vnx vac sA sN all next acc n D F W) {F' : Nat → Prop} (hF : ∀ b, b < W.heap.size → F' b → F b) : ML w0 gD gm cls vall vnx vac sA sN all next acc n D F' W :=
  ⟨h.bel, h.hD, h.hm, h.box, h.map, h.ownA, h.ownN, h.ownC, h.ap, h.rowA, h.rowN, fun k hk b hb h9 => h.frA k hk b hb (hF b ((h.rowA k hk).lt b hb).2 h9), fun k hk b hb h9 => h.frN k hk b hb (hF b ((h.rowN k hk).lt b hb).2 h9)⟩
end
theorem own_base {w : World} {base base' size n : Nat} {e : TypeId} {v : Value} {xs : List Value} (h : w.ownsRow base e size v n xs) (hb : base' ≤ base) : w.ownsRow base' e size v n xs := by
  refine ⟨h.1, ?_⟩
  rcases h.2 with h1 | ⟨g, cap, cur, h1, h2, h3⟩
  · exact .inl h1
  · exact .inr ⟨g, cap, cur, h1, Nat.le_trans hb h2, h3⟩
/-- the main loop's first memory -/
theorem ml_start {w0 w7 w8 : World} {gD g8 nx c8 : Nat} {a : Int} {cls : Nat → Nat} {X : List Nat} (hb7 : Below w0.heap.size w0 w7) (hD : w0.heap.size ≤ gD) (hd : Blk w7 gD 30 (dV cls (.slice none 0 0) (.slice none 0 0)))
    (hb8 : Below (w7.alloc (.cells #[.int .i64 a] 3)).heap.size (w7.alloc (.cells #[.int .i64 a] 3)) w8) (hX : nx = X.length)
    (ho : w8.ownsRow (w7.alloc (.cells #[.int .i64 a] 3)).heap.size 3 1 (.slice (some ⟨g8, 0, none⟩) nx c8) nx (numsV .i64 (natL X)))
    (hm : ((w8.alloc (.cells #[.slice (some ⟨g8, 0, none⟩) nx c8] 36)).alloc (.map #[] 0)).ownsMap Try.prog 9 (plainElem (H := Unit) Try.prog 3) (w8.heap.size + 1) 0 (.map [])) :
    ML w0 gD (w8.heap.size + 1) cls (.slice (some ⟨w8.heap.size, 0, none⟩) 1 1) (.slice none 0 0) (.slice none 0 0) [.slice (some ⟨g8, 0, none⟩) nx c8] [] [X] [] [] 0 (.map []) (fun _ => False) ((w8.alloc (.cells #[.slice (some ⟨g8, 0, none⟩) nx c8] 36)).alloc (.map #[] 0)) := by
  have h7 : Below w0.heap.size w0 (w7.alloc (.cells #[.int .i64 a] 3)) := hb7.alloc hb7.size _
  have h8 : Below w0.heap.size w0 w8 := h7.trans (hb8.mono h7.size)
  have hs := h8.size
  refine ⟨(h8.alloc hs _).alloc (by simp; omega) _, hD, by omega, (((hd.alloc _).below hb8 (hd.alloc _).lt).alloc _).alloc _, hm, ?_, World.ownsRow_nil _ _ _ _, World.ownsRow_nil _ _ _ _, fun b _ => by simp [Value.ownBlock], fun k hk => ?_, fun k hk => absurd hk (by simp), fun k _ b _ h9 => h9, fun k _ b _ h9 => h9⟩
  · exact (World.ownsRow_lit w8 #[.slice (some ⟨g8, 0, none⟩) nx c8] 1 hs (by decide) (by simp)).alloc _
  · obtain rfl : k = 0 := by simpa using hk
    have h9 := ((own_base ho h7.size).alloc (.cells #[.slice (some ⟨g8, 0, none⟩) nx c8] 36)).alloc (.map #[] 0)
    show World.ownsRow _ _ 3 1 (.slice (some ⟨g8, 0, none⟩) nx c8) X.length _
    rw [← hX]
    exact h9
section
variable {w0 W W' : World} {gD gm : Nat} {cls : Nat → Nat} {vall vnx vac : Value} {sA sN : List Value} {all : List (List Nat)} {next : List (List Int)} {acc : List Bool} {n : Nat} {D : DataW Unit} {F : Nat → Prop}
theorem getD_app {α : Type} {d x : α} {l : List α} {k : Nat} : (l ++ [x]).getD k d = if k < l.length then l.getD k d else if k = l.length then x else d := by
  by_cases h : k < l.length
  · rw [if_pos h]; simp [List.getD_eq_getElem?_getD, List.getElem?_append_left h]
  · rw [if_neg h]
    by_cases e : k = l.length
    · subst e; rw [if_pos rfl]; simp
    · rw [if_neg e]; simp [List.getD_eq_getElem?_getD, List.getElem?_eq_none (show (l ++ [x]).length ≤ k by simp; omega)]
/-- a set has come to the list -/
theorem ML.addA (h : ML w0 gD gm cls vall vnx vac sA sN all next acc n D F W) {v : Value} {X : List Nat} {g5 c5 : Nat} (hv : W.ownsRow w0.heap.size 3 1 v X.length (numsV .i64 (natL X))) (hF : ∀ b, v.ownBlock = some b → ¬ F b)
    (hown : W'.ownsRow w0.heap.size 36 1 (.slice (some ⟨g5, 0, none⟩) (all.length + 1) c5) (all.length + 1) (sA ++ [v])) (hg : W.grownBy W' vall.ownBlock) (hat : vall.ownBlock = some g5 ∨ g5 = W.heap.size) :
    ML w0 gD gm cls (.slice (some ⟨g5, 0, none⟩) (all.length + 1) c5) vnx vac (sA ++ [v]) sN (all ++ [X]) next acc n D F W' := by
  have hb := But.of_grown hg
  have hA := h.ownA
  have hlA : sA.length = all.length := by have := hA.1; omega
  have h3 : ∀ {m : Nat} {u : Value} {xs : List Value}, W.ownsRow w0.heap.size 3 1 u m xs → W'.ownsRow w0.heap.size 3 1 u m xs := fun ho => kept_ne hg ho (own_own_ne hA ho (by decide))
  refine ⟨h.bel.grown hg h.bel.size (fun k hk => (hA.lt k hk).1), h.hD, h.hm, hb.blk h.box (blk_own_ne h.box hA (by decide)), hb.maps h.map (map_own_ne h.map hA), by rw [List.length_append]; exact hown, kept_ne hg h.ownN h.ap, kept_ne hg h.ownC (own_own_ne hA h.ownC (by decide)), fun b hb9 hn => ?_, fun k hk => ?_, fun k hk => h3 (h.rowN k hk), fun k hk b hb9 => ?_, h.frN⟩
  · obtain rfl : g5 = b := by simpa [Value.ownBlock] using hb9
    rcases hat with hat | hat
    · exact h.ap g5 hat hn
    · have := (h.ownN.lt g5 hn).2; omega
  · rw [List.length_append, List.length_singleton] at hk
    rw [getD_app, getD_app, hlA]
    by_cases e : k < all.length
    · rw [if_pos e, if_pos e]; exact h3 (h.rowA k e)
    · rw [if_neg e, if_neg e, if_pos (by omega), if_pos (by omega)]; exact h3 hv
  · rw [List.length_append, List.length_singleton] at hk
    rw [getD_app, hlA] at hb9
    by_cases e : k < all.length
    · rw [if_pos e] at hb9; exact h.frA k e b hb9
    · rw [if_neg e, if_pos (by omega)] at hb9; exact hF b hb9
end
section
variable {w0 W W' : World} {gD gm : Nat} {cls : Nat → Nat} {vall vnx vac : Value} {sA sN : List Value} {all : List (List Nat)} {next : List (List Int)} {acc : List Bool} {n : Nat} {D : DataW Unit} {F : Nat → Prop}
/-- a row has come to the automaton: appended, then told in the box -/
theorem ML.addN (h : ML w0 gD gm cls vall vnx vac sA sN all next acc n D F W) {v : Value} {R : List Int} {g5 c5 : Nat} (hv : W.ownsRow w0.heap.size 3 1 v R.length (numsV .i64 R)) (hF : ∀ b, v.ownBlock = some b → ¬ F b)
    (hown : W'.ownsRow w0.heap.size 36 1 (.slice (some ⟨g5, 0, none⟩) (next.length + 1) c5) (next.length + 1) (sN ++ [v])) (hg : W.grownBy W' vnx.ownBlock) (hat : vnx.ownBlock = some g5 ∨ g5 = W.heap.size) :
    ML w0 gD gm cls vall (.slice (some ⟨g5, 0, none⟩) (next.length + 1) c5) vac sA (sN ++ [v]) all (next ++ [R]) acc n D F (W'.setCell ⟨gD, 256, none⟩ (.slice (some ⟨g5, 0, none⟩) (next.length + 1) c5)) := by
  have hb := But.of_grown hg
  have hN := h.ownN
  have hlN : sN.length = next.length := by have := hN.1; omega
  have hbx := hb.blk h.box (blk_own_ne h.box hN (by decide))
  have h3 : ∀ {m : Nat} {u : Value} {xs : List Value}, W.ownsRow w0.heap.size 3 1 u m xs → (W'.setCell ⟨gD, 256, none⟩ (.slice (some ⟨g5, 0, none⟩) (next.length + 1) c5)).ownsRow w0.heap.size 3 1 u m xs := fun ho => kept_cell hbx (kept_ne hg ho (own_own_ne hN ho (by decide))) (by decide)
  refine ⟨below_sc (h.bel.grown hg h.bel.size (fun k hk => (hN.lt k hk).1)) h.hD _, h.hD, h.hm, ?_, (hb.maps h.map (map_own_ne h.map hN)).setCell (fun e => map_blk_ne (hb.maps h.map (map_own_ne h.map hN)) hbx e) _, kept_cell hbx (kept_ne hg h.ownA (fun b e e2 => h.ap b e2 e)) (by decide), by rw [List.length_append]; exact kept_cell hbx hown (by decide), kept_cell hbx (kept_ne hg h.ownC (own_own_ne hN h.ownC (by decide))) (by decide), fun b hb9 hn => ?_, fun k hk => h3 (h.rowA k hk), fun k hk => ?_, h.frA, fun k hk b hb9 => ?_⟩
  · have := hbx.set 256 (.slice (some ⟨g5, 0, none⟩) (next.length + 1) c5)
    rw [dV_set_nx] at this
    exact this
  · obtain rfl : g5 = b := by simpa [Value.ownBlock] using hn
    rcases hat with hat | hat
    · exact h.ap g5 hb9 hat
    · have := (h.ownA.lt g5 hb9).2; omega
  · rw [List.length_append, List.length_singleton] at hk
    rw [getD_app, getD_app, hlN]
    by_cases e : k < next.length
    · rw [if_pos e, if_pos e]; exact h3 (h.rowN k e)
    · rw [if_neg e, if_neg e, if_pos (by omega), if_pos (by omega)]; exact h3 hv
  · rw [List.length_append, List.length_singleton] at hk
    rw [getD_app, hlN] at hb9
    by_cases e : k < next.length
    · rw [if_pos e] at hb9; exact h.frN k e b hb9
    · rw [if_neg e, if_pos (by omega)] at hb9; exact hF b hb9
/-- a mark has come -/
theorem ML.addC (h : ML w0 gD gm cls vall vnx vac sA sN all next acc n D F W) {x : Bool} {g5 c5 : Nat}
    (hown : W'.ownsRow w0.heap.size 4 1 (.slice (some ⟨g5, 0, none⟩) (acc.length + 1) c5) (acc.length + 1) (acc.map Value.bool ++ [.bool x])) (hg : W.grownBy W' vac.ownBlock) :
    ML w0 gD gm cls vall vnx (.slice (some ⟨g5, 0, none⟩) (acc.length + 1) c5) sA sN all next (acc ++ [x]) n D F (W'.setCell ⟨gD, 257, none⟩ (.slice (some ⟨g5, 0, none⟩) (acc.length + 1) c5)) := by
  have hb := But.of_grown hg
  have hC := h.ownC
  have hbx := hb.blk h.box (blk_own_ne h.box hC (by decide))
  have h3 : ∀ {m : Nat} {u : Value} {xs : List Value}, W.ownsRow w0.heap.size 3 1 u m xs → (W'.setCell ⟨gD, 257, none⟩ (.slice (some ⟨g5, 0, none⟩) (acc.length + 1) c5)).ownsRow w0.heap.size 3 1 u m xs := fun ho => kept_cell hbx (kept_ne hg ho (own_own_ne hC ho (by decide))) (by decide)
  refine ⟨below_sc (h.bel.grown hg h.bel.size (fun k hk => (hC.lt k hk).1)) h.hD _, h.hD, h.hm, ?_, (hb.maps h.map (map_own_ne h.map hC)).setCell (fun e => map_blk_ne (hb.maps h.map (map_own_ne h.map hC)) hbx e) _, kept_cell hbx (kept_ne hg h.ownA (own_own_ne hC h.ownA (by decide))) (by decide), kept_cell hbx (kept_ne hg h.ownN (own_own_ne hC h.ownN (by decide))) (by decide), ?_, h.ap, fun k hk => h3 (h.rowA k hk), fun k hk => h3 (h.rowN k hk), h.frA, h.frN⟩
  · have := hbx.set 257 (.slice (some ⟨g5, 0, none⟩) (acc.length + 1) c5)
    rw [dV_set_ac] at this
    exact this
  · rw [List.length_append, List.map_append]
    exact kept_cell hbx hown (by decide)
end
end Go.Proofs.Ytfjhcoeehjephaa
