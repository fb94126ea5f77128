/- MiniOnce: the automaton with its states twice, in memory. -/
import Derived.Test.YtiaigdedkdeeoaaOnce0
import Derived.Test.YtiaigdedkdeeoaaRfS1
import Derived.Test.YtiaigdedkdeeoaaRegL
import Derived.Laws.Tables
namespace Go.Proofs.Ytiaigdedkdeeoaa
open Go.RowKit Go.Maps Go.WideMaps

theorem info26z : (Try.prog.info? 26).map (·.zero) = some (some (.agg zs26)) := by kernel_rfl
theorem zs26_vals : zs26.toList = dVals (fun _ => 0) (.slice none 0 0) (.slice none 0 0) := by
  rw [zs26_cells]
  apply List.ext_getElem?
  intro k
  by_cases h : k < 256
  · rw [dCells_get _ _ _ h, dVals_get _ _ _ h]; rfl
  · by_cases e : k = 256
    · subst e; rw [dCells_256, dVals_256]
    · by_cases e2 : k = 257
      · subst e2; rw [dCells_257, dVals_257]
      · rw [List.getElem?_eq_none (by rw [dCells_len]; omega), List.getElem?_eq_none (by rw [dVals_len]; omega)]
theorem buildB_run (f : Nat → Nat) (A : Option Addr) (n c : Nat) (W : World) : (buildB #[(0, .agg (clsV f).toArray), (2, .slice A n c)]).run Try.prog W = .ok (.agg (dVals f (.slice none 0 0) (.slice A n c)).toArray) W := by
  unfold buildB
  refine run_build W 26 _ _ ?_
  unfold Program.built
  have hz := info26z
  cases hi : Try.prog.info? 26 with
  | none => rw [hi] at hz; cases hz
  | some it =>
    rw [hi] at hz
    have hz : it.zero = some (.agg zs26) := by injection hz
    rw [Try.underlying26]
    simp only [hz]
    rw [show (Array.toList _ : List Field).mapM (fun f => (Try.prog.info? f.type).map fun i => (f.offset, i.size)) = some [(0, 256), (256, 1), (257, 1)] by kernel_rfl]
    exact fill26 (clsV f) (clsV_len f) (.slice A n c) (.slice none 0 0) rfl _ rfl rfl zs26 zs26_vals
theorem dVals_one (f : Nat → Nat) (A A' : Option Addr) (n m c c' : Nat) : (dVals f (.slice A n c) (.slice A' m c')).toArray.all (·.oneCell') = true := by
  rw [Array.all_eq_true_iff_forall_mem]
  intro x hx
  simp only [dVals, clsV, List.mem_toArray, List.mem_append, List.mem_map] at hx
  rcases hx with ⟨b, _, rfl⟩ | hx
  · rfl
  · simp at hx
    rcases hx with rfl | rfl <;> rfl
/-- while the marks are laid down twice: v holds l; the box, once it is made -/
structure TwA (B W : World) (v : Value) (l : List Bool) (al : Option Nat) : Prop where
  bel : Below B.heap.size B W
  own : W.ownsRow B.heap.size 4 1 v l.length (l.map Value.bool)
  box : ∀ g, al = some g → Blk W g 26 zs26.toList ∧ B.heap.size ≤ g
section
variable {B W W' : World} {v v' : Value} {l l' : List Bool} {al : Option Nat}
theorem TwA.go (h : TwA B W v l al) (hb : Below W.heap.size W W') : TwA B W' v l al :=
  ⟨h.bel.trans (hb.mono h.bel.size), own_kept h.own hb, fun g hg => ⟨(h.box g hg).1.below hb (h.box g hg).1.lt, (h.box g hg).2⟩⟩
theorem TwA.start (h : Below B.heap.size B W) : TwA B W (.slice none 0 0) [] none := ⟨h, World.ownsRow_nil _ _ _ _, fun g hg => by cases hg⟩
theorem TwA.build (h : TwA B W (.slice none 0 0) [] al) : TwA B (W.alloc (.cells #[] 4)) (.slice (some ⟨W.heap.size, 0, none⟩) 0 0) [] al :=
  have k := h.go ((Below.refl _ _).alloc (Nat.le_refl _) (.cells #[] 4))
  ⟨k.bel, ⟨rfl, .inr ⟨W.heap.size, 0, #[], rfl, h.bel.size, heap_alloc_new W _, Nat.le_refl _, by simp [maxLen], rfl, rfl⟩⟩, k.box⟩
theorem TwA.alloc (h : TwA B W v l none) : TwA B (W.alloc (.cells zs26 26)) v l (some W.heap.size) :=
  have k := h.go ((Below.refl _ _).alloc (Nat.le_refl _) (.cells zs26 26))
  ⟨k.bel, k.own, fun g hg => by injection hg with hg; subst hg; exact ⟨blk_alloc W 26 zs26, h.bel.size⟩⟩
theorem TwA.app (h : TwA B W v l al) {n : Nat} (hn : n = (l ++ l').length) (hown : W'.ownsRow B.heap.size 4 1 v' n (l.map Value.bool ++ l'.map Value.bool)) (hg : W.grownBy W' v.ownBlock) : TwA B W' v' (l ++ l') al :=
  have hb := But.of_grown hg
  ⟨h.bel.trans (hb.below h.bel.size (fun k hk => (h.own.lt k hk).1)), by rw [List.map_append, ← hn]; exact hown, fun g e => ⟨hb.blk (h.box g e).1 (fun e9 => blk_own_ne (h.box g e).1 h.own (by decide) e9), (h.box g e).2⟩⟩
/-- the box is filled -/
theorem TwA.fin {A : Option Addr} {m c g : Nat} (h : TwA B W (.slice A m c) l (some g)) (hm : l.length = m) (f : Nat → Nat) :
    Below B.heap.size B (W.setRow g (dVals f (.slice none 0 0) (.slice A m c)).toArray) ∧ B.heap.size ≤ g ∧ Blk (W.setRow g (dVals f (.slice none 0 0) (.slice A m c)).toArray) g 26 (dVals f (.slice none 0 0) (.slice A m c)) ∧
    (W.setRow g (dVals f (.slice none 0 0) (.slice A m c)).toArray).ownsRow B.heap.size 4 1 (.slice A m c) m (l.map Value.bool) ∧ B.heap.size + 1 ≤ (W.setRow g (dVals f (.slice none 0 0) (.slice A m c)).toArray).heap.size := by
  obtain ⟨h1, h2⟩ := h.box g rfl
  have h3 := h1.row (dVals f (.slice none 0 0) (.slice A m c)).toArray
  rw [List.toList_toArray] at h3
  have h4 := h3.lt
  refine ⟨below_setRow h.bel h2 _, h2, h3, ?_, by omega⟩
  have h5 := h.own
  rw [hm] at h5
  exact (but_setRow W g _).own h5 (fun k hk e => blk_own_ne h1 h5 (by decide) (by rw [hk, e]))
theorem size_al (W : World) (o : Obj) : (W.alloc o).heap.size = W.heap.size + 1 := by simp
end
theorem dVals_nx (f : Nat → Nat) (nx ac v : Value) : (dVals f nx ac).set 256 v = dVals f v ac := by
  apply List.ext_getElem?
  intro j
  rw [List.getElem?_set, dVals_len]
  by_cases e : 256 = j
  · subst e; rw [if_pos rfl, if_pos (by omega), dVals_256]
  · rw [if_neg e]
    by_cases hj : j < 256
    · rw [dVals_get _ _ _ hj, dVals_get _ _ _ hj]
    · by_cases e2 : j = 257
      · subst e2; rw [dVals_257, dVals_257]
      · rw [List.getElem?_eq_none (by rw [dVals_len]; omega), List.getElem?_eq_none (by rw [dVals_len]; omega)]
/-- the box of the automaton that is made, and its marks -/
structure TwO (B W : World) (g : Nat) (f : Nat → Nat) (nx v4 : Value) (m : Nat) (l : List Bool) : Prop where
  bel : Below B.heap.size B W
  hg : B.heap.size ≤ g
  box : Blk W g 26 (dVals f nx v4)
  acc : W.ownsRow B.heap.size 4 1 v4 m (l.map Value.bool)
  sz : B.heap.size + 1 ≤ W.heap.size
section
variable {B W W' : World} {g m : Nat} {f : Nat → Nat} {nx v4 : Value} {l : List Bool}
theorem TwO.go (h : TwO B W g f nx v4 m l) (hb : Below W.heap.size W W') : TwO B W' g f nx v4 m l :=
  ⟨h.bel.trans (hb.mono h.bel.size), h.hg, h.box.below hb h.box.lt, own_kept h.acc hb, Nat.le_trans h.sz hb.size⟩
theorem TwO.grew (h : TwO B W g f nx v4 m l) {v : Value} {n : Nat} {xs : List Value} (ho : W.ownsRow (B.heap.size + 1) 34 1 v n xs) (hg : W.grownBy W' v.ownBlock) : TwO B W' g f nx v4 m l :=
  have hb := But.of_grown hg
  ⟨h.bel.trans (hb.below h.bel.size (fun k hk => by have := (ho.lt k hk).1; omega)), h.hg, hb.blk h.box (fun e9 => blk_own_ne h.box ho (by decide) e9), hb.own h.acc (fun k hk e9 => own_own_ne h.acc ho (by decide) k hk e9), Nat.le_trans h.sz hg.size⟩
theorem TwO.put (h : TwO B W g f nx v4 m l) (v : Value) : TwO B (W.setCell ⟨g, 256, none⟩ v) g f v v4 m l :=
  have hb := but_setCell W g 256 v
  ⟨h.bel.setCell (p := ⟨g, 256, none⟩) h.hg _, h.hg, by rw [← dVals_nx f nx v4 v]; exact h.box.set 256 v, hb.own h.acc (fun k hk e => blk_own_ne h.box h.acc (by decide) (by rw [hk, e])), by have := hb.size; have := h.sz; omega⟩
end
/-- what was made is the automaton with its states twice -/
theorem twice_in {B W : World} {g k cx cb : Nat} {D : Dfa} {Ax Ab : Option Addr} {RA2 : Nat → Option Addr} {rc2 : Nat → Nat} {n2 : Nat} (h : TwO B W g D.cls (.slice Ax k cx) (.slice Ab (n2 + n2) cb) (n2 + n2) (D.acc ++ D.acc)) (hx : NarX B W k 0 (.slice Ax k cx) (.slice none 0 0) RA2 rc2 ((List.range k).map (row2 D)) [])
    (hk : k = 2 * D.next.length) (hn : n2 = D.acc.length) (hn4 : n2 ≤ 200) (hk4 : k ≤ 400) (hm : D.many ≤ 256) (hc : ∀ b, b < 256 → D.cls b < 256) : DfaIn W (dVals D.cls (.slice Ax k cx) (.slice Ab (n2 + n2) cb)).toArray Ax Ab k (n2 + n2) cx cb (twiceD D) RA2 rc2 := by
  have hrows : ∀ i, i < k → ((List.range k).map (row2 D)).getD i [] = row2 D i := fun i hi => by simp [hi]
  have hnx : (twiceD D).next = (List.range k).map (row2 D) := by rw [hk]; rfl
  have hal : (D.acc ++ D.acc).length = n2 + n2 := by rw [List.length_append, ← hn]
  refine ⟨⟨by rw [List.size_toArray, dVals_len], fun b hb => by rw [List.getElem?_toArray, dVals_get _ _ _ hb]; rfl, by rw [List.getElem?_toArray, dVals_256], by rw [List.getElem?_toArray, dVals_257], fun b hb => hc b hb⟩, ⟨by rw [hnx]; simp, by omega, fun hp => ?_, fun i hi => ?_, fun i hi => ?_⟩, hal, by omega, fun hp => ?_⟩
  · obtain ⟨b, o, e, hlt, hcell⟩ := Arr.of_own hx.on hp
    refine ⟨b, o, e, hlt, fun i j hi hj => ?_⟩
    have e5 : ((List.range k).map (fun i => Value.slice (RA2 i) (((List.range k).map (row2 D)).getD i []).length (rc2 i))).getD i undef = .slice (RA2 i) (((List.range k).map (row2 D)).getD i []).length (rc2 i) := by
      rw [List.getD_eq_getElem?_getD, List.getElem?_map, List.getElem?_range hi]; rfl
    rw [hcell i j hi hj]
    refine (congrArg some e5).trans ?_
    unfold RowC
    rw [hnx]
  · rw [hnx]; exact own_ints (hx.row i hi)
  · rw [hnx, hrows i hi, row2_len]; omega
  · obtain ⟨b, o, e, hlt, hcell⟩ := Arr.of_own h.acc hp
    refine ⟨b, o, e, hlt, fun i j hi hj => ?_⟩
    have hl : i < (D.acc ++ D.acc).length := by rw [hal]; exact hi
    rw [hcell i j hi hj]
    show _ = some (Value.bool ((D.acc ++ D.acc).getD i false))
    obtain ⟨aa, haa⟩ : ∃ aa, aa = D.acc ++ D.acc := ⟨_, rfl⟩
    rw [← haa] at hl ⊢
    simp [hl]
end Go.Proofs.Ytiaigdedkdeeoaa
