/- mini.Least and mini.Map, where the automaton is none; mini.Map and the reference's. -/
import Derived.Test.YtiaigdedkdeeoaaLike
import Derived.Test.YtiaigdedkdeeoaaRfS
namespace Go.Proofs.Ytiaigdedkdeeoaa
open Go.RowKit Go.Maps Go.WideMaps
attribute [local go_sem ↓] load_22 load_26 store_22 store_26

set_option maxRecDepth 100000 in
set_option maxHeartbeats 8000000 in
theorem least_wrong (ds : Array Value) (A1 A2 : Option Addr) (n n2 c1 c2 : Nat) (D : Dfa) (RA : Nat → Option Addr) (rc : Nat → Nat) (w : World) (h : DfaIn w ds A1 A2 n n2 c1 c2 D RA rc) (hr : ¬ RightD D) :
    Calls Try.prog 7 #[.agg ds] w fun e w' => e = .returned (.tuple #[.agg zs26, .int .i64 81]) ∧ Below w.heap.size w w' := by
  have hds := h.cells.size
  have hbw : BxW w ((w.alloc (.cells ds 26)).alloc (.cells zs26 26)) ds := by
    have b1 := blk_alloc w 26 ds
    have b2 := blk_alloc (w.alloc (.cells ds 26)) 26 zs26
    rw [World.size_alloc] at b2
    exact ⟨((Below.refl _ _).alloc (Nat.le_refl _) _).alloc (by simp) _, b1.alloc _, b2⟩
  have H := Lib.hid (And.intro h hr)
  have HB := Lib.hid hbw
  have hz26 := zeroV26
  have hld := ldB hbw.box hds
  clear h hr hbw
  go_enter Try.func7, Try.ntmps7
  go_upto_block 1 with (fail)
  generalize (w.alloc (.cells ds 26)).alloc (.cells zs26 26) = w1 at HB hld ⊢
  go_wp2_with fail
  refine (dright_any ds A1 A2 n n2 c1 c2 D RA rc w1 (H.out.1.keep HB.out.bel)).mono ?_
  rintro e w2 ⟨rfl, hb2⟩
  rw [rightD_no H.out.2]
  have hbw := HB.out.go hb2
  have hst := storeB_run 26 hbw.r6 (.inl rfl) zs26 (by rw [zs26_cells, dCells_len]; rfl) (by rw [size26]; rfl) zs26_one
  have hbk := hbw.r6.row zs26
  have hbe := below_setRow (g := w.heap.size + 1) hbw.bel (by omega) zs26
  have HE := Lib.hid (And.intro hbk hbe)
  clear HB hbw hb2 hld hbk hbe
  go_wp2_with fail
  (try simp only [Exit.inBlock, Exit.then])
  refine bodyPost_ret (results_cell_row2 rfl _ _ (w.heap.size + 1) zs26 rfl (by
    have h9 := run_loadVar_row _ (w.heap.size + 1) 26 26 zs26.toList.toArray (0, 0) _ HE.out.1 Try.underlying26 rfl (by rw [List.size_toArray, Array.length_toList, size26]; exact info26)
    simpa using h9)) rfl ?_
  exact ⟨rfl, HE.out.2⟩
/-! Mapped. -/
def mapD (D : Dfa) (tf : Nat → Nat) : Dfa := ⟨fun b => D.cls (tf b), D.next, D.acc⟩
theorem RightD.map {D : Dfa} (h : RightD D) {tf : Nat → Nat} (ht : ∀ b, b < 256 → tf b < 256) : RightD (mapD D tf) :=
  ⟨h.lo, h.hi, h.alen, h.mlo, h.mhi, fun ⟨b, hb, h9⟩ => h.cls ⟨tf b, ht b hb, h9⟩, h.rows⟩
def mixF (D : Dfa) (tf : Nat → Nat) (t b : Nat) : Nat := if b < t then D.cls (tf b) else D.cls b
def dVals (f : Nat → Nat) (nx ac : Value) : List Value := clsV f ++ [nx, ac]
theorem dVals_len (f : Nat → Nat) (nx ac : Value) : (dVals f nx ac).length = 258 := by rw [dVals, List.length_append, clsV_len]; rfl
theorem dVals_get (f : Nat → Nat) (nx ac : Value) {b : Nat} (h : b < 256) : (dVals f nx ac)[b]? = some (.int .u8 ((f b : Nat) : Int)) := by
  rw [dVals, List.getElem?_append_left (by rw [clsV_len]; exact h), clsV_get f h]
theorem dVals_256 (f : Nat → Nat) (nx ac : Value) : (dVals f nx ac)[256]? = some nx := by
  rw [dVals, List.getElem?_append_right (by rw [clsV_len]; exact Nat.le_refl _), clsV_len]; rfl
theorem dVals_257 (f : Nat → Nat) (nx ac : Value) : (dVals f nx ac)[257]? = some ac := by
  rw [dVals, List.getElem?_append_right (by rw [clsV_len]; omega), clsV_len]; rfl
theorem dVals_of {ds : Array Value} {A1 A2 : Option Addr} {n1 n2 c1 c2 : Nat} {cls : Nat → Nat} (h : Cells ds A1 A2 n1 n2 c1 c2 cls) : ds.toList = dVals cls (.slice A1 n1 c1) (.slice A2 n2 c2) := by
  apply List.ext_getElem?
  intro j
  rw [Array.getElem?_toList]
  by_cases e : j < 256
  · rw [h.cl j e, dVals_get _ _ _ e]
  · by_cases e2 : j = 256
    · subst e2; rw [h.nx, dVals_256]
    · by_cases e3 : j = 257
      · subst e3; rw [h.ac, dVals_257]
      · rw [Array.getElem?_eq_none (by have := h.size; omega), List.getElem?_eq_none (by rw [dVals_len]; omega)]
theorem dVals_set {D : Dfa} {tf : Nat → Nat} {nx ac : Value} {t : Nat} (ht : t < 256) : (dVals (mixF D tf t) nx ac).set t (.int .u8 ((D.cls (tf t) : Nat) : Int)) = dVals (mixF D tf (t + 1)) nx ac := by
  apply List.ext_getElem?
  intro j
  rw [List.getElem?_set, dVals_len]
  by_cases e : t = j
  · subst e
    rw [if_pos rfl, if_pos (by omega), dVals_get _ _ _ ht]
    unfold mixF; rw [if_pos (by omega)]
  · rw [if_neg e]
    by_cases hj : j < 256
    · rw [dVals_get _ _ _ hj, dVals_get _ _ _ hj]
      unfold mixF
      by_cases h1 : j < t
      · rw [if_pos h1, if_pos (by omega)]
      · rw [if_neg h1, if_neg (by omega)]
    · by_cases e2 : j = 256
      · subst e2; rw [dVals_256, dVals_256]
      · by_cases e3 : j = 257
        · subst e3; rw [dVals_257, dVals_257]
        · rw [List.getElem?_eq_none (by rw [dVals_len]; omega), List.getElem?_eq_none (by rw [dVals_len]; omega)]
theorem clsV_one (f : Nat → Nat) : (clsV f).toArray.all (·.oneCell') = true := by
  rw [Array.all_eq_true_iff_forall_mem]
  intro x hx
  simp only [clsV, List.mem_toArray, List.mem_map] at hx
  obtain ⟨b, _, rfl⟩ := hx
  rfl
theorem zs22_len : zs22.size = 256 := by unfold zs22; rw [List.size_toArray, List.length_replicate]
/-- the boxes while classes are mapped -/
structure MapW (w W : World) (g6 : Nat) (D : Dfa) (tf : Nat → Nat) (t : Nat) (nx ac : Value) : Prop where
  bel : Below w.heap.size w W
  box : Blk W w.heap.size 26 (dVals (mixF D tf t) nx ac)
  tob : Blk W (w.heap.size + 1) 22 (clsV tf)
  r : Blk W (w.heap.size + 1 + 1) 26 zs26.toList
  cl : Blk W g6 22 (clsV D.cls)
  hg : w.heap.size + 1 + 1 < g6
theorem MapW.set {w W : World} {g6 : Nat} {D : Dfa} {tf : Nat → Nat} {t : Nat} {nx ac : Value} (h : MapW w W g6 D tf t nx ac) (ht : t < 256) : MapW w (W.setCell ⟨w.heap.size, t, none⟩ (.int .u8 ((D.cls (tf t) : Nat) : Int))) g6 D tf (t + 1) nx ac :=
  have hb := but_setCell W w.heap.size t (.int .u8 ((D.cls (tf t) : Nat) : Int))
  have hg := h.hg
  ⟨h.bel.setCell (p := ⟨w.heap.size, t, none⟩) (Nat.le_refl _) _, by rw [← dVals_set ht]; exact h.box.set t _, hb.blk h.tob (by omega), hb.blk h.r (by omega), hb.blk h.cl (by omega), h.hg⟩
theorem MapW.start {w W : World} {g6 : Nat} {D : Dfa} {tf : Nat → Nat} {nx ac : Value} (hb : Below w.heap.size w W) (h1 : Blk W w.heap.size 26 (dVals D.cls nx ac)) (h2 : Blk W (w.heap.size + 1) 22 (clsV tf)) (h3 : Blk W (w.heap.size + 1 + 1) 26 zs26.toList) (h4 : Blk W g6 22 (clsV D.cls)) (hg : w.heap.size + 1 + 1 < g6) : MapW w W g6 D tf 0 nx ac :=
  ⟨hb, by
    have e : mixF D tf 0 = D.cls := (by funext b; unfold mixF; rw [if_neg (Nat.not_lt_zero _)])
    rw [e]; exact h1, h2, h3, h4, hg⟩
/-- the mapped automaton, in memory -/
theorem map_in {w W : World} {ds : Array Value} {A1 A2 : Option Addr} {n n2 c1 c2 : Nat} {D : Dfa} {RA : Nat → Option Addr} {rc : Nat → Nat} {tf : Nat → Nat} (h : DfaIn w ds A1 A2 n n2 c1 c2 D RA rc) (ht : ∀ b, b < 256 → tf b < 256) (hb : Below w.heap.size w W) : DfaIn W (dVals (mixF D tf 256) (.slice A1 n c1) (.slice A2 n2 c2)).toArray A1 A2 n n2 c1 c2 (mapD D tf) RA rc := by
  have k := h.keep hb
  refine ⟨⟨by rw [List.size_toArray, dVals_len], fun b hb9 => ?_, by rw [List.getElem?_toArray, dVals_256], by rw [List.getElem?_toArray, dVals_257], fun b hb9 => h.cells.lt _ (ht b hb9)⟩, k.next, k.alen, k.ale, k.aarr⟩
  rw [List.getElem?_toArray, dVals_get _ _ _ hb9]
  unfold mixF; rw [if_pos hb9]; rfl
end Go.Proofs.Ytiaigdedkdeeoaa
