/- But, BuM of this seat, in one text. -/
import Derived.Test.YtfjhcoeehjephaaKyMe
import Derived.Test.YtfjhcoeehjephaaFrDMe
import Derived.Maps.OwnSet
/- All elder blocks but some are as they were. -/
namespace Go.Proofs.Ytfjhcoeehjephaa
open Go.RowKit Go.Maps Go.WideMaps
/-- all elder blocks but those in S are as they were -/
structure But (S : Nat → Prop) (w w' : World) : Prop where
  os : w'.os = w.os
  tape : w'.tape = w.tape
  output : w'.output = w.output
  size : w.heap.size ≤ w'.heap.size
  block : ∀ k, k < w.heap.size → ¬ S k → w'.heap[k]? = w.heap[k]?
section
variable {S S' : Nat → Prop} {w w1 w2 : World}
theorem But.refl (S : Nat → Prop) (w : World) : But S w w := ⟨rfl, rfl, rfl, Nat.le_refl _, fun _ _ _ => rfl⟩
theorem But.trans (h : But S w w1) (h2 : But S' w1 w2) (hs : ∀ k, k < w.heap.size → S' k → S k) : But S w w2 :=
  ⟨h2.os.trans h.os, h2.tape.trans h.tape, h2.output.trans h.output, Nat.le_trans h.size h2.size, fun k hk hn =>
    (h2.block k (Nat.lt_of_lt_of_le hk h.size) (fun e => hn (hs k hk e))).trans (h.block k hk hn)⟩
theorem But.of_grown {row : Option Nat} (h : w.grownBy w1 row) : But (fun k => row = some k) w w1 :=
  ⟨h.os, h.tape, h.output, h.size, fun k hk hn => h.block k hk (fun e => hn e.symm)⟩
theorem But.of_below {B : Nat} (h : Below B w w1) : But (fun k => B ≤ k) w w1 :=
  ⟨h.os, h.tape, h.output, h.size, fun k _ hn => h.block k (by omega)⟩
theorem But.below {B : Nat} (h : But S w w1) (hB : B ≤ w.heap.size) (hs : ∀ k, S k → B ≤ k) : Below B w w1 :=
  ⟨h.os, h.tape, h.output, h.size, fun k hk => h.block k (by omega) (fun e => by have := hs k e; omega)⟩
theorem But.mono (h : But S w w1) (hs : ∀ k, k < w.heap.size → S k → S' k) : But S' w w1 :=
  ⟨h.os, h.tape, h.output, h.size, fun k hk hn => h.block k hk (fun e => hn (hs k hk e))⟩
theorem But.blk {g : Nat} {t : TypeId} {cur : List Value} (h : But S w w1) (hb : Blk w g t cur) (hn : ¬ S g) : Blk w1 g t cur := (h.block g hb.lt hn).trans hb
theorem But.own {base size n : Nat} {e : TypeId} {v : Value} {xs : List Value} (h : But S w w1) (ho : w.ownsRow base e size v n xs) (hn : ∀ k, v.ownBlock = some k → ¬ S k) : w1.ownsRow base e size v n xs :=
  own_move ho (fun k _ e h9 _ => (h.block k (ho.lt k e).2 (hn k e)).trans h9)
end
theorem own_nilA {w : World} {base size n c : Nat} {e : TypeId} {A : Option Addr} {xs : List Value} (h : w.ownsRow base e size (.slice A n c) n xs) : A = none → n = 0 ∧ c = 0 := fun hA => by
  rcases h.2 with ⟨h1, h2⟩ | ⟨g, cap, cur, hv, _⟩
  · injection h1 with h3 h4 h5
    exact ⟨h2, h5⟩
  · injection hv with h3
    rw [hA] at h3
    cases h3
theorem But.maps {S : Nat → Prop} {w w1 : World} {P : Program} {kt : TypeId} {R : Value → Option (DataW Unit × List MemPlace)} {g k : Nat} {D : DataW Unit} (h : But S w w1) (hm : w.ownsMap P kt R g k D) (hn : ¬ S g) : w1.ownsMap P kt R g k D := by
  have hlt := hm.lt
  obtain ⟨es, c, h1, h2⟩ := hm
  exact ⟨es, c, (h.block g hlt hn).trans h1, h2⟩
/-! Blocks of other kinds are other blocks. -/
theorem blk_ne {W : World} {g g' : Nat} {t t' : TypeId} {cur cur' : List Value} (h : Blk W g t cur) (h' : Blk W g' t' cur') (hne : t ≠ t') : g ≠ g' := fun e => by
  subst e
  have := h.symm.trans h'
  injection this with this
  injection this with _ h2
  exact hne h2
theorem blk_own_ne {W : World} {g : Nat} {t e : TypeId} {cur : List Value} {base size n : Nat} {v : Value} {xs : List Value} (h : Blk W g t cur) (ho : W.ownsRow base e size v n xs) (hne : t ≠ e) : v.ownBlock ≠ some g := fun hv => by
  rcases ho.2 with ⟨rfl, _⟩ | ⟨g', cap, cur', rfl, _, hg, _⟩
  · cases hv
  · injection hv with hv
    simp only at hv
    subst hv
    have := h.symm.trans hg
    injection this with this
    injection this with _ h2
    exact hne h2
theorem own_own_ne {W : World} {e e' : TypeId} {base size n base' size' n' : Nat} {v v' : Value} {xs xs' : List Value} (h : W.ownsRow base e size v n xs) (h' : W.ownsRow base' e' size' v' n' xs') (hne : e ≠ e') : ∀ k, v.ownBlock = some k → v'.ownBlock ≠ some k := fun k hk => by
  rcases h.2 with ⟨rfl, _⟩ | ⟨g, cap, cur, rfl, _, hg, _⟩
  · cases hk
  · injection hk with hk
    simp only at hk
    subst hk
    exact blk_own_ne (cur := cur.toList) (show W.heap[g]? = some (.cells cur.toList.toArray e (0, 0)) by simpa using hg) h' hne
theorem map_blk_ne {W : World} {P : Program} {kt : TypeId} {R : Value → Option (DataW Unit × List MemPlace)} {g k g' : Nat} {D : DataW Unit} {t : TypeId} {cur : List Value} (hm : W.ownsMap P kt R g k D) (h : Blk W g' t cur) : g ≠ g' := fun e => by
  subst e
  obtain ⟨es, c, h1, _⟩ := hm
  have := h1.symm.trans h
  injection this with this
  cases this
theorem map_own_ne {W : World} {P : Program} {kt : TypeId} {R : Value → Option (DataW Unit × List MemPlace)} {g k : Nat} {D : DataW Unit} {e : TypeId} {base size n : Nat} {v : Value} {xs : List Value} (hm : W.ownsMap P kt R g k D) (ho : W.ownsRow base e size v n xs) : v.ownBlock ≠ some g := fun hv => by
  rcases ho.2 with ⟨rfl, _⟩ | ⟨g', cap, cur', rfl, _, hg, _⟩
  · cases hv
  · injection hv with hv
    simp only at hv
    subst hv
    exact map_blk_ne hm (g' := g') (cur := cur'.toList) (t := e) (show W.heap[g']? = some (.cells cur'.toList.toArray e (0, 0)) by simpa using hg) rfl
end Go.Proofs.Ytfjhcoeehjephaa
/- dfa.Build: rows of edges, in memory. -/
namespace Go.Proofs.Ytfjhcoeehjephaa
open Go.RowKit

def quadsV (l : List Quad) : List Value := (l.map Quad.cells).flatten
theorem quadsV_snoc (l : List Quad) (e : Quad) : quadsV (l ++ [e]) = quadsV l ++ e.cells := by simp [quadsV]
theorem quad_len (e : Quad) : e.cells.length = 4 := rfl
theorem quadsV_length (l : List Quad) : (quadsV l).length = l.length * 4 := by
  induction l with
  | nil => rfl
  | cons e l ih =>
    have h : quadsV (e :: l) = e.cells ++ quadsV l := by simp [quadsV]
    rw [h, List.length_append, ih, quad_len, List.length_cons]; omega
theorem quadsV_get (l : List Quad) : ∀ (k j : Nat), k < l.length → j < 4 → (quadsV l)[k * 4 + j]? = some (QdC l k j) := by
  induction l with
  | nil => intro k j h _; exact absurd h (by simp)
  | cons e l ih =>
    intro k j hk hj
    have h : quadsV (e :: l) = e.cells ++ quadsV l := by simp [quadsV]
    rw [h]
    cases k with
    | zero =>
      rw [List.getElem?_append_left (by rw [quad_len]; omega)]
      have h1 : 0 * 4 + j < e.cells.length := by rw [quad_len]; omega
      rw [List.getElem?_eq_getElem h1]
      simp [QdC, List.getD_eq_getElem?_getD, List.getElem?_eq_getElem (show j < e.cells.length by rw [quad_len]; omega)]
    | succ k =>
      rw [List.getElem?_append_right (by rw [quad_len]; omega), quad_len, show (k + 1) * 4 + j - 4 = k * 4 + j by omega, ih k j (by simpa using hk) hj]
      simp [QdC]
theorem own_quads {w : World} {base c n : Nat} {e : TypeId} {A : Option Addr} {l : List Quad} (h : w.ownsRow base e 4 (.slice A n c) n (quadsV l)) : Arr w w.heap.size 4 A n (QdC l) := fun hn => by
  have hl : l.length = n := by have := h.1; rw [quadsV_length] at this; omega
  obtain ⟨g, cap, hv, _, hlt⟩ := h.form hn
  have hA : A = some ⟨g, 0, none⟩ := by injection hv
  subst hA
  refine ⟨g, 0, rfl, hlt, fun k j hk hj => ?_⟩
  have hc := h.cells (g := g) rfl (k * 4 + j) (QdC l k j) (quadsV_get l k j (by omega) hj)
  rw [add_plain'] at hc
  exact hc
def quadOf (e : Ed) : Quad := ⟨e.s0, e.s1, e.s2, e.s3⟩
def setsOf (E : List Ed) : List Quad := (E.filter (fun e => !e.free)).map quadOf
theorem setsOf_snoc (E : List Ed) (e : Ed) : setsOf (E ++ [e]) = if e.free = true then setsOf E else setsOf E ++ [quadOf e] := by
  unfold setsOf
  rw [List.filter_append]
  cases h : e.free <;> simp [h]
theorem setsOf_len (E : List Ed) : (setsOf E).length ≤ E.length := by
  unfold setsOf; rw [List.length_map]; exact List.length_filter_le _ _
theorem overE_len (E : List Ed) (i : Nat) : (overE E i).length ≤ E.length := List.length_filter_le _ _
theorem freeD_snoc (E : List Ed) (e : Ed) (i : Nat) : freeD (E ++ [e]) i = if e.free = true ∧ e.src = (i : Int) then freeD E i ++ [e.dst] else freeD E i := by
  unfold freeD
  rw [List.filter_append]
  cases h : e.free <;> by_cases h2 : e.src = (i : Int) <;> simp [h, h2]
theorem overE_snoc (E : List Ed) (e : Ed) (i : Nat) : overE (E ++ [e]) i = if e.free = false ∧ e.src = (i : Int) then overE E i ++ [e] else overE E i := by
  unfold overE
  rw [List.filter_append]
  cases h : e.free <;> by_cases h2 : e.src = (i : Int) <;> simp [h, h2]

theorem own_kept {w w' : World} {base n size : Nat} {e : TypeId} {v : Value} {xs : List Value} (h : w.ownsRow base e size v n xs) (hb : Below w.heap.size w w') : w'.ownsRow base e size v n xs :=
  own_move h (fun b _ _ ho _ => (hb.block b (Array.getElem?_eq_some_iff.1 ho).1).trans ho)
/-- while edges are laid into rows: the cells of the slices of slices may lag behind the rows -/
structure BI (W0 : World) (gN gR gF gO S : Nat) (cN cR cF vF cO vO : List Value) (vs : Value) (fr : Nat → List Int) (ov : Nat → List Ed) (sets : List Quad) (W : World) : Prop where
  bel : Below W0.heap.size W0 W
  hN : W0.heap.size ≤ gN
  hR : W0.heap.size ≤ gR
  hF : W0.heap.size ≤ gF
  hO : W0.heap.size ≤ gO
  blkN : Blk W gN 24 cN
  blkR : Blk W gR 30 cR
  blkF : Blk W gF 36 cF
  blkO : Blk W gO 22 cO
  lenF : vF.length = S
  lenO : vO.length = S
  ownF : ∀ i, i < S → W.ownsRow W0.heap.size 3 1 (vF.getD i undef) (fr i).length (numsV .i64 (fr i))
  ownO : ∀ i, i < S → W.ownsRow W0.heap.size 70 7 (vO.getD i undef) (ov i).length (edsV (ov i))
  ownS : W.ownsRow W0.heap.size 46 4 vs sets.length (quadsV sets)
  apF : ∀ i j, i < S → j < S → i ≠ j → ∀ b, (vF.getD i undef).ownBlock = some b → (vF.getD j undef).ownBlock ≠ some b
  apO : ∀ i j, i < S → j < S → i ≠ j → ∀ b, (vO.getD i undef).ownBlock = some b → (vO.getD j undef).ownBlock ≠ some b
section
variable {W0 W W' : World} {gN gR gF gO S : Nat} {cN cR cF vF cO vO : List Value} {vs : Value} {fr : Nat → List Int} {ov : Nat → List Ed} {sets : List Quad}
theorem BI.go (h : BI W0 gN gR gF gO S cN cR cF vF cO vO vs fr ov sets W) (hb : Below W.heap.size W W') : BI W0 gN gR gF gO S cN cR cF vF cO vO vs fr ov sets W' :=
  ⟨h.bel.trans (hb.mono h.bel.size), h.hN, h.hR, h.hF, h.hO, h.blkN.below hb h.blkN.lt, h.blkR.below hb h.blkR.lt, h.blkF.below hb h.blkF.lt, h.blkO.below hb h.blkO.lt, h.lenF, h.lenO,
    fun i hi => own_kept (h.ownF i hi) hb, fun i hi => own_kept (h.ownO i hi) hb, own_kept h.ownS hb, h.apF, h.apO⟩
theorem BI.alloc (h : BI W0 gN gR gF gO S cN cR cF vF cO vO vs fr ov sets W) (o : Obj) : BI W0 gN gR gF gO S cN cR cF vF cO vO vs fr ov sets (W.alloc o) := h.go ((Below.refl _ _).alloc (Nat.le_refl _) o)
theorem BI.drew (h : BI W0 gN gR gF gO S cN cR cF vF cO vO vs fr ov sets W) : BI W0 gN gR gF gO S cN cR cF vF cO vO vs fr ov sets W.drew := h.go (Below.refl _ _).drew
theorem getD_setU {l : List Value} {i j : Nat} (hi : i < l.length) (v : Value) : (l.set i v).getD j undef = if j = i then v else l.getD j undef := by
  by_cases e9 : j = i
  · subst e9; simp [hi]
  · rw [if_neg e9]; simp [List.getD_eq_getElem?_getD, Ne.symm e9]
/-- a row's apartness when one row is appended to -/
theorem ap_set {vF : List Value} {hl : vF.length = S} {i g5 n5 c5 H : Nat} (hi : i < S) (hap : ∀ i j, i < S → j < S → i ≠ j → ∀ b, (vF.getD i undef).ownBlock = some b → (vF.getD j undef).ownBlock ≠ some b)
    (hlt : ∀ j, j < S → ∀ b, (vF.getD j undef).ownBlock = some b → b < H) (hat : (vF.getD i undef).ownBlock = some g5 ∨ g5 = H) :
    ∀ a j, a < S → j < S → a ≠ j → ∀ b, ((vF.set i (.slice (some ⟨g5, 0, none⟩) n5 c5)).getD a undef).ownBlock = some b → ((vF.set i (.slice (some ⟨g5, 0, none⟩) n5 c5)).getD j undef).ownBlock ≠ some b := by
  have fresh : ∀ j, j < S → j ≠ i → (vF.getD j undef).ownBlock ≠ some g5 := fun j hj hne e9 => by
    rcases hat with hat | hat
    · exact hap i j hi hj (Ne.symm hne) g5 hat e9
    · have := hlt j hj g5 e9; omega
  intro a j ha hj hne b hb
  rw [getD_setU (by omega)] at hb
  rw [getD_setU (by omega)]
  by_cases e1 : a = i
  · rw [if_pos e1] at hb
    rw [if_neg (by omega)]
    obtain rfl : g5 = b := by simpa [Value.ownBlock] using hb
    exact fresh j hj (by omega)
  · rw [if_neg e1] at hb
    by_cases e2 : j = i
    · rw [if_pos e2]
      intro e9
      obtain rfl : g5 = b := by simpa [Value.ownBlock] using e9
      exact fresh a ha e1 hb
    · rw [if_neg e2]
      exact hap a j ha hj hne b hb
theorem kept_ne {row : Option Nat} {base size n : Nat} {e : TypeId} {v : Value} {xs : List Value} (hg : W.grownBy W' row) (h : W.ownsRow base e size v n xs) (hne : ∀ b, row = some b → v.ownBlock ≠ some b) : W'.ownsRow base e size v n xs :=
  own_move h (fun b _ hb ho _ => (hg.block b (Array.getElem?_eq_some_iff.1 ho).1 (fun e => hne b e.symm hb)).trans ho)
theorem BI.appF (h : BI W0 gN gR gF gO S cN cR cF vF cO vO vs fr ov sets W) {i : Nat} (hi : i < S) {g5 n5 c5 : Nat} {x : Int} (hgrow : W.grownBy W' (vF.getD i undef).ownBlock)
    (hown : W'.ownsRow W0.heap.size 3 1 (.slice (some ⟨g5, 0, none⟩) n5 c5) ((fr i).length + 1) (numsV .i64 (fr i ++ [x]))) (hat : (vF.getD i undef).ownBlock = some g5 ∨ g5 = W.heap.size) :
    BI W0 gN gR gF gO S cN cR cF (vF.set i (.slice (some ⟨g5, 0, none⟩) n5 c5)) cO vO vs (fun j => if j = i then fr j ++ [x] else fr j) ov sets W' := by
  have hb := But.of_grown hgrow
  have hoi := h.ownF i hi
  refine ⟨h.bel.grown hgrow h.bel.size (fun k hk => (hoi.lt k hk).1), h.hN, h.hR, h.hF, h.hO, hb.blk h.blkN (blk_own_ne h.blkN hoi (by decide)), hb.blk h.blkR (blk_own_ne h.blkR hoi (by decide)), hb.blk h.blkF (blk_own_ne h.blkF hoi (by decide)), hb.blk h.blkO (blk_own_ne h.blkO hoi (by decide)), by rw [List.length_set]; exact h.lenF, h.lenO, fun j hj => ?_,
    fun j hj => kept_ne hgrow (h.ownO j hj) (fun b e => own_own_ne hoi (h.ownO j hj) (by decide) b e), kept_ne hgrow h.ownS (fun b e => own_own_ne hoi h.ownS (by decide) b e), ap_set (hl := h.lenF) hi h.apF (fun j hj b e => ((h.ownF j hj).lt b e).2) hat, h.apO⟩
  rw [getD_setU (by rw [h.lenF]; exact hi)]
  by_cases e9 : j = i
  · subst e9
    rw [if_pos rfl, if_pos rfl, List.length_append]
    exact hown
  · rw [if_neg e9, if_neg e9]
    exact kept_ne hgrow (h.ownF j hj) (fun b e => h.apF i j hi hj (Ne.symm e9) b e)
theorem BI.appO (h : BI W0 gN gR gF gO S cN cR cF vF cO vO vs fr ov sets W) {i : Nat} (hi : i < S) {g5 n5 c5 : Nat} {x : Ed} (hgrow : W.grownBy W' (vO.getD i undef).ownBlock)
    (hown : W'.ownsRow W0.heap.size 70 7 (.slice (some ⟨g5, 0, none⟩) n5 c5) ((ov i).length + 1) (edsV (ov i ++ [x]))) (hat : (vO.getD i undef).ownBlock = some g5 ∨ g5 = W.heap.size) :
    BI W0 gN gR gF gO S cN cR cF vF cO (vO.set i (.slice (some ⟨g5, 0, none⟩) n5 c5)) vs fr (fun j => if j = i then ov j ++ [x] else ov j) sets W' := by
  have hb := But.of_grown hgrow
  have hoi := h.ownO i hi
  refine ⟨h.bel.grown hgrow h.bel.size (fun k hk => (hoi.lt k hk).1), h.hN, h.hR, h.hF, h.hO, hb.blk h.blkN (blk_own_ne h.blkN hoi (by decide)), hb.blk h.blkR (blk_own_ne h.blkR hoi (by decide)), hb.blk h.blkF (blk_own_ne h.blkF hoi (by decide)), hb.blk h.blkO (blk_own_ne h.blkO hoi (by decide)), h.lenF, by rw [List.length_set]; exact h.lenO,
    fun j hj => kept_ne hgrow (h.ownF j hj) (fun b e => own_own_ne hoi (h.ownF j hj) (by decide) b e), fun j hj => ?_, kept_ne hgrow h.ownS (fun b e => own_own_ne hoi h.ownS (by decide) b e), h.apF, ap_set (hl := h.lenO) hi h.apO (fun j hj b e => ((h.ownO j hj).lt b e).2) hat⟩
  rw [getD_setU (by rw [h.lenO]; exact hi)]
  by_cases e9 : j = i
  · subst e9
    rw [if_pos rfl, if_pos rfl, List.length_append]
    exact hown
  · rw [if_neg e9, if_neg e9]
    exact kept_ne hgrow (h.ownO j hj) (fun b e => h.apO i j hi hj (Ne.symm e9) b e)
theorem BI.appS (h : BI W0 gN gR gF gO S cN cR cF vF cO vO vs fr ov sets W) {g5 n5 c5 : Nat} {x : Quad} (hgrow : W.grownBy W' vs.ownBlock)
    (hown : W'.ownsRow W0.heap.size 46 4 (.slice (some ⟨g5, 0, none⟩) n5 c5) (sets.length + 1) (quadsV (sets ++ [x]))) :
    BI W0 gN gR gF gO S cN cR cF vF cO vO (.slice (some ⟨g5, 0, none⟩) n5 c5) fr ov (sets ++ [x]) W' := by
  have hb := But.of_grown hgrow
  have hoi := h.ownS
  exact ⟨h.bel.grown hgrow h.bel.size (fun k hk => (hoi.lt k hk).1), h.hN, h.hR, h.hF, h.hO, hb.blk h.blkN (blk_own_ne h.blkN hoi (by decide)), hb.blk h.blkR (blk_own_ne h.blkR hoi (by decide)), hb.blk h.blkF (blk_own_ne h.blkF hoi (by decide)), hb.blk h.blkO (blk_own_ne h.blkO hoi (by decide)), h.lenF, h.lenO,
    fun j hj => kept_ne hgrow (h.ownF j hj) (fun b e => own_own_ne hoi (h.ownF j hj) (by decide) b e), fun j hj => kept_ne hgrow (h.ownO j hj) (fun b e => own_own_ne hoi (h.ownO j hj) (by decide) b e), by rw [List.length_append]; exact hown, h.apF, h.apO⟩
theorem kept_cell {g k base size n : Nat} {e t : TypeId} {v u : Value} {xs cur : List Value} (hb : Blk W g t cur) (h : W.ownsRow base e size v n xs) (hne : t ≠ e) : (W.setCell ⟨g, k, none⟩ u).ownsRow base e size v n xs :=
  kept_ne (grownBy_setCell W g k u) h (fun b e => by cases e; exact blk_own_ne hb h hne)
theorem blk_cell {g g' k : Nat} {t t' : TypeId} {u : Value} {cur cur' : List Value} (hb : Blk W g t cur) (h : Blk W g' t' cur') (hne : t ≠ t') : Blk (W.setCell ⟨g, k, none⟩ u) g' t' cur' :=
  h.same (Below.heap_setCell _ _ _ _ (show g' ≠ g from fun e => blk_ne hb h hne e.symm))
theorem BI.stF (h : BI W0 gN gR gF gO S cN cR cF vF cO vO vs fr ov sets W) (i : Nat) (v : Value) : BI W0 gN gR gF gO S cN cR (cF.set i v) vF cO vO vs fr ov sets (W.setCell ⟨gF, i, none⟩ v) :=
  ⟨below_sc h.bel h.hF _, h.hN, h.hR, h.hF, h.hO, blk_cell h.blkF h.blkN (by decide), blk_cell h.blkF h.blkR (by decide), h.blkF.set i v, blk_cell h.blkF h.blkO (by decide), h.lenF, h.lenO,
    fun j hj => kept_cell h.blkF (h.ownF j hj) (by decide), fun j hj => kept_cell h.blkF (h.ownO j hj) (by decide), kept_cell h.blkF h.ownS (by decide), h.apF, h.apO⟩
theorem BI.stO (h : BI W0 gN gR gF gO S cN cR cF vF cO vO vs fr ov sets W) (i : Nat) (v : Value) : BI W0 gN gR gF gO S cN cR cF vF (cO.set i v) vO vs fr ov sets (W.setCell ⟨gO, i, none⟩ v) :=
  ⟨below_sc h.bel h.hO _, h.hN, h.hR, h.hF, h.hO, blk_cell h.blkO h.blkN (by decide), blk_cell h.blkO h.blkR (by decide), blk_cell h.blkO h.blkF (by decide), h.blkO.set i v, h.lenF, h.lenO,
    fun j hj => kept_cell h.blkO (h.ownF j hj) (by decide), fun j hj => kept_cell h.blkO (h.ownO j hj) (by decide), kept_cell h.blkO h.ownS (by decide), h.apF, h.apO⟩
theorem BI.cellF (h : BI W0 gN gR gF gO S cN cR vF vF cO vO vs fr ov sets W) {i : Nat} (hi : i < S) : W.cell? ⟨gF, i, none⟩ = some (vF.getD i undef) := by
  rw [h.blkF.cell]
  have := h.lenF
  rw [List.getElem?_eq_getElem (by omega)]
  simp [show i < vF.length by omega]
theorem BI.cellO (h : BI W0 gN gR gF gO S cN cR cF vF vO vO vs fr ov sets W) {i : Nat} (hi : i < S) : W.cell? ⟨gO, i, none⟩ = some (vO.getD i undef) := by
  rw [h.blkO.cell]
  have := h.lenO
  rw [List.getElem?_eq_getElem (by omega)]
  simp [show i < vO.length by omega]
end
end Go.Proofs.Ytfjhcoeehjephaa
