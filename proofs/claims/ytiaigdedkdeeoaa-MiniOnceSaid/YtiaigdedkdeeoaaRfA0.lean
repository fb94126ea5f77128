/- The reference's apart: what it keeps; plain facts. -/
import Derived.Test.YtiaigdedkdeeoaaRfD
import Derived.Test.YtiaigdedkdeeoaaMiRows
namespace Go.Proofs.Ytiaigdedkdeeoaa
open Go.RowKit Go.Maps Go.WideMaps

def setT (T : List (List Bool)) (i j : Nat) : List (List Bool) := T.set i ((T.getD i []).set j true)
theorem getD_setL {α : Type} {l : List α} {i j : Nat} (x d : α) (hj : j < l.length) : (l.set j x).getD i d = if i = j then x else l.getD i d := by
  by_cases e : i = j
  · subst e; simp [hj]
  · rw [if_neg e, List.getD_eq_getElem?_getD, List.getElem?_set, if_neg (Ne.symm e), ← List.getD_eq_getElem?_getD]
theorem setT_row {T : List (List Bool)} {i j k : Nat} (hi : i < T.length) : (setT T i j).getD k [] = if k = i then (T.getD i []).set j true else T.getD k [] := getD_setL _ _ hi
theorem setT_tb {T : List (List Bool)} {i j p q : Nat} (hi : i < T.length) (hj : j < (T.getD i []).length) : tb (setT T i j) p q = true ↔ (p = i ∧ q = j) ∨ tb T p q = true := by
  unfold tb
  rw [setT_row hi]
  by_cases e : p = i
  · subst e
    rw [if_pos rfl, getD_setL _ _ hj]
    by_cases e2 : q = j
    · subst e2; simp
    · rw [if_neg e2]; simp [e2]
  · rw [if_neg e]; simp [e]
def falsesT (T : List (List Bool)) : Nat := (T.map falses).sum
theorem sum_set : ∀ (l : List Nat) (i x : Nat) (h : i < l.length), (l.set i x).sum + l[i] = l.sum + x
  | a :: l, 0, x, h => by simp; omega
  | a :: l, i + 1, x, h => by
    have := sum_set l i x (by simpa using h)
    simp only [List.set_cons_succ, List.sum_cons, List.getElem_cons_succ]
    omega
theorem falsesT_set {T : List (List Bool)} {i j : Nat} (hi : i < T.length) (hj : j < (T.getD i []).length) (h : tb T i j = false) : falsesT (setT T i j) + 1 = falsesT T := by
  have h1 := falses_set hj h
  unfold falsesT setT
  rw [List.map_set]
  have h2 := sum_set (T.map falses) i (falses ((T.getD i []).set j true)) (by simpa using hi)
  have h3 : (T.map falses)[i]'(by simpa using hi) = falses (T.getD i []) := by simp [hi]
  rw [h3] at h2
  omega
structure TabI (A : Aut) (T : List (List Bool)) : Prop where
  acc : ∀ i j, i < A.n → j < A.n → A.acc i ≠ A.acc j → tb T i j = true
  sound : ∀ i j, i < A.n → j < A.n → tb T i j = true → ¬ LE A A i j
section
variable {A : Aut} {T : List (List Bool)}
theorem TabI.start (h : ∀ i j, i < A.n → j < A.n → (tb T i j = true ↔ A.acc i ≠ A.acc j)) : TabI A T :=
  ⟨fun i j hi hj ha => (h i j hi hj).2 ha, fun i j hi hj ht hl => (h i j hi hj).1 ht hl.acc⟩
theorem diff_apart (h : TabI A T) (hok : A.Ok) {i j b : Nat} (hi : i < A.n) (hj : j < A.n) (hb : b < 256) (hd : Diff A T i j b) : ¬ LE A A i j := fun hl => by
  rcases hd with hd | ⟨hd, ht⟩
  · exact hd (hl.dead hb)
  · have hd' : ¬ Dead A j b := fun h9 => hd ((hl.dead hb).2 h9)
    have h1 := (not_dead hd).1
    have h2 := (not_dead hd').1
    have h3 := hok.hi i b hi hb
    have h4 := hok.hi j b hj hb
    exact h.sound _ _ (by omega) (by omega) ht (hl.step hb hd)
theorem TabI.set {i j : Nat} (h : TabI A T) (hl : ¬ LE A A i j) (hi : i < T.length) (hj : j < (T.getD i []).length) : TabI A (setT T i j) := by
  refine ⟨fun p q hp hq ha => (setT_tb hi hj).2 (.inr (h.acc p q hp hq ha)), fun p q hp hq ht => ?_⟩
  rcases (setT_tb hi hj).1 ht with ⟨rfl, rfl⟩ | h9
  · exact hl
  · exact h.sound p q hp hq h9
theorem TabI.done (h : TabI A T) (hok : A.Ok) (hc : ∀ i j, i < A.n → j < A.n → tb T i j = false → ∀ b, b < 256 → ¬ Diff A T i j b) {i j : Nat} (hi : i < A.n) (hj : j < A.n) : tb T i j = false ↔ LE A A i j := by
  constructor
  · intro ht
    refine le_closed (R := fun i j => i < A.n ∧ j < A.n ∧ tb T i j = false) (fun i j hr => ?_) (fun i j b hr hb => ?_) ⟨hi, hj, ht⟩
    · apply Classical.byContradiction
      intro h9
      have := h.acc i j hr.1 hr.2.1 h9
      rw [hr.2.2] at this; cases this
    · have h1 := hc i j hr.1 hr.2.1 hr.2.2 b hb
      have h2 : Dead A i b ↔ Dead A j b := Classical.byContradiction fun h9 => h1 (.inl h9)
      refine ⟨h2, fun hn => ?_⟩
      have hn' : ¬ Dead A j b := fun h9 => hn (h2.2 h9)
      have e1 := (not_dead hn).1
      have e2 := (not_dead hn').1
      have e3 := hok.hi i b hr.1 hb
      have e4 := hok.hi j b hr.2.1 hb
      refine ⟨by omega, by omega, ?_⟩
      cases e : tb T (A.nx i b).toNat (A.nx j b).toNat with
      | false => rfl
      | true => exact (h1 (.inr ⟨hn, e⟩)).elim
  · intro hl
    cases e : tb T i j with
    | false => rfl
    | true => exact (h.sound i j hi hj e hl).elim
end
/-- the rows of a table of marks, in memory -/
structure TabW (w W : World) (ds : Array Value) (n k : Nat) (v : Value) (gr : Nat → Nat) (T : List (List Bool)) : Prop where
  bel : Below w.heap.size w W
  box : Blk W w.heap.size 26 ds.toList
  on : W.ownsRow (w.heap.size + 1) 34 1 v k ((List.range k).map (fun i => .slice (some ⟨gr i, 0, none⟩) n n))
  len : T.length = k
  row : ∀ i, i < k → Blk W (gr i) 3 (bitsV (T.getD i []))
  wid : ∀ i, i < k → (T.getD i []).length = n
  ge : ∀ i, i < k → w.heap.size + 1 ≤ gr i
  inj : ∀ i j, i < k → j < k → gr i = gr j → i = j
section
variable {w W W' : World} {ds : Array Value} {n k : Nat} {v : Value} {gr : Nat → Nat} {T : List (List Bool)}
theorem TabW.go (h : TabW w W ds n k v gr T) (hb : Below W.heap.size W W') : TabW w W' ds n k v gr T :=
  ⟨h.bel.trans (hb.mono h.bel.size), h.box.below hb h.box.lt, own_kept h.on hb, h.len, fun i hi => (h.row i hi).below hb (h.row i hi).lt, h.wid, h.ge, h.inj⟩
theorem TabW.set (h : TabW w W ds n k v gr T) {i : Nat} (hi : i < k) (j : Nat) : TabW w (W.setCell ⟨gr i, j, none⟩ (.int .i64 1)) ds n k v gr (setT T i j) := by
  have hb := but_setCell W (gr i) j (.int .i64 1)
  have hg := h.ge i hi
  have hl : i < T.length := by rw [h.len]; exact hi
  refine ⟨h.bel.setCell (p := ⟨gr i, j, none⟩) (by show w.heap.size ≤ gr i; omega) _, hb.blk h.box (by omega), hb.own h.on (fun q hq e => blk_own_ne (h.row i hi) h.on (by decide) (by rw [hq, e])), by simp [setT, h.len], fun p hp => ?_, fun p hp => ?_, h.ge, h.inj⟩
  · rw [setT_row hl]
    by_cases e : p = i
    · subst e
      rw [if_pos rfl, bitsV_set]
      exact (h.row p hp).set j _
    · rw [if_neg e]
      exact hb.blk (h.row p hp) (fun e9 => e (h.inj p i hp hi e9))
  · rw [setT_row hl]
    by_cases e : p = i
    · subst e; rw [if_pos rfl, List.length_set]; exact h.wid p hp
    · rw [if_neg e]; exact h.wid p hp
/-- a row more -/
theorem TabW.add (h : TabW w W ds n k v gr T) {g : Nat} {l : List Bool} (hg : w.heap.size + 1 ≤ g) (hne : ∀ i, i < k → gr i ≠ g) (hl : l.length = n) (hb : Blk W g 3 (bitsV l)) {o : Obj} {v' : Value}
    (hown : W'.ownsRow (w.heap.size + 1) 34 1 v' (k + 1) ((List.range k).map (fun i => .slice (some ⟨gr i, 0, none⟩) n n) ++ [.slice (some ⟨g, 0, none⟩) n n])) (hgr : (W.alloc o).grownBy W' v.ownBlock) : TabW w W' ds n (k + 1) v' (fun i => if i = k then g else gr i) (T ++ [l]) := by
  have hal : Below W.heap.size W (W.alloc o) := (Below.refl _ _).alloc (Nat.le_refl _) _
  have ha := h.go hal
  have hba := hb.alloc o
  have hB := But.of_grown hgr
  have hlt : ∀ j, v.ownBlock = some j → w.heap.size + 1 ≤ j := fun j hj => (h.on.lt j hj).1
  refine ⟨ha.bel.trans (hB.below ha.bel.size (fun j hj => by have := hlt j hj; omega)), hB.blk ha.box (fun e => by have := hlt _ e; omega), ?_, by rw [List.length_append, h.len]; rfl, fun i hi => ?_, fun i hi => ?_, fun i hi => ?_, fun i j hi hj e => ?_⟩
  · rw [List.range_succ, List.map_append, List.map_singleton]
    rw [if_pos rfl]
    have e3 : (List.range k).map (fun i => Value.slice (some ⟨if i = k then g else gr i, 0, none⟩) n n) = (List.range k).map (fun i => .slice (some ⟨gr i, 0, none⟩) n n) := by
      apply List.map_congr_left
      intro i hi
      have := List.mem_range.1 hi
      rw [if_neg (by omega)]
    rw [e3]; exact hown
  · by_cases e : i = k
    · rw [if_pos e, e, ← h.len, getD_app2]
      exact hB.blk hba (fun e9 => blk_own_ne hba ha.on (by decide) e9)
    · rw [if_neg e, getD_app1 (by rw [h.len]; omega)]
      exact hB.blk (ha.row i (by omega)) (fun e9 => blk_own_ne (ha.row i (by omega)) ha.on (by decide) e9)
  · by_cases e : i = k
    · rw [e, ← h.len, getD_app2]; exact hl
    · rw [getD_app1 (by rw [h.len]; omega)]; exact h.wid i (by omega)
  · by_cases e : i = k
    · rw [if_pos e]; exact hg
    · rw [if_neg e]; exact h.ge i (by omega)
  · by_cases e1 : i = k
    · by_cases e2 : j = k
      · rw [e1, e2]
      · rw [if_pos e1, if_neg e2] at e
        exact (hne j (by omega) e.symm).elim
    · by_cases e2 : j = k
      · rw [if_neg e1, if_pos e2] at e
        exact (hne i (by omega) e).elim
      · rw [if_neg e1, if_neg e2] at e
        exact h.inj i j (by omega) (by omega) e
theorem TabW.inn {A : Option Addr} {c : Nat} (h : TabW w W ds n k (.slice A k c) gr T) (hk : k ≤ 400) (hn : n ≤ 400) : RowsIn W A k (T.map bitsL) (fun i => some ⟨gr i, 0, none⟩) (fun _ => n) := by
  refine ⟨by rw [List.length_map, h.len], by omega, fun hp => ?_, fun i hi hp => ⟨gr i, 0, rfl, (h.row i hi).lt, fun j q hj hq => ?_⟩, fun i hi => by rw [bits_row, bits_len, h.wid i hi]; omega⟩
  · obtain ⟨b, o, e, hlt, hc⟩ := Arr.of_own h.on hp
    refine ⟨b, o, e, hlt, fun i j hi hj => ?_⟩
    rw [hc i j hi hj]
    have e5 : ((List.range k).map (fun i => Value.slice (some ⟨gr i, 0, none⟩) n n)).getD i undef = .slice (some ⟨gr i, 0, none⟩) n n := by
      rw [List.getD_eq_getElem?_getD, List.getElem?_map, List.getElem?_range hi]; rfl
    refine (congrArg some e5).trans ?_
    show _ = some (Value.slice _ ((T.map bitsL).getD i []).length _)
    rw [bits_row, bits_len, h.wid i hi]
  · rw [bits_row, bits_len] at hj
    obtain rfl : q = 0 := by omega
    rw [show 0 + (j * 1 + 0) = j by omega, (h.row i hi).cell, bitsV_get hj]
    show _ = some (Value.int .i64 (((T.map bitsL).getD i []).getD j 0))
    rw [bits_row, bits_get]; rfl
def sumZ (gr : Nat → Nat) (n : Nat) (W : World) : Nat := ((List.range n).map (fun k => zerosB (gr k) W)).sum
theorem sumZ_eq (h : TabW w W ds n k v gr T) : sumZ gr k W = falsesT T := by
  unfold sumZ falsesT
  congr 1
  apply List.ext_getElem (by simp [h.len])
  intro i h1 h2
  have hi : i < k := by simpa using h1
  have := zerosB_eq (h.row i hi)
  simp only [List.getElem_map, List.getElem_range]
  rw [this]
  simp [show i < T.length by rw [h.len]; exact hi]
theorem TabW.cell (h : TabW w W ds n k v gr T) {i j : Nat} (hi : i < k) (hj : j < n) : W.cell? ⟨gr i, j, none⟩ = some (.int .i64 (bitI (tb T i j))) := by
  rw [(h.row i hi).cell]; exact bitsV_get (by rw [h.wid i hi]; exact hj)
end
end Go.Proofs.Ytiaigdedkdeeoaa
