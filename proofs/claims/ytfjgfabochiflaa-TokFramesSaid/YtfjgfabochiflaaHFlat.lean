/- Rows of structs: the cells of a list of structs of so many cells each. -/
import Derived.Test.YtfjgfabochiflaaHCom
import Derived.Deep.MidRow
namespace Go.Proofs.Ytfjgfabochiflaa.H14
open Go.RowKit

/-- element k's cell j is 'f (l k) j' -/
def flat {α : Type} (m : Nat) (f : α → Nat → Value) (d : α) (l : List α) : List Value := (List.range (l.length * m)).map fun t => f (l.getD (t / m) d) (t % m)
def cellsOfEl {α : Type} (m : Nat) (f : α → Nat → Value) (x : α) : List Value := (List.range m).map (f x)
section
variable {α : Type} {m : Nat} {f : α → Nat → Value} {d : α}
theorem length_flat (l : List α) : (flat m f d l).length = l.length * m := by simp [flat]
theorem length_cellsOfEl (x : α) : (cellsOfEl m f x).length = m := by simp [cellsOfEl]
theorem flat_idx {l : List α} {k j : Nat} (hk : k < l.length) (hj : j < m) : k * m + j < l.length * m := by
  have : (k + 1) * m ≤ l.length * m := Nat.mul_le_mul_right m hk
  rw [Nat.add_mul] at this
  omega
theorem idx_div {k j : Nat} (hj : j < m) : (k * m + j) / m = k := by
  rw [Nat.mul_comm, Nat.mul_add_div (by omega), Nat.div_eq_of_lt hj]; omega
theorem idx_mod {k j : Nat} (hj : j < m) : (k * m + j) % m = j := by
  rw [Nat.mul_comm, Nat.mul_add_mod, Nat.mod_eq_of_lt hj]
theorem flat_get {l : List α} {k j : Nat} (hk : k < l.length) (hj : j < m) : (flat m f d l)[k * m + j]? = some (f (l.getD k d) j) := by
  unfold flat
  rw [List.getElem?_map, List.getElem?_range (flat_idx hk hj), Option.map_some, idx_div hj, idx_mod hj]
theorem flat_getD {l : List α} {t : Nat} (ht : t < l.length * m) : (flat m f d l)[t]? = some (f (l.getD (t / m) d) (t % m)) := by
  unfold flat
  rw [List.getElem?_map, List.getElem?_range ht, Option.map_some]
/-- one field is written -/
theorem flat_set {l : List α} {k j : Nat} {v : Value} {x : α} (hk : k < l.length) (hj : j < m) (hv : f x j = v) (ho : ∀ i, i < m → i ≠ j → f x i = f (l.getD k d) i) : (flat m f d l).set (k * m + j) v = flat m f d (l.set k x) := by
  apply List.ext_getElem?
  intro t
  rw [List.getElem?_set, length_flat, if_pos (flat_idx hk hj)]
  by_cases ht : t < l.length * m
  · have hm : 0 < m := by omega
    have hdm := Nat.div_add_mod t m
    have hml := Nat.mod_lt t hm
    rw [flat_getD (l := l.set k x) (by simpa using ht), flat_getD ht]
    by_cases e : k * m + j = t
    · subst e
      rw [if_pos rfl, idx_div hj, idx_mod hj]
      simp [hk, hv]
    · rw [if_neg e]
      by_cases e2 : t / m = k
      · rw [e2]
        have : t % m ≠ j := fun h9 => e (by rw [← hdm, e2, h9, Nat.mul_comm])
        simp only [List.getD_eq_getElem?_getD, List.getElem?_set, hk, if_true, Option.getD_some]
        have := ho (t % m) hml this
        simp only [List.getD_eq_getElem?_getD] at this
        rw [this]
      · simp [List.getD_eq_getElem?_getD, Ne.symm e2]
  · rw [if_neg (fun e => ht (by rw [← e]; exact flat_idx hk hj)), List.getElem?_eq_none (by rw [length_flat]; omega), List.getElem?_eq_none (by rw [length_flat]; simp; omega)]
theorem flat_snoc (l : List α) (x : α) : flat m f d (l ++ [x]) = flat m f d l ++ cellsOfEl m f x := by
  apply List.ext_getElem?
  intro t
  by_cases ht : t < (l ++ [x]).length * m
  · have hm : 0 < m := by
      apply Nat.pos_of_ne_zero
      intro h9; subst h9; simp at ht
    have hdm := Nat.div_add_mod t m
    have hml := Nat.mod_lt t hm
    rw [flat_getD ht]
    by_cases h1 : t < l.length * m
    · have h2 : t / m < l.length := Nat.div_lt_of_lt_mul (by rw [Nat.mul_comm]; exact h1)
      rw [List.getElem?_append_left (by rw [length_flat]; exact h1), flat_getD h1]
      simp [List.getD_eq_getElem?_getD, List.getElem?_append_left h2]
    · simp only [List.length_append, List.length_cons, List.length_nil, Nat.zero_add, Nat.add_mul, Nat.one_mul] at ht
      have h2 : t / m = l.length := by
        have a1 : l.length ≤ t / m := (Nat.le_div_iff_mul_le hm).2 (by omega)
        have a2 : t / m < l.length + 1 := Nat.div_lt_of_lt_mul (by rw [Nat.mul_comm, Nat.add_mul]; omega)
        omega
      have h3 : t - l.length * m = t % m := by
        rw [h2, Nat.mul_comm] at hdm
        omega
      rw [List.getElem?_append_right (by rw [length_flat]; omega), length_flat, h3, h2]
      unfold cellsOfEl
      rw [List.getElem?_map, List.getElem?_range hml]
      simp
  · rw [List.getElem?_eq_none (by rw [length_flat]; omega), List.getElem?_eq_none (by rw [List.length_append, length_flat, length_cellsOfEl]; simp [Nat.add_mul] at ht; omega)]
theorem flat_take (l : List α) (n : Nat) : flat m f d (l.take n) = (flat m f d l).take (n * m) := by
  apply List.ext_getElem?
  intro t
  rw [List.getElem?_take]
  by_cases h1 : t < n * m
  · rw [if_pos h1]
    have hm : 0 < m := by
      apply Nat.pos_of_ne_zero
      intro h9; subst h9; simp at h1
    have h2 : t / m < n := Nat.div_lt_of_lt_mul (by rw [Nat.mul_comm]; exact h1)
    by_cases h3 : t < l.length * m
    · have h4 : t / m < l.length := Nat.div_lt_of_lt_mul (by rw [Nat.mul_comm]; exact h3)
      have h5 : t < (l.take n).length * m := by
        rw [List.length_take, Nat.min_def]
        split
        · exact h1
        · exact h3
      rw [flat_getD h5, flat_getD h3]
      simp [List.getD_eq_getElem?_getD, h2]
    · rw [List.getElem?_eq_none (by rw [length_flat]; have : (l.take n).length * m ≤ l.length * m := Nat.mul_le_mul_right m (by rw [List.length_take]; omega); omega), List.getElem?_eq_none (by rw [length_flat]; omega)]
  · rw [if_neg h1, List.getElem?_eq_none]
    rw [length_flat]
    have : (l.take n).length * m ≤ n * m := Nat.mul_le_mul_right m (by rw [List.length_take]; omega)
    omega
/-- the cells of one element -/
theorem flat_el {l : List α} {k : Nat} (hk : k < l.length) (j : Nat) (v : Value) (h : (cellsOfEl m f (l.getD k d))[j]? = some v) : (flat m f d l)[k * m + j]? = some v := by
  have hj : j < m := by rw [← length_cellsOfEl (m := m) (f := f) (l.getD k d)]; exact (List.getElem?_eq_some_iff.1 h).1
  rw [flat_get hk hj, ← h]
  unfold cellsOfEl
  rw [List.getElem?_map, List.getElem?_range hj, Option.map_some]
end
/-- cells that are written one behind the other into a list -/
def setMany (cur : List Value) (o : Nat) : List Value → List Value
  | [] => cur
  | v :: vs => setMany (cur.set o v) (o + 1) vs
theorem length_setMany : ∀ (vs cur : List Value) (o : Nat), (setMany cur o vs).length = cur.length
  | [], _, _ => rfl
  | v :: vs, cur, o => by rw [setMany, length_setMany vs]; simp
theorem setMany_get : ∀ (vs cur : List Value) (o t : Nat), o + vs.length ≤ cur.length → (setMany cur o vs)[t]? = if o ≤ t ∧ t < o + vs.length then vs[t - o]? else cur[t]?
  | [], cur, o, t, _ => by simp [setMany]; intro h1 h2; omega
  | v :: vs, cur, o, t, h => by
    simp only [List.length_cons] at h
    rw [setMany, setMany_get vs (cur.set o v) (o + 1) t (by simp; omega)]
    by_cases e : t = o
    · subst e
      rw [if_neg (by omega), if_pos (by simp), List.getElem?_set_self (by omega)]
      simp
    · by_cases h2 : o + 1 ≤ t ∧ t < o + 1 + vs.length
      · rw [if_pos h2, if_pos (by simp; omega), show t - o = (t - (o + 1)) + 1 by omega, List.getElem?_cons_succ]
      · rw [if_neg h2, if_neg (by simp; omega), List.getElem?_set_ne (by omega)]
theorem flat_setEl {α : Type} {m : Nat} {f : α → Nat → Value} {d : α} {l : List α} {k : Nat} (hk : k < l.length) (x : α) : setMany (flat m f d l) (k * m) (cellsOfEl m f x) = flat m f d (l.set k x) := by
  have hle : k * m + m ≤ l.length * m := by
    have : (k + 1) * m ≤ l.length * m := Nat.mul_le_mul_right m hk
    rw [Nat.add_mul] at this
    omega
  apply List.ext_getElem?
  intro t
  rw [setMany_get _ _ _ _ (by rw [length_flat, length_cellsOfEl]; exact hle), length_cellsOfEl]
  by_cases ht : t < l.length * m
  · have hm : 0 < m := by
      apply Nat.pos_of_ne_zero
      intro h9; subst h9; simp at ht
    rw [flat_getD (l := l.set k x) (by simpa using ht), flat_getD ht]
    by_cases e : k * m ≤ t ∧ t < k * m + m
    · rw [if_pos e]
      have e2 : t = k * m + (t - k * m) := by omega
      have e3 : t / m = k := by rw [e2]; exact idx_div (by omega)
      have e4 : t % m = t - k * m := by
        conv => lhs; rw [e2]
        exact idx_mod (by omega)
      rw [e3, e4]
      unfold cellsOfEl
      rw [List.getElem?_map, List.getElem?_range (by omega)]
      simp [hk]
    · rw [if_neg e]
      have e3 : ¬ t / m = k := fun h9 => by
        have hdm := Nat.div_add_mod t m
        have hml := Nat.mod_lt t hm
        rw [h9, Nat.mul_comm] at hdm
        omega
      simp [List.getD_eq_getElem?_getD, Ne.symm e3]
  · rw [if_neg (by omega), List.getElem?_eq_none (by rw [length_flat]; omega), List.getElem?_eq_none (by rw [length_flat]; simp; omega)]
/-- many cells are written into a block -/
theorem Blk.setCells {g : Nat} {t : TypeId} : ∀ {vs : List Value} {w : World} {cur : List Value} {o : Nat}, Blk w g t cur → Blk (w.setCells g o vs) g t (setMany cur o vs)
  | [], _, _, _, h => h
  | v :: vs, _, _, o, h => Blk.setCells (vs := vs) (h.set o v)
/-- many cells are written into a row of the call's own -/
theorem own_setCells {g n cap base size : Nat} {e : TypeId} : ∀ {vs : List Value} {w : World} {xs : List Value} {o : Nat}, w.ownsRow base e size (.slice (some ⟨g, 0, none⟩) n cap) n xs →
    (w.setCells g o vs).ownsRow base e size (.slice (some ⟨g, 0, none⟩) n cap) n (setMany xs o vs) ∧ w.grownBy (w.setCells g o vs) (some g)
  | [], w, xs, o, h => ⟨h, ⟨rfl, rfl, rfl, Nat.le_refl _, fun _ _ _ => rfl⟩⟩
  | v :: vs, w, xs, o, h => by
    obtain ⟨h1, g1⟩ := h.stored o v
    obtain ⟨h2, g2⟩ := own_setCells (vs := vs) (o := o + 1) h1
    refine ⟨h2, ⟨g2.os.trans g1.os, g2.tape.trans g1.tape, g2.output.trans g1.output, Nat.le_trans g1.size g2.size, fun k hk hne => ?_⟩⟩
    rw [World.setCells, g2.block k (Nat.lt_of_lt_of_le hk g1.size) hne, g1.block k hk hne]
theorem grownBy_setCells (g : Nat) : ∀ (vs : List Value) (w : World) (o : Nat), w.grownBy (w.setCells g o vs) (some g)
  | [], _, _ => ⟨rfl, rfl, rfl, Nat.le_refl _, fun _ _ _ => rfl⟩
  | v :: vs, w, o => by
    have g1 := grownBy_setCell w g o v
    have g2 := grownBy_setCells g vs (w.setCell ⟨g, o, none⟩ v) (o + 1)
    refine ⟨g2.os.trans g1.os, g2.tape.trans g1.tape, g2.output.trans g1.output, Nat.le_trans g1.size g2.size, fun k hk hne => ?_⟩
    rw [World.setCells, g2.block k (Nat.lt_of_lt_of_le hk g1.size) hne, g1.block k hk hne]
/-- a row of structs: an element is read, and may be written -/
theorem own_range {α : Type} {m : Nat} {f : α → Nat → Value} {d : α} {w : World} {g n cap base : Nat} {e : TypeId} {l : List α} (h : w.ownsRow base e m (.slice (some ⟨g, 0, none⟩) n cap) n (flat m f d l)) (hl : l.length = n) {k : Nat} (hk : k < n) :
    w.rangeAt g (k * m) (cellsOfEl m f (l.getD k d)) ∧ w.there g (k * m) m := by
  have hc : ∀ j, j < m → w.cell? ⟨g, k * m + j, none⟩ = (flat m f d l)[k * m + j]? := fun j hj => h.cellAt _ (by rw [← hl]; exact flat_idx (by omega) hj)
  constructor
  · intro j v hv
    have hj : j < m := by rw [← length_cellsOfEl (m := m) (f := f) (l.getD k d)]; exact (List.getElem?_eq_some_iff.1 hv).1
    rw [hc j hj]
    exact flat_el (by omega) j v hv
  · intro j hj
    refine ⟨?_, h.frozenAt _⟩
    rw [hc j hj, flat_get (by omega) hj]
    rfl
theorem blk_range {α : Type} {m : Nat} {f : α → Nat → Value} {d : α} {w : World} {g : Nat} {t : TypeId} {l : List α} (h : Blk w g t (flat m f d l)) {k : Nat} (hk : k < l.length) :
    w.rangeAt g (k * m) (cellsOfEl m f (l.getD k d)) ∧ w.there g (k * m) m := by
  constructor
  · intro j v hv
    rw [h.cell]
    exact flat_el hk j v hv
  · intro j hj
    exact ⟨by rw [h.cell, flat_get hk hj]; rfl, h.frozen _⟩
end Go.Proofs.Ytfjgfabochiflaa.H14
