/- MiniOnce: an automaton with its states twice; what the law keeps. -/
import Derived.Test.YtiaigdedkdeeoaaPlain
import Derived.Test.YtiaigdedkdeeoaaMapW
namespace Go.Proofs.Ytiaigdedkdeeoaa
open Go.RowKit Go.Maps Go.WideMaps

def twoX (n i c : Nat) (j : Int) : Int := if 0 ≤ j ∧ (i + c) % 2 = 1 then j + (n : Int) else j
def row2 (D : Dfa) (i : Nat) : List Int := (List.range D.many).map (fun c => twoX D.next.length i c ((D.next.getD (i % D.next.length) []).getD c 0))
def twiceD (D : Dfa) : Dfa := ⟨D.cls, (List.range (2 * D.next.length)).map (row2 D), D.acc ++ D.acc⟩
section
variable {D : Dfa}
theorem twice_len : (twiceD D).next.length = 2 * D.next.length := by show ((List.range _).map _).length = _; simp
theorem twice_row {i : Nat} (hi : i < 2 * D.next.length) : (twiceD D).next.getD i [] = row2 D i := by
  show ((List.range _).map _).getD i [] = _; simp [hi]
theorem row2_len (i : Nat) : (row2 D i).length = D.many := by simp [row2]
theorem row2_get {i c : Nat} (hc : c < D.many) : (row2 D i).getD c 0 = twoX D.next.length i c ((D.next.getD (i % D.next.length) []).getD c 0) := by simp [row2, hc]
theorem two_lo {n i c : Nat} {j : Int} (h1 : -1 ≤ j) (h2 : j < (n : Int)) : -1 ≤ twoX n i c j ∧ twoX n i c j < ((2 * n : Nat) : Int) := by
  unfold twoX; split <;> omega
theorem RightD.twice (h : RightD D) (hn : D.next.length ≤ 150) : RightD (twiceD D) := by
  have hlo := h.lo
  have hmany : (twiceD D).many = D.many := by unfold Dfa.many; rw [twice_row (by omega), row2_len]; rfl
  refine ⟨by rw [twice_len]; omega, by rw [twice_len]; omega, by rw [twice_len]; show (D.acc ++ D.acc).length = _; rw [List.length_append, h.alen]; omega, by rw [hmany]; exact h.mlo, by rw [hmany]; exact h.mhi, fun ⟨b, hb, h9⟩ => h.cls ⟨b, hb, by rw [hmany] at h9; exact h9⟩, fun ⟨i, hi, h9⟩ => ?_⟩
  rw [twice_len] at hi
  unfold RowOff at h9
  rw [twice_row hi, hmany, row2_len, twice_len] at h9
  rcases h9 with h9 | ⟨c, hc, h9⟩
  · exact h9 rfl
  · rw [row2_get hc] at h9
    have h1 := (h.row (i := i % D.next.length) (Nat.mod_lt _ (by omega))).2 c hc
    have h2 := two_lo (n := D.next.length) (i := i) (c := c) h1.1 h1.2
    omega
theorem twice_run (h : RightD D) : ∀ (w : List Nat), Byt w → ∀ i, i < 2 * D.next.length → run (autOf (twiceD D)) i w = run (autOf D) (i % D.next.length) w
  | [], _, i, hi => by
    show (D.acc ++ D.acc).getD i false = D.acc.getD (i % D.next.length) false
    have hal := h.alen
    by_cases e : i < D.next.length
    · rw [Nat.mod_eq_of_lt e, List.getD_eq_getElem?_getD, List.getElem?_append_left (by omega), ← List.getD_eq_getElem?_getD]
    · rw [show i % D.next.length = i - D.next.length by rw [Nat.mod_eq_sub_mod (by omega), Nat.mod_eq_of_lt (by omega)], List.getD_eq_getElem?_getD, List.getElem?_append_right (by omega), hal, ← List.getD_eq_getElem?_getD]
  | b :: w, hw, i, hi => by
    have hb : b < 256 := hw b List.mem_cons_self
    have hw' : Byt w := fun c hc => hw c (List.mem_cons_of_mem _ hc)
    have hlo := h.lo
    have hm : i % D.next.length < D.next.length := Nat.mod_lt _ (by omega)
    have hx : (autOf (twiceD D)).nx i b = twoX D.next.length i (D.cls b) ((autOf D).nx (i % D.next.length) b) := by
      show ((twiceD D).next.getD i []).getD (D.cls b) 0 = _
      rw [twice_row hi, row2_get (h.cl hb)]; rfl
    have h1 := h.aut.lo (i % D.next.length) b hm hb
    have h2 := h.aut.hi (i % D.next.length) b hm hb
    have h2 : (autOf D).nx (i % D.next.length) b < (D.next.length : Int) := h2
    obtain ⟨x, hxe⟩ : ∃ x, x = (autOf D).nx (i % D.next.length) b := ⟨_, rfl⟩
    rw [← hxe] at hx h1 h2
    show (if 0 ≤ (autOf (twiceD D)).nx i b then run (autOf (twiceD D)) ((autOf (twiceD D)).nx i b).toNat w else false) = (if 0 ≤ (autOf D).nx (i % D.next.length) b then run (autOf D) ((autOf D).nx (i % D.next.length) b).toNat w else false)
    rw [hx, ← hxe]
    have h3 := two_lo (n := D.next.length) (i := i) (c := D.cls b) h1 h2
    by_cases h0 : 0 ≤ x
    · have h4 : 0 ≤ twoX D.next.length i (D.cls b) x := by unfold twoX; split <;> omega
      rw [if_pos h0, if_pos h4, twice_run h w hw' _ (by omega)]
      congr 1
      unfold twoX
      split
      · rw [show (x + (D.next.length : Int)).toNat = x.toNat + D.next.length by omega, Nat.add_mod_right, Nat.mod_eq_of_lt (by omega)]
      · rw [Nat.mod_eq_of_lt (by omega)]
    · have h4 : ¬ 0 ≤ twoX D.next.length i (D.cls b) x := by unfold twoX; rw [if_neg (by omega)]; exact h0
      rw [if_neg h0, if_neg h4]
theorem twice_le (h : RightD D) : LE (autOf (twiceD D)) (autOf D) 0 0 := fun w hw => by
  have := twice_run h w hw 0 (by have := h.lo; omega)
  rwa [Nat.zero_mod] at this
end
/-! An automaton out of its classes and its marks. -/
def buildB (a : Array (Nat × Value)) : Sem Value := Instr.build 26 a
theorem build_26 (a : Array (Nat × Value)) : Instr.build 26 a = buildB a := rfl
theorem fill_step (p : Nat → Option (Nat × Nat)) {i off size : Nat} (hp : p i = some (off, size)) {v : Value} (hs : v.cells.size = size) {z : Array Value} (hle : off + size ≤ z.size) (rest : List (Nat × Value)) :
    Instr.fill p z ((i, v) :: rest) = Instr.fill p ((v.cells.toList.zipIdx 0).foldl (fun cs (x : Value × Nat) => cs.setIfInBounds (off + x.2) x.1) z) rest := by
  conv => lhs; unfold Instr.fill
  simp only [hp, hs]
  rw [if_neg (by simp; omega)]
  congr 1
  rw [← Array.foldl_toList, Array.toList_zipIdx]
theorem fill26 (cv : List Value) (hc : cv.length = 256) (v u : Value) (hv : v.cells = #[v]) (p : Nat → Option (Nat × Nat)) (h0 : p 0 = some (0, 256)) (h2 : p 2 = some (257, 1)) (z : Array Value) (hz : z.toList = dVals (fun _ => 0) u (.slice none 0 0)) :
    Instr.fill p z [(0, .agg cv.toArray), (2, v)] = some (cv ++ [u, v]).toArray := by
  have hzs : z.size = 258 := by rw [← Array.length_toList, hz, dVals_len]
  have hcs : (Value.agg cv.toArray).cells = cv.toArray := rfl
  rw [fill_step p h0 (by rw [hcs, List.size_toArray, hc]) (by omega), hcs, List.toList_toArray]
  obtain ⟨g1, g2⟩ := Great.foldl_set 0 cv 0 z
  obtain ⟨r, hr⟩ : ∃ r, r = ((cv.zipIdx 0).foldl (fun cs (x : Value × Nat) => cs.setIfInBounds (0 + x.2) x.1) z) := ⟨_, rfl⟩
  rw [← hr] at g1 g2 ⊢
  rw [fill_step p h2 (by rw [hv]; rfl) (by omega), hv]
  unfold Instr.fill
  congr 1
  apply Array.ext_getElem?
  intro k
  show (r.setIfInBounds (257 + 0) v)[k]? = _
  rw [Array.getElem?_setIfInBounds, g1, hzs, g2 k]
  have h9 : (cv ++ [u, v]).toArray[k]? = (cv ++ [u, v])[k]? := by simp
  rw [h9]
  by_cases e1 : 257 = k
  · subst e1
    rw [if_pos rfl, if_pos (by omega), List.getElem?_append_right (by omega), hc]; rfl
  · rw [if_neg e1]
    by_cases e2 : k < 256
    · rw [if_pos (by omega), List.getElem?_append_left (by omega)]; rfl
    · rw [if_neg (by omega)]
      by_cases e3 : k = 256
      · subst e3
        rw [← Array.getElem?_toList, hz, dVals_256, List.getElem?_append_right (by omega), hc]; rfl
      · rw [Array.getElem?_eq_none (by omega), List.getElem?_eq_none (by simp; omega)]
end Go.Proofs.Ytiaigdedkdeeoaa
