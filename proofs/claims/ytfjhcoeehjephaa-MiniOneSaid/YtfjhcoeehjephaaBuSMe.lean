/- dfa.Build: what its main loop has found. Plain. -/
import Derived.Test.YtfjhcoeehjephaaBxMe
import Derived.Test.YtfjhcoeehjephaaNfaMe
import Derived.Test.YtfjhcoeehjephaaKyMe
namespace Go.Proofs.Ytfjhcoeehjephaa
/-- what a row says of the first classes of a set -/
def RowOk (E : List Ed) (S : Nat) (ls : Nat → Nat) (all : List (List Nat)) (X : List Nat) (R : List Int) (c : Nat) : Prop :=
  ∀ c9, c9 < c → (moveL E X (ls c9) = [] ∧ R.getD c9 0 = -1) ∨ (moveL E X (ls c9) ≠ [] ∧ stepN E S X (ls c9) ∈ all ∧ R.getD c9 0 = (plc all (stepN E S X (ls c9)) : Nat))
section
variable {E : List Ed} {S : Nat} {ls : Nat → Nat} {all : List (List Nat)} {X : List Nat} {R : List Int} {c : Nat}
theorem RowOk.start : RowOk E S ls all X R 0 := fun c9 h => absurd h (by omega)
theorem RowOk.more (h : RowOk E S ls all X R c) (Y : List Nat) : RowOk E S ls (all ++ [Y]) X R c := fun c9 h9 => by
  rcases h c9 h9 with h1 | ⟨h1, h2, h3⟩
  · exact .inl h1
  · exact .inr ⟨h1, List.mem_append_left _ h2, by rw [plc_old _ h2]; exact h3⟩
theorem getD_setI {l : List Int} {i : Nat} (hi : i < l.length) (v : Int) (j : Nat) : (l.set i v).getD j 0 = if j = i then v else l.getD j 0 := by
  by_cases e9 : j = i
  · subst e9; simp [hi]
  · rw [if_neg e9]; simp [List.getD_eq_getElem?_getD, Ne.symm e9]
theorem RowOk.none (h : RowOk E S ls all X R c) (hc : c < R.length) (hm : moveL E X (ls c) = []) : RowOk E S ls all X (R.set c (-1)) (c + 1) := fun c9 h9 => by
  rw [getD_setI hc]
  by_cases e : c9 = c
  · subst e; rw [if_pos rfl]; exact .inl ⟨hm, rfl⟩
  · rw [if_neg e]; exact h c9 (by omega)
theorem RowOk.some (h : RowOk E S ls all X R c) (hc : c < R.length) (hm : moveL E X (ls c) ≠ []) (hin : stepN E S X (ls c) ∈ all) {k : Int} (hk : k = (plc all (stepN E S X (ls c)) : Nat)) : RowOk E S ls all X ((R.set c (-1)).set c k) (c + 1) := fun c9 h9 => by
  rw [getD_setI (by rw [List.length_set]; exact hc), getD_setI hc]
  by_cases e : c9 = c
  · subst e; rw [if_pos rfl]; exact .inr ⟨hm, hin, hk⟩
  · rw [if_neg e, if_neg e]; exact h c9 (by omega)
end
/-- where the main loop stands: i sets are done -/
structure Mid (E : List Ed) (S : Nat) (a z : Int) (many : Nat) (ls : Nat → Nat) (i : Nat) (all : List (List Nat)) (next : List (List Int)) (acc : List Bool) : Prop where
  le : i ≤ all.length
  few : all.length ≤ 400
  nd : all.Nodup
  rs : ∀ Y ∈ all, RSet E S a Y
  first : all.getD 0 [] = closN E S [a]
  pos : 1 ≤ all.length
  nlen : next.length = i
  alen : acc.length = i
  row : ∀ j, j < i → (next.getD j []).length = many ∧ acc.getD j false = decide (z.toNat ∈ all.getD j []) ∧ RowOk E S ls all (all.getD j []) (next.getD j []) many
section
variable {E : List Ed} {S : Nat} {a z : Int} {many : Nat} {ls : Nat → Nat} {i : Nat} {all : List (List Nat)} {next : List (List Int)} {acc : List Bool}
theorem mid_start : Mid E S a z many ls 0 [closN E S [a]] [] [] :=
  ⟨by simp, by simp, by simp, fun Y hY => by rw [List.mem_singleton.1 hY]; exact .first, rfl, by simp, rfl, rfl, fun j hj => absurd hj (by omega)⟩
theorem getD_appL {α : Type} {d : α} {l : List α} {k : Nat} (x : α) (h : k < l.length) : (l ++ [x]).getD k d = l.getD k d := by
  simp [List.getD_eq_getElem?_getD, List.getElem?_append_left h]
theorem getD_appN {α : Type} {d : α} {l : List α} (x : α) : (l ++ [x]).getD l.length d = x := by simp [List.getD_eq_getElem?_getD]
theorem Mid.grow (h : Mid E S a z many ls i all next acc) {Y : List Nat} (hn : Y ∉ all) (hY : RSet E S a Y) (hf : all.length < 400) : Mid E S a z many ls i (all ++ [Y]) next acc := by
  refine ⟨by rw [List.length_append]; have := h.le; omega, by rw [List.length_append, List.length_singleton]; omega, ?_, fun X hX => ?_, ?_, by rw [List.length_append]; have := h.pos; omega, h.nlen, h.alen, fun j hj => ?_⟩
  · rw [List.nodup_append]
    exact ⟨h.nd, by simp, fun x hx y hy e => hn (by rw [← List.mem_singleton.1 hy, ← e]; exact hx)⟩
  · rcases List.mem_append.1 hX with h9 | h9
    · exact h.rs X h9
    · rw [List.mem_singleton.1 h9]; exact hY
  · rw [getD_appL _ h.pos]; exact h.first
  · have hlt : j < all.length := by have := h.le; omega
    rw [getD_appL _ hlt]
    obtain ⟨h1, h2, h3⟩ := h.row j hj
    exact ⟨h1, h2, h3.more Y⟩
theorem Mid.done (h : Mid E S a z many ls i all next acc) {R : List Int} (hi : i < all.length) (hl : R.length = many) (hr : RowOk E S ls all (all.getD i []) R many) : Mid E S a z many ls (i + 1) all (next ++ [R]) (acc ++ [decide (z.toNat ∈ all.getD i [])]) := by
  refine ⟨hi, h.few, h.nd, h.rs, h.first, h.pos, by rw [List.length_append, h.nlen]; rfl, by rw [List.length_append, h.alen]; rfl, fun j hj => ?_⟩
  by_cases e : j < i
  · rw [getD_appL _ (by rw [h.nlen]; exact e), getD_appL _ (by rw [h.alen]; exact e)]
    exact h.row j e
  · obtain rfl : j = i := by omega
    have e1 : (next ++ [R]).getD j [] = R := by have := getD_appN (d := []) (l := next) R; rw [h.nlen] at this; exact this
    have e2 : ∀ x, (acc ++ [x]).getD j false = x := fun x => by have := getD_appN (d := false) (l := acc) x; rw [h.alen] at this; exact this
    rw [e1, e2]
    exact ⟨hl, rfl, hr⟩
end
/-- too many sets -/
def TooMany (E : List Ed) (S : Nat) (a : Int) : Prop := ∃ all : List (List Nat), all.length = 401 ∧ all.Nodup ∧ ∀ Y ∈ all, RSet E S a Y
theorem Mid.over {E : List Ed} {S : Nat} {a z : Int} {many : Nat} {ls : Nat → Nat} {i : Nat} {all : List (List Nat)} {next : List (List Int)} {acc : List Bool} (h : Mid E S a z many ls i all next acc) {Y : List Nat} (hn : Y ∉ all) (hY : RSet E S a Y) (hf : 400 ≤ all.length) : TooMany E S a := by
  refine ⟨all ++ [Y], by rw [List.length_append, List.length_singleton]; have := h.few; omega, ?_, fun X hX => ?_⟩
  · rw [List.nodup_append]
    exact ⟨h.nd, by simp, fun x hx y hy e => hn (by rw [← List.mem_singleton.1 hy, ← e]; exact hx)⟩
  · rcases List.mem_append.1 hX with h9 | h9
    · exact h.rs X h9
    · rw [List.mem_singleton.1 h9]; exact hY
end Go.Proofs.Ytfjhcoeehjephaa
