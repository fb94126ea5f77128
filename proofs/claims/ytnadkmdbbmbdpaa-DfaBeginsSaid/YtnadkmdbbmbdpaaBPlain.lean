/- What is taken of a text's beginning: plain. -/
import Derived.Test.YtnadkmdbbmbdpaaLawW
namespace Go.Proofs.Ytnadkmdbbmbdpaa

theorem here_mem {D : Dfa} {st a : Nat} {x : Int} (h : x ∈ here D st a) : x = (a : Int) := by
  unfold here at h
  split at h
  · simpa using h
  · cases h
theorem endsF_ge (D : Dfa) : ∀ (t : Bs) (st a : Nat) (x : Int), x ∈ endsF D t st a → (a : Int) ≤ x
  | [], st, a, x, h => by have := here_mem h; omega
  | c :: t, st, a, x, h => by
    unfold endsF at h
    rcases List.mem_append.1 h with h | h
    · have := here_mem h; omega
    · split at h
      · cases h
      · have := endsF_ge D t _ _ x h; omega
theorem here_filter (D : Dfa) (st a m : Nat) : (here D st a).filter (fun x => decide (x ≤ ((a + m : Nat) : Int))) = here D st a := by
  rw [List.filter_eq_self]
  intro x hx
  have := here_mem hx
  simp; omega
theorem filter_none {l : List Int} {p : Int → Bool} (h : ∀ x ∈ l, p x = false) : l.filter p = [] := by
  rw [List.filter_eq_nil_iff]
  intro x hx
  rw [h x hx]; simp
theorem endsF_take (D : Dfa) : ∀ (t : Bs) (st a m : Nat), endsF D (t.take m) st a = (endsF D t st a).filter (fun x => decide (x ≤ ((a + m : Nat) : Int)))
  | [], st, a, m => by rw [List.take_nil]; exact (here_filter D st a m).symm
  | c :: t, st, a, 0 => by
    rw [List.take_zero, endsF, endsF, List.filter_append, here_filter]
    rw [filter_none (l := if nextD D st c < 0 then [] else endsF D t (nextD D st c).toNat (a + 1)), List.append_nil]
    intro x hx
    split at hx
    · cases hx
    · have := endsF_ge D t _ _ x hx
      simp; omega
  | c :: t, st, a, m + 1 => by
    rw [List.take_succ_cons, endsF, endsF, List.filter_append, here_filter]
    congr 1
    split
    · rfl
    · rw [endsF_take D t _ (a + 1) m]
      rw [show a + 1 + m = a + (m + 1) by omega]
theorem size_extract (s : ByteArray) (m : Nat) (h : m ≤ s.size) : (s.extract 0 m).size = m := by rw [ByteArray.size_extract]; omega
theorem data_extract (s : ByteArray) (m : Nat) : (s.extract 0 m).data.toList = s.data.toList.take m := by
  rw [ByteArray.data_extract]; simp [Array.toList_extract]
theorem endsR_begin (D : Dfa) (s : ByteArray) (m : Nat) : endsR D (s.extract 0 m) 0 = (endsR D s 0).filter (fun x => decide (x ≤ (m : Int))) := by
  by_cases hr : RightD D
  · have h1 := endsR_yes (s := s.extract 0 m) (k := 0) hr (by omega)
    have h2 := endsR_yes (s := s) (k := 0) hr (Nat.zero_le _)
    rw [List.drop_zero] at h1 h2
    have h3 := endsF_take D s.data.toList 0 0 m
    rw [Nat.zero_add] at h3
    have h1' : endsR D (s.extract 0 m) 0 = endsF D (s.extract 0 m).data.toList 0 0 := h1
    have h2' : endsR D s 0 = endsF D s.data.toList 0 0 := h2
    rw [h1', h2', data_extract]
    exact h3
  · rw [endsR_no (fun h9 => hr h9.1), endsR_no (fun h9 => hr h9.1)]; rfl
theorem filter_step (L : List Int) (k : Nat) (hk : k < L.length) (p : Int → Bool) : (L.take (k + 1)).filter p = (L.take k).filter p ++ if p (L.getD k 0) = true then [L.getD k 0] else [] := by
  rw [List.take_succ_eq_append_getElem hk, List.filter_append]
  congr 1
  have : L.getD k 0 = L[k] := by simp [hk]
  rw [this]
  by_cases h : p L[k] = true
  · rw [if_pos h]; simp [h]
  · rw [if_neg h]; simp [h]
end Go.Proofs.Ytnadkmdbbmbdpaa
