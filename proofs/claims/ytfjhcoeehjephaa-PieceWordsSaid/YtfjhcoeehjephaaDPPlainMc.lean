/- A text, taken apart: plain. -/
import Derived.Test.YtfjhcoeehjephaaDLawWMc
namespace Go.Proofs.Ytfjhcoeehjephaa.D8

/-- how far a piece goes: from a state, at a place, so far -/
def walkTo (D : Dfa) : Bs → Nat → Nat → Nat → Nat
  | [], _, _, to => to
  | c :: t, st, i, to => if nextD D st c < 0 then to else walkTo D t (nextD D st c).toNat (i + 1) (if D.acc.getD (nextD D st c).toNat false = true then i + 1 else to)
theorem walkTo_bounds (D : Dfa) : ∀ (t : Bs) (st i to lo hi : Nat), lo ≤ to → to ≤ hi → lo ≤ i + 1 → i + t.length ≤ hi → lo ≤ walkTo D t st i to ∧ walkTo D t st i to ≤ hi
  | [], _, _, to, lo, hi, h1, h2, _, _ => ⟨h1, h2⟩
  | c :: t, st, i, to, lo, hi, h1, h2, h3, h4 => by
    unfold walkTo
    rw [List.length_cons] at h4
    split
    · exact ⟨h1, h2⟩
    · exact walkTo_bounds D t _ (i + 1) _ lo hi (by split <;> omega) (by split <;> omega) (by omega) (by omega)
/-- the places behind the first one -/
def restF (D : Dfa) : Bs → Nat → Nat → List Int
  | [], _, _ => []
  | c :: t, st, a => if nextD D st c < 0 then [] else endsF D t (nextD D st c).toNat (a + 1)
theorem restF_cons (D : Dfa) (c : UInt8) (t : Bs) (st a : Nat) : restF D (c :: t) st a = if nextD D st c < 0 then [] else endsF D t (nextD D st c).toNat (a + 1) := rfl
theorem endsF_rest (D : Dfa) (t : Bs) (st a : Nat) : endsF D t st a = here D st a ++ restF D t st a := by
  cases t with
  | nil => simp [endsF, restF]
  | cons c t => rfl
theorem lastI_append (l m : List Int) : lastI (l ++ m) = if m.length = 0 then lastI l else lastI m := by
  unfold lastI
  by_cases hm : m.length = 0
  · have : m = [] := List.eq_nil_of_length_eq_zero hm
    subst this
    simp
  · rw [if_neg hm, if_neg (by rw [List.length_append]; omega)]
    rw [List.length_append, List.getD_eq_getElem?_getD, List.getD_eq_getElem?_getD, List.getElem?_append_right (by omega)]
    rw [show l.length + m.length - 1 - l.length = m.length - 1 by omega, if_neg hm]
theorem walkTo_last (D : Dfa) : ∀ (t : Bs) (st a to : Nat), (walkTo D t st a to : Int) = if (restF D t st a).length = 0 then (to : Int) else lastI (restF D t st a)
  | [], st, a, to => rfl
  | c :: t, st, a, to => by
    rw [restF_cons]
    unfold walkTo
    by_cases hn : nextD D st c < 0
    · rw [if_pos hn, if_pos hn]; rfl
    · rw [if_neg hn, if_neg hn, walkTo_last D t, endsF_rest]
      by_cases hr : (restF D t (nextD D st c).toNat (a + 1)).length = 0
      · have hr' := List.eq_nil_of_length_eq_zero hr
        rw [if_pos hr, hr', List.append_nil]
        unfold here
        by_cases ha : D.acc.getD (nextD D st c).toNat false = true
        · rw [if_pos ha, if_pos ha]; rfl
        · rw [if_neg ha, if_neg ha]; rfl
      · rw [if_neg hr, if_neg (by rw [List.length_append]; omega), lastI_append, if_neg hr]
theorem lastI_mem {l : List Int} (h : l.length ≠ 0) : lastI l ∈ l := by
  unfold lastI
  rw [if_neg h]
  have : l.getD (l.length - 1) 0 = l[l.length - 1]'(by omega) := by simp [show l.length - 1 < l.length by omega]
  rw [this]
  exact List.getElem_mem _
theorem restF_ge (D : Dfa) (t : Bs) (st a : Nat) (x : Int) (h : x ∈ restF D t st a) : (a : Int) + 1 ≤ x := by
  cases t with
  | nil => cases h
  | cons c t =>
    rw [restF_cons] at h
    by_cases hn : nextD D st c < 0
    · rw [if_pos hn] at h; cases h
    · rw [if_neg hn] at h
      have hge : ∀ (t : Bs) (st a : Nat) (x : Int), x ∈ endsF D t st a → (a : Int) ≤ x := fun t => by
        induction t with
        | nil =>
          intro st a x h
          unfold endsF here at h
          split at h
          · simp at h; omega
          · cases h
        | cons c t ih =>
          intro st a x h
          unfold endsF at h
          rcases List.mem_append.1 h with h | h
          · unfold here at h
            split at h
            · simp at h; omega
            · cases h
          · split at h
            · cases h
            · have := ih _ _ _ h; omega
      have := hge _ _ _ _ h
      omega
/-- where the piece that begins at a place ends -/
def pieceEnd (D : Dfa) (s : ByteArray) (at' : Nat) : Nat := walkTo D (s.data.toList.drop at') 0 at' (at' + 1)
theorem pieceEnd_bounds (D : Dfa) (s : ByteArray) (k : Nat) (h : k < s.size) : k + 1 ≤ pieceEnd D s k ∧ pieceEnd D s k ≤ s.size := by
  unfold pieceEnd
  exact walkTo_bounds D _ 0 k (k + 1) (k + 1) s.size (by omega) (by omega) (by omega) (by rw [List.length_drop, size_data]; omega)
/-- as the document says it -/
theorem pieceEnd_last (D : Dfa) (hr : RightD D) (s : ByteArray) (k : Nat) (h : k < s.size) : (pieceEnd D s k : Int) = if lastI (endsR D s k) ≤ (k : Int) then (k : Int) + 1 else lastI (endsR D s k) := by
  rw [endsR_yes hr (by omega), endsF_rest, lastI_append]
  unfold pieceEnd
  rw [walkTo_last]
  by_cases he : (restF D (s.data.toList.drop k) 0 k).length = 0
  · rw [if_pos he, if_pos he]
    have : lastI (here D 0 k) ≤ (k : Int) := by
      unfold here
      split
      · exact Int.le_refl _
      · show (-1 : Int) ≤ _; omega
    rw [if_pos this]; rfl
  · rw [if_neg he, if_neg he]
    have := restF_ge D _ _ _ _ (lastI_mem he)
    rw [if_neg (by omega)]
def splitF (D : Dfa) (s : ByteArray) : Nat → Nat → List Int
  | 0, _ => []
  | f + 1, k => if k < s.size then (pieceEnd D s k : Int) :: splitF D s f (pieceEnd D s k) else []
theorem splitF_more (D : Dfa) (s : ByteArray) : ∀ (f g k : Nat), s.size - k ≤ f → s.size - k ≤ g → splitF D s f k = splitF D s g k
  | 0, 0, _, _, _ => rfl
  | 0, g + 1, k, h, _ => by unfold splitF; rw [if_neg (by omega)]
  | f + 1, 0, k, _, h => by unfold splitF; rw [if_neg (by omega)]
  | f + 1, g + 1, k, h1, h2 => by
    unfold splitF
    by_cases hk : k < s.size
    · rw [if_pos hk, if_pos hk]
      have := pieceEnd_bounds D s k hk
      rw [splitF_more D s f g _ (by omega) (by omega)]
    · rw [if_neg hk, if_neg hk]
/-- the ends of the pieces from a place on -/
def pieces (D : Dfa) (s : ByteArray) (k : Nat) : List Int := splitF D s (s.size - k) k
theorem pieces_step (D : Dfa) (s : ByteArray) (k : Nat) (h : k < s.size) : pieces D s k = (pieceEnd D s k : Int) :: pieces D s (pieceEnd D s k) := by
  have hb := pieceEnd_bounds D s k h
  unfold pieces
  rw [show s.size - k = (s.size - k - 1) + 1 by omega]
  show (if k < s.size then _ else _) = _
  rw [if_pos h, splitF_more D s (s.size - k - 1) (s.size - pieceEnd D s k) _ (by omega) (by omega)]
theorem pieces_end (D : Dfa) (s : ByteArray) (k : Nat) (h : s.size ≤ k) : pieces D s k = [] := by
  unfold pieces
  rw [show s.size - k = 0 by omega]; rfl
theorem pieces_len (D : Dfa) (s : ByteArray) (k : Nat) : (pieces D s k).length ≤ s.size - k := by
  have key : ∀ f k, (splitF D s f k).length ≤ f := fun f => by
    induction f with
    | zero => intro k; exact Nat.le_refl _
    | succ f ih =>
      intro k
      unfold splitF
      split
      · simp; exact ih _
      · simp
  exact key _ _
end Go.Proofs.Ytfjhcoeehjephaa.D8
