/- Pieces, one behind the other: plain. -/
import Derived.Test.YtnadkmdbbmbdpaaJoin
namespace Go.Proofs.Ytnadkmdbbmbdpaa

theorem ext_data {a b : ByteArray} (h : a.data.toList = b.data.toList) : a = b := by
  obtain ⟨x⟩ := a
  obtain ⟨y⟩ := b
  congr 1
  exact Array.toList_inj.1 h
theorem mid_data (s : ByteArray) (a b : Nat) : (s.extract a b).data.toList = (s.data.toList.take b).drop a := by
  rw [ByteArray.data_extract, Array.toList_extract, List.extract_eq_take_drop, List.drop_take]
theorem chunks_cat (D : Dfa) (s : ByteArray) : ∀ k, k ≤ s.size → catB (chunks D s k) = s.data.toList.drop k := by
  have key : ∀ f k, s.size - k ≤ f → k ≤ s.size → catB (chunks D s k) = s.data.toList.drop k := fun f => by
    induction f with
    | zero =>
      intro k h1 h2
      rw [chunks_end D s k (by omega), List.drop_eq_nil_of_le (by rw [size_data]; omega)]; rfl
    | succ f ih =>
      intro k h1 h2
      by_cases hk : k < s.size
      · have hb := pieceEnd_bounds D s k hk
        rw [chunks_step D s k hk, catB_cons, ih _ (by omega) hb.2, mid_data, List.drop_take]
        have := List.take_append_drop (pieceEnd D s k - k) (s.data.toList.drop k)
        rw [List.drop_drop, show k + (pieceEnd D s k - k) = pieceEnd D s k by omega] at this
        exact this
      · rw [chunks_end D s k (by omega), List.drop_eq_nil_of_le (by rw [size_data]; omega)]; rfl
  exact fun k h => key _ k (Nat.le_refl _) h
theorem walkTo_shift (D : Dfa) (f : Nat) : ∀ (t : Bs) (st i to : Nat), walkTo D t st (f + i) (f + to) = f + walkTo D t st i to
  | [], _, _, _ => rfl
  | c :: t, st, i, to => by
    unfold walkTo
    split
    · rfl
    · have := walkTo_shift D f t (nextD D st c).toNat (i + 1) (if D.acc.getD (nextD D st c).toNat false = true then i + 1 else to)
      rw [← this]
      congr 1
      split <;> omega
theorem pieceEnd_shift (D : Dfa) (s u : ByteArray) (f : Nat) (hu : u.data.toList = s.data.toList.drop f) (j : Nat) : pieceEnd D s (f + j) = f + pieceEnd D u j := by
  unfold pieceEnd
  rw [hu, List.drop_drop, ← walkTo_shift]
  rfl
theorem chunksF_shift (D : Dfa) (s u : ByteArray) (f : Nat) (hf : f ≤ s.size) (hu : u.data.toList = s.data.toList.drop f) : ∀ (m j : Nat), chunksF D u m j = chunksF D s m (f + j)
  | 0, _ => rfl
  | m + 1, j => by
    have hsz : u.size = s.size - f := by rw [← size_data, hu, List.length_drop, size_data]
    unfold chunksF
    by_cases hj : j < u.size
    · rw [if_pos hj, if_pos (by omega), pieceEnd_shift D s u f hu, chunksF_shift D s u f hf hu m]
      congr 1
      apply ext_data
      rw [mid_data, mid_data, hu, List.drop_take, List.drop_take, List.drop_drop]
      congr 1
      omega
    · rw [if_neg hj, if_neg (by omega)]
theorem chunks_shift (D : Dfa) (s u : ByteArray) (f : Nat) (hf : f ≤ s.size) (hu : u.data.toList = s.data.toList.drop f) : chunks D u 0 = chunks D s f := by
  have hsz : u.size = s.size - f := by rw [← size_data, hu, List.length_drop, size_data]
  unfold chunks
  rw [chunksF_shift D s u f hf hu, Nat.add_zero, hsz, Nat.sub_zero]
theorem chunks_drop (D : Dfa) (s : ByteArray) : ∀ (k g : Nat), g ≤ s.size → ∃ f, f ≤ s.size ∧ (chunks D s g).drop k = chunks D s f
  | 0, g, hg => ⟨g, hg, rfl⟩
  | k + 1, g, hg => by
    by_cases h : g < s.size
    · have hb := pieceEnd_bounds D s g h
      obtain ⟨f, h1, h2⟩ := chunks_drop D s k _ hb.2
      exact ⟨f, h1, by rw [chunks_step D s g h, List.drop_succ_cons]; exact h2⟩
    · exact ⟨g, hg, by rw [chunks_end D s g (by omega)]; simp⟩
theorem chunks_pos (D : Dfa) (s : ByteArray) : ∀ k t, t ∈ chunks D s k → 1 ≤ t.size := by
  have key : ∀ f k t, s.size - k ≤ f → t ∈ chunks D s k → 1 ≤ t.size := fun f => by
    induction f with
    | zero =>
      intro k t h1 h2
      rw [chunks_end D s k (by omega)] at h2; cases h2
    | succ f ih =>
      intro k t h1 h2
      by_cases hk : k < s.size
      · have hb := pieceEnd_bounds D s k hk
        rw [chunks_step D s k hk] at h2
        rcases List.mem_cons.1 h2 with rfl | h2
        · rw [ByteArray.size_extract]; omega
        · exact ih _ t (by omega) h2
      · rw [chunks_end D s k (by omega)] at h2; cases h2
  exact fun k t h => key _ k t (Nat.le_refl _) h
/-- what is behind a piece is taken apart as if it stood alone -/
theorem chunks_alone (D : Dfa) (s : ByteArray) (k : Nat) : chunks D ⟨(catB ((chunks D s 0).drop k)).toArray⟩ 0 = (chunks D s 0).drop k := by
  obtain ⟨f, hf, h⟩ := chunks_drop D s k 0 (Nat.zero_le _)
  rw [h, chunks_cat D s f hf]
  exact chunks_shift D s ⟨(s.data.toList.drop f).toArray⟩ f hf rfl
theorem chunks_whole (D : Dfa) (s : ByteArray) : (⟨(catB (chunks D s 0)).toArray⟩ : ByteArray) = s := by
  rw [chunks_cat D s 0 (Nat.zero_le _), List.drop_zero]
theorem catB_drop_len (l : List ByteArray) (k : Nat) : (catB (l.drop k)).length ≤ (catB l).length := by
  have h : catB (l.take k ++ l.drop k) = catB (l.take k) ++ catB (l.drop k) := catB_append _ _
  rw [List.take_append_drop] at h
  rw [h, List.length_append]; omega
/-- Go's (x % n + n) % n -/
theorem turn_at (x : Int) (n : Nat) (hn : 0 < n) : ∃ r : Int, x.tmod (n : Int) = r ∧ -(n : Int) < r ∧ r < (n : Int) ∧ ∃ k : Nat, (r + (n : Int)).tmod (n : Int) = (k : Int) ∧ k < n := by
  have h1 := Int.tmod_lt_of_pos x (show (0 : Int) < (n : Int) by omega)
  have h2 : -(n : Int) < x.tmod (n : Int) := by
    have h3 := Int.tmod_lt_of_pos (-x) (show (0 : Int) < (n : Int) by omega)
    rw [Int.neg_tmod] at h3
    omega
  refine ⟨_, rfl, h2, h1, ((x.tmod (n : Int) + (n : Int)).tmod (n : Int)).toNat, ?_, ?_⟩
  · have := Int.tmod_nonneg (n : Int) (show (0 : Int) ≤ x.tmod (n : Int) + (n : Int) by omega)
    omega
  · have := Int.tmod_lt_of_pos (x.tmod (n : Int) + (n : Int)) (show (0 : Int) < (n : Int) by omega)
    have := Int.tmod_nonneg (n : Int) (show (0 : Int) ≤ x.tmod (n : Int) + (n : Int) by omega)
    omega
end Go.Proofs.Ytnadkmdbbmbdpaa
