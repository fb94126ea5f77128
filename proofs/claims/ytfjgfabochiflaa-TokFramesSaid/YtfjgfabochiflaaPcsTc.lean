/- What a tree takes at each place; a text, taken apart. Plain. -/
import Derived.Test.YtfjgfabochiflaaBuTc
import Derived.Test.YtfjgfabochiflaaTTellsTc
namespace Go.Proofs.Ytfjgfabochiflaa
open Go.RowKit

theorem outsTo_congr {P Q : Nat → Bool} (p0 m : Nat) (h : ∀ k, k < m → P k = Q k) : outsTo P p0 m = outsTo Q p0 m := by
  induction m with
  | zero => rfl
  | succ m ih => rw [outsTo_next, outsTo_next, h m (by omega), ih (fun k hk => h k (by omega))]
open Classical in
/-- where a tree may end -/
noncomputable def langB (s : ByteArray) (t : Tr) (p0 k : Nat) : Bool := decide (t.lang s p0 (p0 + k))
noncomputable def endsT (s : ByteArray) (t : Tr) (p0 : Nat) : List Int := outsTo (langB s t p0) p0 (s.size + 1 - p0)
theorem on_pth {E : List Ed} {S : Nat} {s : ByteArray} {p0 p : Nat} {i : Int} (hS : 0 < S) : On E S 0 s p0 p i ↔ Pth E s p0 0 p i := by
  constructor
  · intro h
    induction h with
    | start _ _ => exact .refl
    | free he hf _ ih => exact .free ih he hf
    | read he hp hr _ ih => exact .read ih he hp hr
  · intro h
    induction h with
    | refl => exact .start (Int.le_refl _) (by omega)
    | free _ he hf ih => exact .free he hf ih
    | read _ he hp hr ih => exact .read he hp hr ih
theorem Made.lang {t : Tr} {S : Nat} {E : List Ed} (h : Made t S E) (s : ByteArray) (p0 p : Nat) : On E S 0 s p0 p 1 ↔ t.lang s p0 p := by
  obtain ⟨N, hN, _, hF⟩ := h.grew.good rfl
  rw [List.nil_append] at hN
  rw [← hN] at hF
  rw [on_pth (by have := h.grew.lo; omega)]
  exact (hF s).lang p0 p
theorem Made.ends {t : Tr} {S : Nat} {E : List Ed} (h : Made t S E) (s : ByteArray) (p0 : Nat) : endsN E S 0 1 s p0 = endsT s t p0 := by
  unfold endsN endsT
  refine outsTo_congr p0 _ (fun k _ => ?_)
  apply Bool.eq_iff_iff.2
  rw [onB_iff, h.lang]
  unfold langB
  simp
theorem Made.wf {t : Tr} {S : Nat} {E : List Ed} (h : Made t S E) : WfE E := by
  obtain ⟨N, hN, hw, _⟩ := h.grew.good rfl
  rw [List.nil_append] at hN
  rw [hN]; exact hw

theorem outsTo_mem {f : Nat → Bool} {p m : Nat} {x : Int} (h : x ∈ outsTo f p m) : (p : Int) ≤ x ∧ x < ((p + m : Nat) : Int) := by
  unfold outsTo at h
  obtain ⟨k, hk, rfl⟩ := List.mem_map.1 h
  have := (List.mem_filter.1 hk).1
  simp at this
  omega
/-- where a piece that begins at k ends, by the places at which it may -/
def toL (L : List Int) (k : Nat) : Nat := if L.length = 0 then k + 1 else max (k + 1) (L.getD (L.length - 1) 0).toNat
noncomputable def toT (t : Tr) (s : ByteArray) (k : Nat) : Nat := toL (endsT s t k) k
theorem toT_lo (t : Tr) (s : ByteArray) (k : Nat) : k + 1 ≤ toT t s k := by
  unfold toT toL
  split <;> omega
theorem toT_hi (t : Tr) (s : ByteArray) (k : Nat) (h : k < s.size) : toT t s k ≤ s.size := by
  unfold toT toL
  split
  · omega
  · rename_i h0
    have hm : (endsT s t k).getD ((endsT s t k).length - 1) 0 ∈ endsT s t k := getD_mem (by omega)
    have := outsTo_mem hm
    omega
def chunksF (nx : Nat → Nat) (s : ByteArray) : Nat → Nat → List ByteArray
  | 0, _ => []
  | f + 1, k => if k < s.size then s.extract k (nx k) :: chunksF nx s f (nx k) else []
noncomputable def piecesT (t : Tr) (s : ByteArray) : List ByteArray := chunksF (toT t s) s s.size 0
theorem chunksF_end {nx : Nat → Nat} {s : ByteArray} {f k : Nat} (h : ¬ k < s.size) : chunksF nx s f k = [] := by
  cases f with
  | zero => rfl
  | succ f => rw [chunksF, if_neg h]
theorem chunksF_join {nx : Nat → Nat} {s : ByteArray} (h1 : ∀ k, k + 1 ≤ nx k) (h2 : ∀ k, k < s.size → nx k ≤ s.size) : ∀ f k, s.size ≤ k + f → (chunksF nx s f k).flatMap (·.data.toList) = s.data.toList.drop k
  | 0, k, h => by
    rw [List.drop_of_length_le (by rw [T12.size_data]; omega)]; rfl
  | f + 1, k, h => by
    by_cases hk : k < s.size
    · have h3 := h1 k
      have h4 := h2 k hk
      rw [chunksF, if_pos hk, List.flatMap_cons, chunksF_join h1 h2 f (nx k) (by omega)]
      obtain ⟨m, hm⟩ : ∃ m, nx k = k + m := ⟨nx k - k, by omega⟩
      rw [hm, T12.piece_list, ← List.drop_drop, List.take_append_drop]
    · rw [chunksF_end hk, List.drop_of_length_le (by rw [T12.size_data]; omega)]; rfl
theorem chunksF_size {nx : Nat → Nat} {s : ByteArray} (h1 : ∀ k, k + 1 ≤ nx k) (h2 : ∀ k, k < s.size → nx k ≤ s.size) : ∀ f k, ∀ p ∈ chunksF nx s f k, 1 ≤ p.size ∧ p.size ≤ s.size
  | 0, k, p, h => by cases h
  | f + 1, k, p, h => by
    by_cases hk : k < s.size
    · have h3 := h1 k
      have h4 := h2 k hk
      rw [chunksF, if_pos hk] at h
      rcases List.mem_cons.1 h with rfl | h
      · obtain ⟨m, hm⟩ : ∃ m, nx k = k + m := ⟨nx k - k, by omega⟩
        rw [hm, T12.piece_size s k m (by omega)]
        omega
      · exact chunksF_size h1 h2 f (nx k) p h
    · rw [chunksF_end hk] at h; cases h
theorem chunksF_len {nx : Nat → Nat} {s : ByteArray} : ∀ f k, (chunksF nx s f k).length ≤ f
  | 0, k => by simp [chunksF]
  | f + 1, k => by
    rw [chunksF]
    split
    · rw [List.length_cons]
      have := chunksF_len (nx := nx) (s := s) f (nx k)
      omega
    · simp
theorem pieces_join (t : Tr) (s : ByteArray) : (piecesT t s).flatMap (·.data.toList) = s.data.toList := by
  have := chunksF_join (toT_lo t s) (toT_hi t s) s.size 0 (by omega)
  unfold piecesT
  simpa using this
end Go.Proofs.Ytfjgfabochiflaa
