/- The places at which an automaton takes: plain. -/
import Derived.Test.YtfjhcoeehjephaaDRRightMd
namespace Go.Proofs.Ytfjhcoeehjephaa.D8

abbrev Bs := List UInt8
def nextD (D : Dfa) (st : Nat) (c : UInt8) : Int := (D.next.getD st []).getD (D.cls c.toNat) 0
def here (D : Dfa) (st at' : Nat) : List Int := if D.acc.getD st false = true then [(at' : Int)] else []
def endsF (D : Dfa) : Bs → Nat → Nat → List Int
  | [], st, a => here D st a
  | c :: t, st, a => here D st a ++ if nextD D st c < 0 then [] else endsF D t (nextD D st c).toNat (a + 1)
theorem here_len (D : Dfa) (st a : Nat) : (here D st a).length ≤ 1 := by unfold here; split <;> simp
theorem endsF_len (D : Dfa) : ∀ (t : Bs) (st a : Nat), (endsF D t st a).length ≤ t.length + 1
  | [], st, a => here_len D st a
  | c :: t, st, a => by
    have h1 := here_len D st a
    unfold endsF
    split
    · simp; omega
    · have := endsF_len D t (nextD D st c).toNat (a + 1)
      simp; omega
open Classical in
/-- what it takes from a place of a text on; nothing, if it may not be, or the place is none -/
noncomputable def endsR (D : Dfa) (s : ByteArray) (x : Int) : List Int := if RightD D ∧ 0 ≤ x ∧ x ≤ (s.size : Int) then endsF D (s.data.toList.drop x.toNat) 0 x.toNat else []
theorem endsR_no {D : Dfa} {s : ByteArray} {x : Int} (h : ¬ (RightD D ∧ 0 ≤ x ∧ x ≤ (s.size : Int))) : endsR D s x = [] := by unfold endsR; rw [if_neg h]
theorem endsR_yes {D : Dfa} {s : ByteArray} {k : Nat} (h : RightD D) (hk : k ≤ s.size) : endsR D s (k : Int) = endsF D (s.data.toList.drop k) 0 k := by unfold endsR; rw [if_pos ⟨h, by omega, by omega⟩]; rfl
theorem size_data (s : ByteArray) : s.data.toList.length = s.size := Array.length_toList
theorem endsR_len (D : Dfa) (s : ByteArray) (x : Int) : (endsR D s x).length ≤ s.size + 1 := by
  unfold endsR
  split
  · have := endsF_len D (s.data.toList.drop x.toNat) 0 x.toNat
    rw [List.length_drop, size_data] at this
    omega
  · simp
/-- at a state of one that may be: its row, and where a byte goes -/
theorem state_row {D : Dfa} (h : RightD D) {st : Nat} (hs : st < D.next.length) : (D.next.getD st []).length = D.many := by
  apply Classical.byContradiction
  intro h9
  exact h.rows ⟨st, hs, .inl h9⟩
theorem state_next {D : Dfa} (h : RightD D) {st : Nat} (hs : st < D.next.length) (c : UInt8) : D.cls c.toNat < D.many ∧ -1 ≤ nextD D st c ∧ nextD D st c < D.next.length := by
  have h1 : D.cls c.toNat < D.many := by
    apply Classical.byContradiction
    intro h9
    exact h.cls ⟨c.toNat, c.toNat_lt, by omega⟩
  have h2 := state_row h hs
  refine ⟨h1, ?_⟩
  apply Classical.byContradiction
  intro h9
  refine h.rows ⟨st, hs, .inr ⟨D.cls c.toNat, by rw [h2]; exact h1, ?_⟩⟩
  unfold nextD at h9
  omega
end Go.Proofs.Ytfjhcoeehjephaa.D8
