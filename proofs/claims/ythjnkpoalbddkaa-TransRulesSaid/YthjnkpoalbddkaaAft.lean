/- What a machine has put, and where it is, behind a text: plain. -/
import Derived.Test.YthjnkpoalbddkaaStep
namespace Go.Proofs.Ythjnkpoalbddkaa

def stepF (m : Mach) (x : Bs × Nat) (c : UInt8) : Bs × Nat := (x.1 ++ outT m x.2 c, nextS m x.2 c)
/-- what was put of a text's bytes, and the state behind them -/
def after (m : Mach) (s : Bs) : Bs × Nat := s.foldl (stepF m) ([], 0)
theorem after_snoc (m : Mach) (s : Bs) (c : UInt8) : after m (s ++ [c]) = ((after m s).1 ++ outT m (after m s).2 c, nextS m (after m s).2 c) := by simp [after, stepF]
theorem after_lt {m : Mach} (h : RightM m) : ∀ s : Bs, (after m s).2 < m.next.length := fun s => by
  have h1 := h.lo
  have key : ∀ (s : Bs) (x : Bs × Nat), x.2 < m.next.length → (s.foldl (stepF m) x).2 < m.next.length := fun s => by
    induction s with
    | nil => intro x hx; exact hx
    | cons c t ih => intro x hx; exact ih _ (state_facts h hx c).2.2.2.1
  exact key s _ (by show 0 < _; omega)
def endText (m : Mach) (i : Nat) : ByteArray := m.texts.getD (m.ends.getD i 0).toNat ⟨#[]⟩
def total (m : Mach) (s : Bs) : Bs := (after m s).1 ++ (endText m (after m s).2).data.toList
/-- is it too long, at any place, or behind the end? -/
def TooLong (m : Mach) (s : Bs) : Prop := (∃ k, k ≤ s.length ∧ 262144 < (after m (s.take k)).1.length) ∨ 262144 < (total m s).length
open Classical in
noncomputable def runRes (m : Mach) (s : Bs) : Option Bs := if TooLong m s then none else some (total m s)
theorem runRes_long {m : Mach} {s : Bs} (h : TooLong m s) : runRes m s = none := by unfold runRes; rw [if_pos h]
theorem runRes_ok {m : Mach} {s : Bs} (h : ¬ TooLong m s) : runRes m s = some (total m s) := by unfold runRes; rw [if_neg h]
theorem take_step (s : ByteArray) (k : Nat) (c : UInt8) (t : Bs) (h : s.data.toList.drop k = c :: t) : s.data.toList.take (k + 1) = s.data.toList.take k ++ [c] := by
  rw [List.take_add_one]
  have : s.data.toList[k]? = some c := by rw [← List.head?_drop, h]; rfl
  rw [this]; rfl

theorem outT_len {m : Mach} (h : RightM m) {i : Nat} (hi : i < m.next.length) (c : UInt8) : (outT m i c).length ≤ 4097 := by
  have h1 := (state_facts h hi c).2.2.2.2.1
  unfold outT
  rw [List.length_append, size_data]
  split <;> simp <;> omega

end Go.Proofs.Ythjnkpoalbddkaa
