/- How much a machine puts at a byte, and at the end: plain. -/
import Derived.Test.YthjnkpoalbddkaaAft
namespace Go.Proofs.Ythjnkpoalbddkaa

/-- the greatest of the first so many -/
def upTo (f : Nat → Nat) : Nat → Nat
  | 0 => 0
  | k + 1 => max (upTo f k) (f k)
theorem upTo_ge (f : Nat → Nat) : ∀ (k j : Nat), j < k → f j ≤ upTo f k
  | 0, j, h => absurd h (by omega)
  | k + 1, j, h => by
    unfold upTo
    by_cases e : j = k
    · subst e; omega
    · have := upTo_ge f k j (by omega); omega
theorem upTo_le (f : Nat → Nat) (b : Nat) : ∀ (k : Nat), (∀ j, j < k → f j ≤ b) → upTo f k ≤ b
  | 0, _ => by simp [upTo]
  | k + 1, h => by
    have h1 := upTo_le f b k (fun j hj => h j (by omega))
    have h2 := h k (by omega)
    unfold upTo
    omega
theorem max_upTo (a : Nat) (f : Nat → Nat) (k : Nat) : max (max a (upTo f k)) (f k) = max a (upTo f (k + 1)) := by
  show max (max a (upTo f k)) (f k) = max a (max (upTo f k) (f k))
  omega

/-- what state i puts at byte b: its length -/
def putLen (m : Mach) (i b : Nat) : Nat := (outT m i (UInt8.ofNat b)).length
def stateMost (m : Mach) (i : Nat) : Nat := upTo (putLen m i) 256
def endLen (m : Mach) (i : Nat) : Nat := (endText m i).size
def mostM (m : Mach) (n : Nat) : Nat := upTo (stateMost m) n
def endM (m : Mach) (n : Nat) : Nat := upTo (endLen m) n

theorem out_le {m : Mach} {i : Nat} (hi : i < m.next.length) (c : UInt8) : (outT m i c).length ≤ mostM m m.next.length := by
  have h1 := upTo_ge (putLen m i) 256 c.toNat c.toNat_lt
  have h2 := upTo_ge (stateMost m) m.next.length i hi
  have h3 : putLen m i c.toNat = (outT m i c).length := by unfold putLen; simp
  rw [← h3]
  exact Nat.le_trans h1 h2
theorem after_len {m : Mach} (h : RightM m) : ∀ s : Bs, (after m s).1.length ≤ mostM m m.next.length * s.length := by
  intro s
  have key : ∀ (s : Bs) (x : Bs × Nat), x.2 < m.next.length → (s.foldl (stepF m) x).1.length ≤ x.1.length + mostM m m.next.length * s.length := fun s => by
    induction s with
    | nil => intro x _; simp
    | cons c t ih =>
      intro x hx
      have h1 := ih (stepF m x c) (state_facts h hx c).2.2.2.1
      have h2 := out_le hx c
      simp only [List.foldl_cons, List.length_cons, Nat.mul_add]
      have h3 : (stepF m x c).1.length = x.1.length + (outT m x.2 c).length := by simp [stepF]
      omega
  have := key s ([], 0) (by have := h.lo; show 0 < _; omega)
  simpa [after] using this
theorem total_len {m : Mach} (h : RightM m) (s : Bs) : (total m s).length ≤ mostM m m.next.length * s.length + endM m m.next.length := by
  have h1 := after_len h s
  have h2 := upTo_ge (endLen m) m.next.length (after m s).2 (after_lt h s)
  unfold total endM
  rw [List.length_append, size_data]
  have h3 : (endText m (after m s).2).size ≤ upTo (endLen m) m.next.length := h2
  omega
end Go.Proofs.Ythjnkpoalbddkaa
