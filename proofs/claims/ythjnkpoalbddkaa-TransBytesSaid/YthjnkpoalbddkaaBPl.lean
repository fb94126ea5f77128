/- Machines that make just one byte of each: plain. -/
import Derived.Test.YthjnkpoalbddkaaAft
import Derived.Test.YthjnkpoalbddkaaCom
namespace Go.Proofs.Ythjnkpoalbddkaa

/-- the states that are reached -/
inductive Met (m : Mach) : Nat → Prop
  | start : Met m 0
  | go {i : Nat} (c : UInt8) : Met m i → Met m (nextS m i c)
theorem Met.lt {m : Mach} (h : RightM m) {i : Nat} (hi : Met m i) : i < m.next.length := by
  induction hi with
  | start => have := h.lo; omega
  | go c _ ih => exact (state_facts h ih c).2.2.2.1
/-- the text that is put at a byte, of which just one is known -/
def SameAt (m : Mach) (i b : Nat) : Prop := (outT m i (UInt8.ofNat b)).length = 1 ∧ outT m i (UInt8.ofNat b) = outT m 0 (UInt8.ofNat b)
def Same1 (m : Mach) (i : Nat) : Prop := (endText m i).size = 0 ∧ ∀ b, b < 256 → SameAt m i b
def BytesOk (m : Mach) : Prop := ∀ i, Met m i → Same1 m i
def byteOf (m : Mach) (b : Nat) : UInt8 := (outT m 0 (UInt8.ofNat b)).headD 0
def tab (m : Mach) (c : Nat) : List Value := (List.range 256).map (fun b => .int .u8 (if b < c then ((byteOf m b).toNat : Int) else 0))
theorem tab_len (m : Mach) (c : Nat) : (tab m c).length = 256 := by simp [tab]
theorem tab_get (m : Mach) (c : Nat) {j : Nat} (hj : j < 256) : (tab m c)[j]? = some (.int .u8 (if j < c then ((byteOf m j).toNat : Int) else 0)) := by simp [tab, hj]
theorem tab_zero (m : Mach) : tab m 0 = List.replicate 256 (.int .u8 0) := by
  apply List.ext_getElem
  · rw [tab_len, List.length_replicate]
  · intro i h1 h2
    rw [List.getElem_replicate]
    simp only [tab, List.getElem_map, List.getElem_range]
    rfl
theorem tab_set (m : Mach) {c j : Nat} (hj : j < 256) (hc : c = 256 ∨ c = j) : (tab m c).set j (.int .u8 ((byteOf m j).toNat : Int)) = tab m (max c (j + 1)) := by
  apply List.ext_getElem
  · simp [tab]
  · intro i h1 h2
    rw [List.getElem_set]
    have hi : i < 256 := by simpa [tab] using h2
    by_cases e : j = i
    · subst e
      simp only [tab, List.getElem_map, List.getElem_range, if_true]
      rw [if_pos (by omega)]
    · rw [if_neg e]
      simp only [tab, List.getElem_map, List.getElem_range]
      have : (i < c) ↔ (i < max c (j + 1)) := by omega
      simp only [this]
theorem sameAt_one {m : Mach} {i b : Nat} (h : SameAt m i b) : outT m i (UInt8.ofNat b) = [byteOf m b] := by
  obtain ⟨h1, h2⟩ := h
  unfold byteOf
  rw [← h2]
  match h3 : outT m i (UInt8.ofNat b), h1 with
  | [x], _ => rfl

theorem ofNat_toNat (c : UInt8) : UInt8.ofNat c.toNat = c := by simp
theorem bytes_after {m : Mach} (h : BytesOk m) : ∀ (s : Bs) (x : Bs × Nat), Met m x.2 → (s.foldl (stepF m) x).1 = x.1 ++ s.map (fun c => byteOf m c.toNat) ∧ Met m (s.foldl (stepF m) x).2 := fun s => by
  induction s with
  | nil => intro x hx; exact ⟨by simp, hx⟩
  | cons c t ih =>
    intro x hx
    have h1 := sameAt_one ((h x.2 hx).2 c.toNat c.toNat_lt)
    rw [ofNat_toNat] at h1
    obtain ⟨h2, h3⟩ := ih (stepF m x c) (.go c hx)
    refine ⟨?_, h3⟩
    rw [List.foldl_cons, h2]
    show (x.1 ++ outT m x.2 c) ++ _ = _
    rw [h1]
    simp
theorem bytes_total {m : Mach} (h : BytesOk m) (s : Bs) : total m s = s.map (fun c => byteOf m c.toNat) := by
  obtain ⟨h1, h2⟩ := bytes_after h s ([], 0) .start
  have h3 := (h _ h2).1
  unfold total after
  rw [h1]
  have : (endText m (s.foldl (stepF m) ([], 0)).2).data.toList = [] := List.length_eq_zero_iff.1 (by
    rw [size_data]; exact h3)
  rw [this]
  simp
theorem bytes_run {m : Mach} (h : BytesOk m) {s : Bs} (hs : s.length ≤ 262144) : runRes m s = some (s.map (fun c => byteOf m c.toNat)) := by
  rw [runRes_ok, bytes_total h]
  rintro (⟨k, hk, h1⟩ | h1)
  · obtain ⟨h2, _⟩ := bytes_after h (s.take k) ([], 0) .start
    unfold after at h1
    rw [h2] at h1
    simp at h1
    omega
  · rw [bytes_total h] at h1
    simp at h1
    omega
end Go.Proofs.Ythjnkpoalbddkaa
