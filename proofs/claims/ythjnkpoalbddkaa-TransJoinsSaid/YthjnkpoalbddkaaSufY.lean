/- Does a text end in a byte. Plain. -/
import Derived.Test.YthjnkpoalbddkaaStepY
import Derived.Test.YthjnkpoalbddkaaShelf
namespace Go.Proofs.Ythjnkpoalbddkaa
theorem suf_odd (t : Bs) (c : UInt8) : Lib.hasSuffix t [c] = oddB t c := by
  rw [Bool.eq_iff_iff]
  unfold oddB
  rw [decide_eq_true_eq, List.getLast?_eq_some_iff]
  simp only [Lib.hasSuffix]
  constructor
  · intro h
    obtain ⟨l, hl⟩ := List.isSuffixOf_iff_suffix.1 h
    exact ⟨l, hl.symm⟩
  · rintro ⟨l, rfl⟩
    simp
theorem cut_slice {t : Bs} {c : UInt8} (h : oddB t c = true) : 0 < t.length ∧ ∀ W : World, (Instr.slice 9 (.string ⟨t.toArray⟩) none (some (.int .i64 ((t.length : Int) - 1))) none).run Try.prog W = .ok (.string ⟨(cutB t c).toArray⟩) W := by
  have h2 := h
  unfold oddB at h2
  obtain ⟨l, rfl⟩ := List.getLast?_eq_some_iff.1 (of_decide_eq_true h2)
  refine ⟨by simp, fun W => ?_⟩
  rw [run_slice_string_h _ _ _ Try.underlying9 .i64 _ (by simp) (by simp [ByteArray.size]; omega)]
  unfold cutB
  rw [if_pos h]
  congr 2
  apply ByteArray.ext
  simp
end Go.Proofs.Ythjnkpoalbddkaa
