/- The arguments of this seat's laws, opened to plain lists. -/
import Derived.Test.YtlfhiehlokedmaaRows
import Derived.Test.YtlfhiehlokedmaaRow2
import Derived.Test.YtlfhiehlokedmaaKey
namespace Go.Proofs.Ytlfhiehlokedmaa
open Go.RowKit Go.ChangeShapes Go.WideShapes Go.ChangeAt Go.Deep

theorem Try.own : ownKnob Try.prog.godebug = none := by kernel_rfl
theorem bytes43 : Try.prog.bytesOf 43 = 16 := by kernel_rfl
theorem bytes3 : Try.prog.bytesOf 3 = 8 := by kernel_rfl
theorem under43 : ∃ f0 f1 : Field, Try.prog.underlying 43 = some (.struct #[f0, f1]) ∧ f0.offset = 0 ∧ f1.offset = 1 ∧ f0.type = 3 ∧ f1.type = 3 := ⟨_, _, Try.underlying43, rfl, rfl, rfl, rfl⟩

/-- an argument that is a slice of merges -/
theorem open_merges {H : Type} {enc : TypeId × Value → H} {W : World} {base : Nat} {spare : Nat → Bool} {held : Bool} {r : Reach} {b0 : Nat} {v : Value} {d : DataW H} {p : List MemPlace}
    (hv : Value.okWide Try.prog W r b0 22 v) (h : DataW.Trod enc Try.prog W base spare held 22 v d p) (hw : Wt Try.prog 22 d) :
    ∃ A n c l, v = .slice A n c ∧ l.length = n ∧ n ≤ 140737488355328 ∧ Arr W W.heap.size 2 A n (PairC l) := by
  obtain ⟨a0, len, cap, rfl⟩ := okWide_slice Try.underlying22 hv
  obtain ⟨fuel, hf⟩ := h
  obtain ⟨f0, f1, hu, ho0, ho1, ht0, ht1⟩ := under43
  obtain ⟨A, n, c, xs, hcs, hsl, _, _, hr⟩ := open_sl (α := Int × Int) (R := fun _ cs a => cs = [.int .i64 a.1, .int .i64 a.2]) Try.underlying22 cells43 (by omega)
    (fun m cs x hx => open_pair hu ho0 ho1 ht0 ht1 Try.underlying3 cells3 cells43 m cs x hx) hf hw
  rw [bytes43] at hr
  simp only [reachBytes] at hr
  refine ⟨A, n, c, xs, by simpa [Value.cells] using hcs, hsl.1, by omega, hsl.arr (by omega) _ (fun k hk cs hr _ j hj => ?_)⟩
  subst hr
  match j, hj with
  | 0, _ => simp [PairC, hk]
  | 1, _ => simp [PairC, hk]

/-- an argument that is a slice of ints -/
theorem open_ints {H : Type} {enc : TypeId × Value → H} {W : World} {base : Nat} {spare : Nat → Bool} {held : Bool} {r : Reach} {b0 : Nat} {v : Value} {d : DataW H} {p : List MemPlace}
    (hv : Value.okWide Try.prog W r b0 30 v) (h : DataW.Trod enc Try.prog W base spare held 30 v d p) (hw : Wt Try.prog 30 d) :
    ∃ A n c l, v = .slice A n c ∧ l.length = n ∧ n ≤ 17592186044416 ∧ n ≤ c ∧ Arr W W.heap.size 1 A n (IntC l) := by
  obtain ⟨a0, len, cap, rfl⟩ := okWide_slice Try.underlying30 hv
  obtain ⟨fuel, hf⟩ := h
  obtain ⟨A, n, c, xs, hcs, hsl, hnc, _, hr⟩ := open_sl (R := fun _ cs a => cs = [.int .i64 a] ∧ (Lit.int .i64 a).wf = true) Try.underlying30 cells3 (by omega) (open_num Try.underlying3) hf hw
  rw [bytes3] at hr
  simp only [reachBytes] at hr
  refine ⟨A, n, c, xs, by simpa [Value.cells] using hcs, hsl.1, by omega, hnc, hsl.arr (by omega) _ (fun k hk cs hr _ j hj => ?_)⟩
  obtain ⟨rfl, _⟩ := hr
  obtain rfl : j = 0 := by omega
  simp [IntC, hk]
end Go.Proofs.Ytlfhiehlokedmaa
