/- A slice of ints, laid open. -/
import Derived.Test.YtklklmaclaohaaaOpenM
import Derived.Test.YtklklmaclaohaaaSm
namespace Go.Proofs.Ytklklmaclaohaaa
open Go.RowKit Go.ChangeShapes Go.WideShapes Go.ChangeAt Go.Deep Go.Joins
theorem bytes3 : Try.prog.bytesOf 3 = 8 := by kernel_rfl
set_option maxRecDepth 100000 in
theorem open_ints {H : Type} {enc : TypeId × Value → H} {W : World} {base : Nat} {spare : Nat → Bool} {held : Bool} {r : Reach} {b0 : Nat} {v : Value} {d : DataW H} {p : List MemPlace}
    (hv : Value.okWide Try.prog W r b0 23 v) (h : DataW.Trod enc Try.prog W base spare held 23 v d p) (hw : Wt Try.prog 23 d) :
    ∃ A n c l, v = .slice A n c ∧ l.length = n ∧ n ≤ 140737488355328 ∧ n ≤ c ∧ Arr W W.heap.size 1 A n (IntC l) := by
  obtain ⟨a0, len, cap, rfl⟩ := okWide_slice Try.underlying23 hv
  obtain ⟨fuel, hf⟩ := h
  obtain ⟨A, n, c, xs, hcs, hsl, hnc, _, hr⟩ := open_sl (R := fun _ cs a => cs = [.int .i64 a] ∧ (Lit.int .i64 a).wf = true) Try.underlying23 cells3 (by omega) (open_num Try.underlying3) hf hw
  rw [bytes3] at hr
  simp only [reachBytes] at hr
  refine ⟨A, n, c, xs, by simpa [Value.cells] using hcs, hsl.1, by omega, hnc, hsl.arr (by omega) _ (fun k hk cs hr _ j hj => ?_)⟩
  obtain ⟨rfl, _⟩ := hr
  obtain rfl : j = 0 := by omega
  simp [IntC, hk]
end Go.Proofs.Ytklklmaclaohaaa
