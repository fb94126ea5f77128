/- A slice of merges, laid open. -/
import Derived.Test.YtklklmaclaohaaaOpen1
import Derived.Test.YtklklmaclaohaaaEng
namespace Go.Proofs.Ytklklmaclaohaaa
open Go.RowKit Go.ChangeShapes Go.WideShapes Go.ChangeAt Go.Deep Go.Joins
set_option maxRecDepth 100000 in
theorem bytes58 : Try.prog.bytesOf 58 = 16 := by kernel_rfl
set_option maxRecDepth 100000 in
theorem under58 : ∃ f0 f1 : Field, Try.prog.underlying 58 = some (.struct #[f0, f1]) ∧ f0.offset = 0 ∧ f1.offset = 1 ∧ f0.type = 3 ∧ f1.type = 3 := ⟨_, _, Try.underlying58, rfl, rfl, rfl, rfl⟩
set_option maxRecDepth 100000 in
theorem open_merges2 {H : Type} {enc : TypeId × Value → H} {W : World} {base : Nat} {spare : Nat → Bool} {held : Bool} {r : Reach} {b0 : Nat} {v : Value} {d : DataW H} {p : List MemPlace}
    (hv : Value.okWide Try.prog W r b0 22 v) (h : DataW.Trod enc Try.prog W base spare held 22 v d p) (hw : Wt Try.prog 22 d) :
    ∃ A n c l, v = .slice A n c ∧ l.length = n ∧ n ≤ 8796093022207 ∧ (A = none → n = 0 ∧ c = 0) ∧ Arr W W.heap.size 2 A n (PairC l) := by
  have hv0 := hv
  obtain ⟨a0, len, cap, rfl⟩ := okWide_slice Try.underlying22 hv
  have h0 := h
  obtain ⟨fuel, hf⟩ := h
  obtain ⟨f0, f1, hu, ho0, ho1, ht0, ht1⟩ := under58
  obtain ⟨A, n, c, xs, hcs, hsl, _, _, hr⟩ := open_sl (α := Int × Int) (R := fun _ cs a => cs = [.int .i64 a.1, .int .i64 a.2]) Try.underlying22 cells43 (by omega)
    (fun m cs x hx => open_pair hu ho0 ho1 ht0 ht1 Try.underlying3 cells3 cells43 m cs x hx) hf hw
  rw [bytes58] at hr
  simp only [reachBytes] at hr
  refine ⟨A, n, c, xs, by simpa [Value.cells] using hcs, hsl.1, by omega, fun hA => ?_, hsl.arr (by omega) _ (fun k hk cs hr _ j hj => ?_)⟩
  · subst hA
    rcases open_slice Try.underlying22 hf with ⟨he, _⟩ | ⟨a, len', cap', m, n', D, Pl, he, _⟩
    · rw [he] at hcs
      simp at hcs
      exact ⟨hcs.1.symm, hcs.2.symm⟩
    · rw [he] at hcs
      simp at hcs
  · subst hr
    match j, hj with
    | 0, _ => simp [PairC, hk]
    | 1, _ => simp [PairC, hk]

end Go.Proofs.Ytklklmaclaohaaa
