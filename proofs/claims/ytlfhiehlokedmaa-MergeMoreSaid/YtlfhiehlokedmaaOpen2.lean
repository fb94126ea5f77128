/- A slice of merges, and one merge, opened to plain lists: with the bounds that MergeMore wants. -/
import Derived.Test.YtlfhiehlokedmaaOpen
import Derived.Lib.SmallJoins
namespace Go.Proofs.Ytlfhiehlokedmaa
open Go.RowKit Go.ChangeShapes Go.WideShapes Go.ChangeAt Go.Deep Go.Joins

theorem open_merges2 {H : Type} {enc : TypeId × Value → H} {W : World} {base : Nat} {spare : Nat → Bool} {held : Bool} {r : Reach} {b0 : Nat} {v : Value} {d : DataW H} {p : List MemPlace}
    (hv : Value.okWide Try.prog W r b0 22 v) (h : DataW.Trod enc Try.prog W base spare held 22 v d p) (hw : Wt Try.prog 22 d) :
    ∃ A n c l, v = .slice A n c ∧ l.length = n ∧ n ≤ 8796093022207 ∧ (A = none → n = 0 ∧ c = 0) ∧ Arr W W.heap.size 2 A n (PairC l) := by
  have hv0 := hv
  obtain ⟨a0, len, cap, rfl⟩ := okWide_slice Try.underlying22 hv
  have h0 := h
  obtain ⟨fuel, hf⟩ := h
  obtain ⟨f0, f1, hu, ho0, ho1, ht0, ht1⟩ := under43
  obtain ⟨A, n, c, xs, hcs, hsl, _, _, hr⟩ := open_sl (α := Int × Int) (R := fun _ cs a => cs = [.int .i64 a.1, .int .i64 a.2]) Try.underlying22 cells43 (by omega)
    (fun m cs x hx => open_pair hu ho0 ho1 ht0 ht1 Try.underlying3 cells3 cells43 m cs x hx) hf hw
  rw [bytes43] at hr
  simp only [reachBytes] at hr
  refine ⟨A, n, c, xs, by simpa [Value.cells] using hcs, hsl.1, by omega, fun hA => ?_, hsl.arr (by omega) _ (fun k hk cs hr _ j hj => ?_)⟩
  · subst hA
    rcases open_slice Try.underlying22 hf with ⟨he, _⟩ | ⟨a, len', cap', m, n', D, Pl, he, _⟩
    · rw [he] at hcs
      simp at hcs
      exact ⟨hcs.1.symm, hcs.2.symm⟩
    · rw [he] at hcs
      simp at hcs
  · subst hr
    match j, hj with
    | 0, _ => simp [PairC, hk]
    | 1, _ => simp [PairC, hk]

theorem under43b : ∃ f0 f1 : Field, Try.prog.underlying 43 = some (.struct #[f0, f1]) ∧ f0.type = 3 ∧ f1.type = 3 ∧ oneCellFields Try.prog #[f0, f1] = true := ⟨_, _, Try.underlying43, rfl, rfl, by kernel_rfl⟩
theorem open_merge {H : Type} {enc : TypeId × Value → H} {W : World} {base : Nat} {spare : Nat → Bool} {held : Bool} {r : Reach} {b0 : Nat} {v : Value} {d : DataW H} {p : List MemPlace}
    (hv : Value.okWide Try.prog W r b0 43 v) (h : DataW.Trod enc Try.prog W base spare held 43 v d p) : ∃ m : Int × Int, v = .agg #[.int .i64 m.1, .int .i64 m.2] := by
  obtain ⟨f0, f1, hu, ht0, ht1, hone⟩ := under43b
  obtain ⟨v0, v1, y0, y1, n, rfl, rfl, _, h0, h1⟩ := open_agg2 hu hone cells43 hv h
  rw [ht0] at h0
  rw [ht1] at h1
  obtain ⟨a, e0, _, _⟩ := DataW.trod_int Try.underlying3 h0
  obtain ⟨b, e1, _, _⟩ := DataW.trod_int Try.underlying3 h1
  simp at e0 e1
  exact ⟨(a, b), by rw [e0, e1]⟩
end Go.Proofs.Ytlfhiehlokedmaa
