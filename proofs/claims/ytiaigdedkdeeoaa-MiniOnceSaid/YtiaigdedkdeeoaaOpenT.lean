/- A map of bytes, laid open. -/
import Derived.Test.YtiaigdedkdeeoaaOpenD
import Derived.Test.YtiaigdedkdeeoaaLike
namespace Go.Proofs.Ytiaigdedkdeeoaa
open Go.RowKit Go.ChangeShapes Go.WideShapes Go.ChangeAt Go.Deep Go.Joins
theorem open_to {H : Type} {enc : TypeId × Value → H} {w : World} {base : Nat} {spare : Nat → Bool} {held : Bool} {r : Reach} {b0 : Nat} {v : Value} {d : DataW H} {p : List MemPlace}
    (hv : Value.okWide Try.prog w r b0 22 v) (h : DataW.Trod enc Try.prog w base spare held 22 v d p) : ∃ tf, v = .agg (clsV tf).toArray ∧ ∀ b, b < 256 → tf b < 256 := by
  simp only [Value.okWide, Try.underlying22] at hv
  obtain ⟨cs, rfl, hsz, _⟩ := hv
  rw [cells22] at hsz
  obtain ⟨fuel, hf⟩ := h
  obtain ⟨tf, htf⟩ := open_cls hf
  refine ⟨tf, ?_, fun b hb => (htf b hb).2⟩
  congr 1
  apply Array.ext_getElem?
  intro b
  have h2 : (clsV tf).toArray[b]? = (clsV tf)[b]? := by simp
  rw [h2]
  by_cases hb : b < 256
  · have h1 := (htf b hb).1
    rw [clsV_get _ hb, ← h1]
    simp [Value.cells]
  · have h3 : cs[b]? = none := Array.getElem?_eq_none (by omega)
    have h4 : (clsV tf)[b]? = none := List.getElem?_eq_none (by rw [clsV_len]; omega)
    rw [h3, h4]
end Go.Proofs.Ytiaigdedkdeeoaa
