/- What is built of a tree takes its texts. Plain. -/
import Derived.Test.YtfjhcoeehjephaaFr4Me
import Derived.Test.YtfjhcoeehjephaaBuMe
namespace Go.Proofs.Ytfjhcoeehjephaa
open Go.RowKit

theorem on_pth {E : List Ed} {S : Nat} {s : ByteArray} {p0 p : Nat} {i : Int} (hS : 0 < S) : On E S 0 s p0 p i ↔ Pth E s p0 0 p i := by
  constructor
  · intro h
    induction h with
    | start _ _ => exact .refl
    | free he hf _ ih => exact .free ih he hf
    | read he hp hr _ ih => exact .read ih he hp hr
  · intro h
    induction h with
    | refl => exact .start (Int.le_refl _) (by omega)
    | free _ he hf ih => exact .free he hf ih
    | read _ he hp hr ih => exact .read he hp hr ih
theorem Made.lang {t : Tr} {S : Nat} {E : List Ed} (h : Made t S E) (s : ByteArray) (p0 p : Nat) : On E S 0 s p0 p 1 ↔ t.lang s p0 p := by
  obtain ⟨N, hN, _, hF⟩ := h.grew.good rfl
  rw [List.nil_append] at hN
  rw [← hN] at hF
  rw [on_pth (by have := h.grew.lo; omega)]
  exact (hF s).lang p0 p
theorem Made.ends {t : Tr} {S : Nat} {E : List Ed} (h : Made t S E) (s : ByteArray) (p0 : Nat) : endsN E S 0 1 s p0 = endsT s t p0 := by
  unfold endsN endsT
  refine outsTo_congr p0 _ (fun k _ => ?_)
  apply Bool.eq_iff_iff.2
  rw [onB_iff, h.lang]
  unfold langB
  simp
theorem Made.wf {t : Tr} {S : Nat} {E : List Ed} (h : Made t S E) : WfE E := by
  obtain ⟨N, hN, hw, _⟩ := h.grew.good rfl
  rw [List.nil_append] at hN
  rw [hN]; exact hw

end Go.Proofs.Ytfjhcoeehjephaa
