/- Each state of what is built is reached. Plain. -/
import Derived.Test.YtfjhcoeehjephaaAgMd
import Derived.Test.YtfjhcoeehjephaaRchMd
namespace Go.Proofs.Ytfjhcoeehjephaa
section
variable {E : List Ed} {S : Nat} {a z : Int} {many : Nat} {ls : Nat → Nat} {all : List (List Nat)} {D : Dfa}
theorem built_in (hc : ClsOk D.cls many (setsOf E)) (hl : LeastOk D.cls ls 0) (h : Mid E S a z many ls all.length all D.next D.acc) {X : List Nat} (hX : RSet E S a X) : X ∈ all := by
  refine RSet.all ?_ (fun X hX b hb hm => ?_) hX
  · rw [← h.first]; exact getD_mem h.pos
  · obtain ⟨i, hi, rfl⟩ := List.getElem_of_mem hX
    have hg : all.getD i [] = all[i] := by simp [List.getD_eq_getElem?_getD, hi]
    rcases built_next hc hl h hi hb with ⟨h1, _⟩ | ⟨_, h2, _⟩
    · rw [hg] at h1; exact absurd h1 hm
    · rw [hg] at h2; exact h2
theorem built_marks (hc : ClsOk D.cls many (setsOf E)) (hl : LeastOk D.cls ls 0) (h : Mid E S a z many ls all.length all D.next D.acc) {seen : List Bool} (h0 : seen.getD 0 false = true) (hcl : ∀ i, i < all.length → ∀ b, b < 256 → ClD D seen i b) :
    ∀ j, j < all.length → seen.getD j false = true := by
  have key : ∀ X, RSet E S a X → seen.getD (plc all X) false = true := fun X hX => by
    induction hX with
    | first =>
      have h1 : all[0]'h.pos = closN E S [a] := by
        have := h.first
        simpa [List.getD_eq_getElem?_getD, show 0 < all.length from h.pos] using this
      rw [← h1, plc_at h.nd h.pos]; exact h0
    | @step X b hX hb hm ih =>
      have hin := built_in hc hl h hX
      have hlt := plc_lt hin
      rcases built_next hc hl h hlt hb with ⟨h1, _⟩ | ⟨_, _, h3⟩
      · rw [plc_getD hin] at h1; exact absurd h1 hm
      · rw [plc_getD hin] at h3
        exact hcl _ hlt b hb ih _ h3
  intro j hj
  have h1 := key all[j] (h.rs _ (List.getElem_mem hj))
  rw [plc_at h.nd hj] at h1
  exact h1
end
end Go.Proofs.Ytfjhcoeehjephaa
