/- The reference's Least: facts for its second half. -/
import Derived.Test.YtiaigdedkdeeoaaRfS0
namespace Go.Proofs.Ytiaigdedkdeeoaa
open Go.RowKit Go.Maps Go.WideMaps
theorem RsA.inn {B W : World} {va : Value} {Aw : Option Addr} {cw k : Nat} {met : List Nat} {wide : List (List Int)} {RA : Nat → Option Addr} {rc : Nat → Nat} (h : RsA B W va (.slice Aw k cw) met wide RA rc) (hk : wide.length = k) (hr : ∀ i, i < k → (wide.getD i []).length = 256) (hn : k ≤ 400) : RowsIn W Aw k wide RA rc := by
  subst hk
  refine ⟨rfl, by omega, fun hp => ?_, fun i hi => own_ints (h.wid.row i hi), fun i hi => by rw [hr i hi]; omega⟩
  obtain ⟨b, o, e, hlt, hcell⟩ := Arr.of_own h.wid.on hp
  refine ⟨b, o, e, hlt, fun i j hi hj => ?_⟩
  have e5 : ((List.range wide.length).map (fun i => Value.slice (RA i) (wide.getD i []).length (rc i))).getD i undef = .slice (RA i) (wide.getD i []).length (rc i) := by
    rw [List.getD_eq_getElem?_getD, List.getElem?_map, List.getElem?_range hi]; rfl
  rw [hcell i j hi hj]
  exact congrArg some e5
theorem zs26_one : zs26.all (·.oneCell') = true := by
  have h := dCells_one [] none none 0 0 0 0
  rw [← zs26_cells] at h
  simpa using h
/-- the box of what is made, as the loop begins -/
theorem OutW.start (W : World) : OutW W (((W.alloc (.cells zs26 26)).setRow W.heap.size zs26).alloc (.cells #[] 3)) W.heap.size (.slice (some ⟨((W.alloc (.cells zs26 26)).setRow W.heap.size zs26).heap.size, 0, none⟩) 0 0) [] [] (.slice none 0 0) (.slice none 0 0) := by
  have b1 := (blk_alloc W 26 zs26).row zs26
  have hb : Below W.heap.size W ((W.alloc (.cells zs26 26)).setRow W.heap.size zs26) := below_setRow ((Below.refl _ _).alloc (Nat.le_refl _) _) (Nat.le_refl _) _
  have hs : W.heap.size + 1 ≤ ((W.alloc (.cells zs26 26)).setRow W.heap.size zs26).heap.size := by simp [World.setRow]
  have b2 := b1.alloc (.cells #[] 3)
  rw [zs26_cells] at b2
  exact ⟨hb.alloc hb.size _, Nat.le_refl _, b2, ⟨rfl, .inr ⟨_, 0, #[], rfl, hs, heap_alloc_new _ _, Nat.le_refl _, by simp [maxLen], rfl, rfl⟩⟩⟩
theorem wrapU8 {c : Nat} (h : c < 256) : IntKind.u8.wrap (c : Int) = (c : Int) := IntWalk.u8_in _ (by omega)
end Go.Proofs.Ytiaigdedkdeeoaa
