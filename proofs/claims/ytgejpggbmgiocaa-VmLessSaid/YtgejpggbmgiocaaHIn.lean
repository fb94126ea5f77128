/- A hash that came in, and the contracts of the functions over it, in any world in which it lies. -/
import Derived.Test.YtgejpggbmgiocaaHGet
namespace Go.Proofs.Ytgejpggbmgiocaa
open Go.RowKit

structure HashIn (w : World) (A0 A1 A2 : Option Addr) (n0 n1 n2 : Nat) (S K V : List Int) : Prop where
  hS : S.length = n0
  hK : K.length = n1
  hV : V.length = n2
  hn0 : n0 ≤ 140737488355328
  hn1 : n1 ≤ 140737488355328
  hn2 : n2 ≤ 140737488355328
  hu : Under 4294967296 S
  h0 : Arr w w.heap.size 1 A0 n0 (NumC .u32 S)
  h1 : Arr w w.heap.size 1 A1 n1 (NumC .u64 K)
  h2 : Arr w w.heap.size 1 A2 n2 (NumC .u64 V)

section
variable {w w' : World} {A0 A1 A2 : Option Addr} {n0 n1 n2 : Nat} {S K V : List Int}
theorem HashIn.keep (h : HashIn w A0 A1 A2 n0 n1 n2 S K V) (hb : Below w.heap.size w w') : HashIn w' A0 A1 A2 n0 n1 n2 S K V :=
  ⟨h.hS, h.hK, h.hV, h.hn0, h.hn1, h.hn2, h.hu, (h.h0.below hb).more hb.size, (h.h1.below hb).more hb.size, (h.h2.below hb).more hb.size⟩
theorem HashIn.get (h : HashIn w A0 A1 A2 n0 n1 n2 S K V) (c0 c1 c2 : Nat) (key : Int) : Calls Try.prog 15 #[.agg #[.slice A0 n0 c0, .slice A1 n1 c1, .slice A2 n2 c2], .int .u64 key] w fun e w' => e = .returned (.tuple #[.int .u64 (hashGet mix S K V key).1, .bool (hashGet mix S K V key).2]) ∧ Below w.heap.size w w' :=
  get_any A0 A1 A2 n0 n1 n2 c0 c1 c2 S K V key w h.hS h.hK h.hV h.hn0 h.hn1 h.hn2 h.hu h.h0 h.h1 h.h2
theorem HashIn.rget (h : HashIn w A0 A1 A2 n0 n1 n2 S K V) (c0 c1 c2 : Nat) (key : Int) : Calls Try.prog 18 #[.agg #[.slice A0 n0 c0, .slice A1 n1 c1, .slice A2 n2 c2], .int .u64 key] w fun e w' => e = .returned (.tuple #[.int .u64 (hashGet mix S K V key).1, .bool (hashGet mix S K V key).2]) ∧ Below w.heap.size w w' :=
  rget_any A0 A1 A2 n0 n1 n2 c0 c1 c2 S K V key w h.hS h.hK h.hV h.hn0 h.hn1 h.hn2 h.hu h.h0 h.h1 h.h2
end

/-- a box of three slices, laid behind W: it stands in w, and all older memory is as it was -/
structure Boxed (W : World) (v0 v1 v2 : Value) (w : World) : Prop where
  below : Below W.heap.size W w
  lt : W.heap.size < w.heap.size
  q0 : w.cell? ⟨W.heap.size, 0, none⟩ = some v0
  q1 : w.cell? ⟨W.heap.size, 1, none⟩ = some v1
  q2 : w.cell? ⟨W.heap.size, 2, none⟩ = some v2
theorem Boxed.new (W : World) (v0 v1 v2 : Value) (t : TypeId) : Boxed W v0 v1 v2 (W.alloc (.cells #[v0, v1, v2] t)) :=
  ⟨(Below.refl _ _).alloc (Nat.le_refl _) _, by simp, kept_new (Below.refl _ _) 0, kept_new (Below.refl _ _) 1, kept_new (Below.refl _ _) 2⟩
theorem Boxed.keep {W : World} {v0 v1 v2 : Value} {w w' : World} (h : Boxed W v0 v1 v2 w) (hb : Below w.heap.size w w') : Boxed W v0 v1 v2 w' :=
  ⟨h.below.trans (hb.mono (Nat.le_of_lt h.lt)), Nat.lt_of_lt_of_le h.lt hb.size, (hb.cell (p := ⟨W.heap.size, 0, none⟩) h.lt).trans h.q0, (hb.cell (p := ⟨W.heap.size, 1, none⟩) h.lt).trans h.q1, (hb.cell (p := ⟨W.heap.size, 2, none⟩) h.lt).trans h.q2⟩

end Go.Proofs.Ytgejpggbmgiocaa
