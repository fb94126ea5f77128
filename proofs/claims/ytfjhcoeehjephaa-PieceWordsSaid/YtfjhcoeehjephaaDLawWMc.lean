/- The world of a law that holds one automaton in its box. -/
import Derived.Test.YtfjhcoeehjephaaDfaMc
import Derived.Deep.RegionHeld3
namespace Go.Proofs.Ytfjhcoeehjephaa.D8
open Go.RowKit

/-- the world of a law that holds one automaton in its box -/
structure LawW (w : World) (ds : Array Value) (A1 A2 : Option Addr) (n1 n2 c1 c2 : Nat) (D : Dfa) (RA : Nat → Option Addr) (rc : Nat → Nat) (wr : World) : Prop where
  mach : DfaIn wr ds A1 A2 n1 n2 c1 c2 D RA rc
  bel : Below w.heap.size w wr
  lt : w.heap.size < wr.heap.size
  rng : wr.rangeAt w.heap.size 0 ds.toList
theorem LawW.go {w : World} {ds : Array Value} {A1 A2 : Option Addr} {n1 n2 c1 c2 : Nat} {D : Dfa} {RA : Nat → Option Addr} {rc : Nat → Nat} {wr w' : World}
    (h : LawW w ds A1 A2 n1 n2 c1 c2 D RA rc wr) (hb : Below wr.heap.size wr w') : LawW w ds A1 A2 n1 n2 c1 c2 D RA rc w' :=
  ⟨h.mach.keep hb, h.bel.trans (hb.mono (Nat.le_of_lt h.lt)), Nat.lt_of_lt_of_le h.lt hb.size, fun j v hv => (hb.cell (p := ⟨w.heap.size, 0 + j, none⟩) h.lt).trans (h.rng j v hv)⟩
theorem LawW.drew {w : World} {ds : Array Value} {A1 A2 : Option Addr} {n1 n2 c1 c2 : Nat} {D : Dfa} {RA : Nat → Option Addr} {rc : Nat → Nat} {wr : World}
    (h : LawW w ds A1 A2 n1 n2 c1 c2 D RA rc wr) : LawW w ds A1 A2 n1 n2 c1 c2 D RA rc wr.drew := h.go (Below.refl _ _).drew
theorem LawW.start {w : World} {ds : Array Value} {A1 A2 : Option Addr} {n1 n2 c1 c2 : Nat} {D : Dfa} {RA : Nat → Option Addr} {rc : Nat → Nat}
    (h : DfaIn w ds A1 A2 n1 n2 c1 c2 D RA rc) : LawW w ds A1 A2 n1 n2 c1 c2 D RA rc (w.alloc (.cells ds 30)) := by
  have hb0 : Below w.heap.size w (w.alloc (.cells ds 30)) := (Below.refl _ _).alloc (Nat.le_refl _) _
  obtain ⟨-, -, -, -, hrng⟩ := kept_cell (w := w) (t := 30) (Below.refl _ _) h.cells
  exact ⟨h.keep hb0, hb0, by simp, hrng⟩
/-- a load of a whole automaton, shut -/
def loadBox (v : Value) : Sem Value := Instr.loadAt 30 v
theorem load_box (v : Value) : Instr.loadAt 30 v = loadBox v := rfl
attribute [local go_sem ↓] load_box
theorem LawW.load {w : World} {ds : Array Value} {A1 A2 : Option Addr} {n1 n2 c1 c2 : Nat} {D : Dfa} {RA : Nat → Option Addr} {rc : Nat → Nat} {wr : World}
    (h : LawW w ds A1 A2 n1 n2 c1 c2 D RA rc wr) : (loadBox (.pointer (some ⟨w.heap.size, 0, none⟩))).run Try.prog wr = .ok (.agg ds) wr := by
  have := run_loadAt_mid wr w.heap.size 0 30 ds.toList _ h.rng Try.underlying30 rfl (by rw [Array.length_toList, h.mach.cells.size]; exact info26)
  unfold loadBox
  rw [this]

end Go.Proofs.Ytfjhcoeehjephaa.D8
