/- Run, where it refuses. -/
import Derived.Test.YthjnkpoalbddkaaMach
namespace Go.Proofs.Ythjnkpoalbddkaa
open Go.RowKit

set_option maxRecDepth 100000 in
set_option maxHeartbeats 4000000 in
theorem trun_no (A0 A1 A2 A3 : Option Addr) (n0 n1 n2 n3 c0 c1 c2 c3 : Nat) (m : Mach) (RA : Nat → Option Addr) (rc : Nat → Nat) (PA : Nat → Option Addr) (pc : Nat → Nat) (s : ByteArray) (w : World) (h : MachIn w A0 A1 A2 A3 n0 n1 n2 n3 m RA rc PA pc) (hr : rightM m = false) :
    Calls Try.prog 24 #[.agg #[.slice A0 n0 c0, .slice A1 n1 c1, .slice A2 n2 c2, .slice A3 n3 c3], .string s] w fun e w' => e = .returned (.tuple #[.string ⟨#[]⟩, .int .i64 120]) ∧ Below w.heap.size w w' := by
  have hb0 : Below w.heap.size w (w.alloc (.cells #[.slice A0 n0 c0, .slice A1 n1 c1, .slice A2 n2 c2, .slice A3 n3 c3] 42)) := (Below.refl _ _).alloc (Nat.le_refl _) _
  have HR := Lib.hid (tright_any A0 A1 A2 A3 n0 n1 n2 n3 c0 c1 c2 c3 m RA rc PA pc _ (h.keep hb0))
  rw [hr] at HR
  clear h hr hb0
  go_enter Try.func24, Try.ntmps24
  go_wp2_with fail
  refine HR.out.mono ?_
  rintro e w1 ⟨rfl, hb1⟩
  have HBX := Lib.hid (below_new (Below.refl w.heap.size w) (Nat.le_refl _) hb1)
  clear hb1
  go_wp2_with fail
  go_ret2
  exact ⟨rfl, HBX.out⟩

set_option maxRecDepth 100000 in
set_option maxHeartbeats 4000000 in
theorem trun_long (A0 A1 A2 A3 : Option Addr) (n0 n1 n2 n3 c0 c1 c2 c3 : Nat) (m : Mach) (RA : Nat → Option Addr) (rc : Nat → Nat) (PA : Nat → Option Addr) (pc : Nat → Nat) (s : ByteArray) (w : World) (h : MachIn w A0 A1 A2 A3 n0 n1 n2 n3 m RA rc PA pc) (hr : rightM m = true) (hs : 4096 < s.size) :
    Calls Try.prog 24 #[.agg #[.slice A0 n0 c0, .slice A1 n1 c1, .slice A2 n2 c2, .slice A3 n3 c3], .string s] w fun e w' => e = .returned (.tuple #[.string ⟨#[]⟩, .int .i64 2]) ∧ Below w.heap.size w w' := by
  have hb0 : Below w.heap.size w (w.alloc (.cells #[.slice A0 n0 c0, .slice A1 n1 c1, .slice A2 n2 c2, .slice A3 n3 c3] 42)) := (Below.refl _ _).alloc (Nat.le_refl _) _
  have HR := Lib.hid (tright_any A0 A1 A2 A3 n0 n1 n2 n3 c0 c1 c2 c3 m RA rc PA pc _ (h.keep hb0))
  rw [hr] at HR
  have d0 : decide ((4096 : Int) < (s.size : Int)) = true := by simp; omega
  clear h hr hb0
  go_enter Try.func24, Try.ntmps24
  go_wp2_with fail
  refine HR.out.mono ?_
  rintro e w1 ⟨rfl, hb1⟩
  have HBX := Lib.hid (below_new (Below.refl w.heap.size w) (Nat.le_refl _) hb1)
  clear hb1
  go_wp2_with fail
  go_ret2
  exact ⟨rfl, HBX.out⟩
end Go.Proofs.Ythjnkpoalbddkaa
