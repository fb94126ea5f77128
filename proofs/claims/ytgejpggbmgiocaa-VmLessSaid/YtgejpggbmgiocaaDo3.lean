/- What is done once it is paid: moves and marks. -/
import Derived.Test.YtgejpggbmgiocaaDo1
import Derived.BigRegion
import Derived.Deep.RegionLaw
import Derived.Deep.Cut
namespace Go.Proofs.Ytgejpggbmgiocaa
open Go.RowKit
set_option maxRecDepth 100000 in
set_option maxHeartbeats 4000000 in
theorem do_3 (B g : Nat) (w0 W : World) (prg : List Value) (room fuel : Int) (s : St) (vs vp vg vt : Value) (c d : Int) (ka kb : Nat) (hka : ka < 8) (hkb : kb < 8) (x : Int) (t : ByteArray) (h : RS B g w0 W prg room fuel s vs vp vg vt) :
    Calls Try.prog 32 #[.pointer (some ⟨g, 0, none⟩), .agg #[.int .i64 3, .int .i64 (ka : Int), .int .i64 (kb : Int), .int .i64 c, .int .i64 d], .int .i64 x, .string t] W fun e w' => e = .returned (.tuple #[.int .i64 0, .bool false]) ∧ RS B g w0 w' prg room fuel { s with regs := s.regs.set ka (s.regs.getD kb 0) } vs vp vg vt := by
  have H := Lib.hid h
  have H1 := Lib.hid (h.alloc (.cells #[.int .i64 3, .int .i64 (ka : Int), .int .i64 (kb : Int), .int .i64 c, .int .i64 d] 40))
  have hlt := h.lt
  have hb7 := and_small ka hka
  have c1 := H1.out.cells.reg ka hka
  have c2 := H1.out.cells.reg kb hkb
  have f1 := H1.out.cells.fr (10 + ka)
  obtain ⟨r, hr⟩ : ∃ r, r = s.regs.getD kb 0 := ⟨_, rfl⟩
  rw [← hr] at c2 ⊢
  clear hr
  clear h
  go_enter Try.func32, Try.ntmps32
  go_wp2_with fail
  go_quiet (fail)
  go_wp2_with fail
  go_region
  go_wp2_with fail
  go_returns
  exact ⟨by first | rfl | simp, (H1.out.drewN _).setReg ka hka r⟩
set_option maxRecDepth 100000 in
set_option maxHeartbeats 4000000 in
theorem do_9 (B g : Nat) (w0 W : World) (prg : List Value) (room fuel : Int) (s : St) (vs vp vg vt : Value) (b c d : Int) (ka : Nat) (hka2 : ka < 2) (x : Int) (t : ByteArray) (h : RS B g w0 W prg room fuel s vs vp vg vt) :
    Calls Try.prog 32 #[.pointer (some ⟨g, 0, none⟩), .agg #[.int .i64 9, .int .i64 (ka : Int), .int .i64 b, .int .i64 c, .int .i64 d], .int .i64 x, .string t] W fun e w' => e = .returned (.tuple #[.int .i64 0, .bool false]) ∧ RS B g w0 w' prg room fuel { s with marks := s.marks.set ka s.here } vs vp vg vt := by
  have H := Lib.hid h
  have H1 := Lib.hid (h.alloc (.cells #[.int .i64 9, .int .i64 (ka : Int), .int .i64 b, .int .i64 c, .int .i64 d] 40))
  have hlt := h.lt
  have hka : ka < 8 := by omega
  have hb7 := and_small ka hka
  have c1 := H1.out.cells.mark ka hka2
  have c2 := H1.out.cells.here
  have f1 := H1.out.cells.fr (18 + ka)
  clear h
  go_enter Try.func32, Try.ntmps32
  go_wp2_with fail
  go_quiet (fail)
  go_wp2_with fail
  go_region
  go_wp2_with fail
  go_returns
  exact ⟨by first | rfl | simp, (H1.out.drewN _).setMark ka hka2 s.here⟩
set_option maxRecDepth 100000 in
set_option maxHeartbeats 4000000 in
theorem do_10 (B g : Nat) (w0 W : World) (prg : List Value) (room fuel : Int) (s : St) (vs vp vg vt : Value) (b c d : Int) (ka : Nat) (hka2 : ka < 2) (x : Int) (t : ByteArray) (h : RS B g w0 W prg room fuel s vs vp vg vt) :
    Calls Try.prog 32 #[.pointer (some ⟨g, 0, none⟩), .agg #[.int .i64 10, .int .i64 (ka : Int), .int .i64 b, .int .i64 c, .int .i64 d], .int .i64 x, .string t] W fun e w' => e = .returned (.tuple #[.int .i64 0, .bool false]) ∧ RS B g w0 w' prg room fuel { s with here := s.marks.getD ka 0 } vs vp vg vt := by
  have H := Lib.hid h
  have H1 := Lib.hid (h.alloc (.cells #[.int .i64 10, .int .i64 (ka : Int), .int .i64 b, .int .i64 c, .int .i64 d] 40))
  have hlt := h.lt
  have hka : ka < 8 := by omega
  have hb7 := and_small ka hka
  have c1 := H1.out.cells.mark ka hka2
  have c2 := H1.out.cells.here
  have f1 := H1.out.cells.fr 21
  obtain ⟨r, hr⟩ : ∃ r, r = s.marks.getD ka 0 := ⟨_, rfl⟩
  rw [← hr] at c1 ⊢
  clear hr
  clear h
  go_enter Try.func32, Try.ntmps32
  go_wp2_with fail
  go_quiet (fail)
  go_wp2_with fail
  go_region
  go_wp2_with fail
  go_returns
  exact ⟨by first | rfl | simp, (H1.out.drewN _).setHere r⟩
set_option maxRecDepth 100000 in
set_option maxHeartbeats 4000000 in
theorem do_11_yes (B g : Nat) (w0 W : World) (prg : List Value) (room fuel : Int) (s : St) (vs vp vg vt : Value) (b c d : Int) (ka : Nat) (hka2 : ka < 2) (x : Int) (t : ByteArray) (h : RS B g w0 W prg room fuel s vs vp vg vt) (hc : s.here = s.marks.getD ka 0) :
    Calls Try.prog 32 #[.pointer (some ⟨g, 0, none⟩), .agg #[.int .i64 11, .int .i64 (ka : Int), .int .i64 b, .int .i64 c, .int .i64 d], .int .i64 x, .string t] W fun e w' => e = .returned (.tuple #[.int .i64 0, .bool false]) ∧ RS B g w0 w' prg room fuel { s with pc := c } vs vp vg vt := by
  have H := Lib.hid h
  have H1 := Lib.hid (h.alloc (.cells #[.int .i64 11, .int .i64 (ka : Int), .int .i64 b, .int .i64 c, .int .i64 d] 40))
  have hlt := h.lt
  have hka : ka < 8 := by omega
  have hb7 := and_small ka hka
  have c1 := H1.out.cells.mark ka hka2
  have c2 := H1.out.cells.here
  have c3 := H1.out.cells.pc
  have f1 := H1.out.cells.fr 25
  obtain ⟨r, hr⟩ : ∃ r, r = s.marks.getD ka 0 := ⟨_, rfl⟩
  obtain ⟨q, hq⟩ : ∃ q, q = s.here := ⟨_, rfl⟩
  rw [← hr] at c1 hc
  rw [← hq] at c2 hc
  have e1 : ((q : Int) == (r : Int)) = true := by simp; omega
  have e2 : (q == r) = true := by simp; omega
  clear hc hr hq
  clear h
  go_enter Try.func32, Try.ntmps32
  go_wp2_with fail
  go_quiet (fail)
  go_wp2_with fail
  go_quiet (fail)
  go_wp2_with fail
  go_returns
  exact ⟨by first | rfl | simp, (H1.out.drewN _).setPc c⟩
set_option maxRecDepth 100000 in
set_option maxHeartbeats 4000000 in
theorem do_11_no (B g : Nat) (w0 W : World) (prg : List Value) (room fuel : Int) (s : St) (vs vp vg vt : Value) (b c d : Int) (ka : Nat) (hka2 : ka < 2) (x : Int) (t : ByteArray) (h : RS B g w0 W prg room fuel s vs vp vg vt) (hc : ¬ s.here = s.marks.getD ka 0) :
    Calls Try.prog 32 #[.pointer (some ⟨g, 0, none⟩), .agg #[.int .i64 11, .int .i64 (ka : Int), .int .i64 b, .int .i64 c, .int .i64 d], .int .i64 x, .string t] W fun e w' => e = .returned (.tuple #[.int .i64 0, .bool false]) ∧ RS B g w0 w' prg room fuel s vs vp vg vt := by
  have H := Lib.hid h
  have H1 := Lib.hid (h.alloc (.cells #[.int .i64 11, .int .i64 (ka : Int), .int .i64 b, .int .i64 c, .int .i64 d] 40))
  have hlt := h.lt
  have hka : ka < 8 := by omega
  have hb7 := and_small ka hka
  have c1 := H1.out.cells.mark ka hka2
  have c2 := H1.out.cells.here
  have c3 := H1.out.cells.pc
  have f1 := H1.out.cells.fr 25
  obtain ⟨r, hr⟩ : ∃ r, r = s.marks.getD ka 0 := ⟨_, rfl⟩
  obtain ⟨q, hq⟩ : ∃ q, q = s.here := ⟨_, rfl⟩
  rw [← hr] at c1 hc
  rw [← hq] at c2 hc
  have e1 : ((q : Int) == (r : Int)) = false := by simp; omega
  have e2 : (q == r) = false := by simp; omega
  clear hc hr hq
  clear h
  go_enter Try.func32, Try.ntmps32
  go_wp2_with fail
  go_quiet (fail)
  go_wp2_with fail
  go_quiet (fail)
  go_wp2_with fail
  go_returns
  exact ⟨by first | rfl | simp, (H1.out.drewN _).drewN _⟩
end Go.Proofs.Ytgejpggbmgiocaa
