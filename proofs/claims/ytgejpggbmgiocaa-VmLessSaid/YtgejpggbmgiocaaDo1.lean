/- What is done once it is paid: numbers and jumps. -/
import Derived.Test.YtgejpggbmgiocaaSmall
import Derived.BigRegion
import Derived.Deep.RegionLaw
import Derived.Deep.Cut
namespace Go.Proofs.Ytgejpggbmgiocaa
open Go.RowKit
theorem and_seven (a : Int) : ∃ k : Nat, k < 8 ∧ bits BinOp.and IntKind.i64 a 7 = (k : Int) := by
  have h : bits BinOp.and IntKind.i64 a 7 = IntKind.i64.wrap ((BitVec.ofInt 64 a &&& BitVec.ofInt 64 7).toNat : Int) := rfl
  have h2 : (BitVec.ofInt 64 a &&& BitVec.ofInt 64 7).toNat ≤ 7 := by
    rw [BitVec.toNat_and]
    exact Nat.and_le_right
  refine ⟨_, Nat.lt_succ_of_le h2, ?_⟩
  rw [h]
  generalize (BitVec.ofInt 64 a &&& BitVec.ofInt 64 7).toNat = k at h2
  rcases (by omega : k = 0 ∨ k = 1 ∨ k = 2 ∨ k = 3 ∨ k = 4 ∨ k = 5 ∨ k = 6 ∨ k = 7) with rfl | rfl | rfl | rfl | rfl | rfl | rfl | rfl <;> rfl
theorem and_small (k : Nat) (h : k < 8) : bits BinOp.and IntKind.i64 (k : Int) 7 = (k : Int) := by
  rcases (by omega : k = 0 ∨ k = 1 ∨ k = 2 ∨ k = 3 ∨ k = 4 ∨ k = 5 ∨ k = 6 ∨ k = 7) with rfl | rfl | rfl | rfl | rfl | rfl | rfl | rfl <;> rfl
set_option maxRecDepth 100000 in
set_option maxHeartbeats 4000000 in
theorem do_1 (B g : Nat) (w0 W : World) (prg : List Value) (room fuel : Int) (s : St) (vs vp vg vt : Value) (a b c d : Int) (x : Int) (t : ByteArray) (h : RS B g w0 W prg room fuel s vs vp vg vt) :
    Calls Try.prog 32 #[.pointer (some ⟨g, 0, none⟩), .agg #[.int .i64 1, .int .i64 a, .int .i64 b, .int .i64 c, .int .i64 d], .int .i64 x, .string t] W fun e w' => e = .returned (.tuple #[.int .i64 0, .bool true]) ∧ RS B g w0 w' prg room fuel s vs vp vg vt := by
  have H := Lib.hid h
  have H1 := Lib.hid (h.alloc (.cells #[.int .i64 1, .int .i64 a, .int .i64 b, .int .i64 c, .int .i64 d] 40))
  have hlt := h.lt
  obtain ⟨k7, hk7, hb7⟩ := and_seven a
  clear h
  go_enter Try.func32, Try.ntmps32
  go_wp2_with fail
  go_quiet (fail)
  go_wp2_with fail
  go_returns
  exact ⟨by first | rfl | simp, H1.out.drewN _⟩
set_option maxRecDepth 100000 in
set_option maxHeartbeats 4000000 in
theorem do_2 (B g : Nat) (w0 W : World) (prg : List Value) (room fuel : Int) (s : St) (vs vp vg vt : Value) (b c d : Int) (ka : Nat) (hka : ka < 8) (x : Int) (t : ByteArray) (h : RS B g w0 W prg room fuel s vs vp vg vt) :
    Calls Try.prog 32 #[.pointer (some ⟨g, 0, none⟩), .agg #[.int .i64 2, .int .i64 (ka : Int), .int .i64 b, .int .i64 c, .int .i64 d], .int .i64 x, .string t] W fun e w' => e = .returned (.tuple #[.int .i64 0, .bool false]) ∧ RS B g w0 w' prg room fuel { s with regs := s.regs.set ka b } vs vp vg vt := by
  have H := Lib.hid h
  have H1 := Lib.hid (h.alloc (.cells #[.int .i64 2, .int .i64 (ka : Int), .int .i64 b, .int .i64 c, .int .i64 d] 40))
  have hlt := h.lt
  have hb7 := and_small ka hka
  have c1 := H1.out.cells.reg ka hka
  have f1 := H1.out.cells.fr (10 + ka)
  clear h
  go_enter Try.func32, Try.ntmps32
  go_wp2_with fail
  go_quiet (fail)
  go_wp2_with fail
  go_returns
  exact ⟨by first | rfl | simp, (H1.out.drewN _).setReg ka hka b⟩
set_option maxRecDepth 100000 in
set_option maxHeartbeats 4000000 in
theorem do_4 (B g : Nat) (w0 W : World) (prg : List Value) (room fuel : Int) (s : St) (vs vp vg vt : Value) (a b c d : Int) (x : Int) (t : ByteArray) (h : RS B g w0 W prg room fuel s vs vp vg vt) :
    Calls Try.prog 32 #[.pointer (some ⟨g, 0, none⟩), .agg #[.int .i64 4, .int .i64 a, .int .i64 b, .int .i64 c, .int .i64 d], .int .i64 x, .string t] W fun e w' => e = .returned (.tuple #[.int .i64 0, .bool false]) ∧ RS B g w0 w' prg room fuel { s with pc := c } vs vp vg vt := by
  have H := Lib.hid h
  have H1 := Lib.hid (h.alloc (.cells #[.int .i64 4, .int .i64 a, .int .i64 b, .int .i64 c, .int .i64 d] 40))
  have hlt := h.lt
  obtain ⟨k7, hk7, hb7⟩ := and_seven a
  have c1 := H1.out.cells.pc
  have f1 := H1.out.cells.fr 25
  clear h
  go_enter Try.func32, Try.ntmps32
  go_wp2_with fail
  go_quiet (fail)
  go_wp2_with fail
  go_returns
  exact ⟨by first | rfl | simp, (H1.out.drewN _).setPc c⟩
set_option maxRecDepth 100000 in
set_option maxHeartbeats 4000000 in
theorem do_5_yes (B g : Nat) (w0 W : World) (prg : List Value) (room fuel : Int) (s : St) (vs vp vg vt : Value) (b c d : Int) (ka : Nat) (hka : ka < 8) (x : Int) (t : ByteArray) (h : RS B g w0 W prg room fuel s vs vp vg vt) (hc : s.regs.getD ka 0 = b) :
    Calls Try.prog 32 #[.pointer (some ⟨g, 0, none⟩), .agg #[.int .i64 5, .int .i64 (ka : Int), .int .i64 b, .int .i64 c, .int .i64 d], .int .i64 x, .string t] W fun e w' => e = .returned (.tuple #[.int .i64 0, .bool false]) ∧ RS B g w0 w' prg room fuel { s with pc := c } vs vp vg vt := by
  have H := Lib.hid h
  have H1 := Lib.hid (h.alloc (.cells #[.int .i64 5, .int .i64 (ka : Int), .int .i64 b, .int .i64 c, .int .i64 d] 40))
  have hlt := h.lt
  have hb7 := and_small ka hka
  have c1 := H1.out.cells.reg ka hka
  have c2 := H1.out.cells.pc
  have f1 := H1.out.cells.fr 25
  obtain ⟨r, hr⟩ : ∃ r, r = s.regs.getD ka 0 := ⟨_, rfl⟩
  rw [← hr] at c1 hc
  have e1 : (r == b) = true := by simpa using hc
  clear hc hr
  clear h
  go_enter Try.func32, Try.ntmps32
  go_wp2_with fail
  go_quiet (fail)
  go_wp2_with fail
  go_quiet (fail)
  go_wp2_with fail
  go_returns
  exact ⟨by first | rfl | simp, (H1.out.drewN _).setPc c⟩
set_option maxRecDepth 100000 in
set_option maxHeartbeats 4000000 in
theorem do_5_no (B g : Nat) (w0 W : World) (prg : List Value) (room fuel : Int) (s : St) (vs vp vg vt : Value) (b c d : Int) (ka : Nat) (hka : ka < 8) (x : Int) (t : ByteArray) (h : RS B g w0 W prg room fuel s vs vp vg vt) (hc : ¬ s.regs.getD ka 0 = b) :
    Calls Try.prog 32 #[.pointer (some ⟨g, 0, none⟩), .agg #[.int .i64 5, .int .i64 (ka : Int), .int .i64 b, .int .i64 c, .int .i64 d], .int .i64 x, .string t] W fun e w' => e = .returned (.tuple #[.int .i64 0, .bool false]) ∧ RS B g w0 w' prg room fuel s vs vp vg vt := by
  have H := Lib.hid h
  have H1 := Lib.hid (h.alloc (.cells #[.int .i64 5, .int .i64 (ka : Int), .int .i64 b, .int .i64 c, .int .i64 d] 40))
  have hlt := h.lt
  have hb7 := and_small ka hka
  have c1 := H1.out.cells.reg ka hka
  have c2 := H1.out.cells.pc
  have f1 := H1.out.cells.fr 25
  obtain ⟨r, hr⟩ : ∃ r, r = s.regs.getD ka 0 := ⟨_, rfl⟩
  rw [← hr] at c1 hc
  have e1 : (r == b) = false := by simpa using hc
  clear hc hr
  clear h
  go_enter Try.func32, Try.ntmps32
  go_wp2_with fail
  go_quiet (fail)
  go_wp2_with fail
  go_quiet (fail)
  go_wp2_with fail
  go_returns
  exact ⟨by first | rfl | simp, (H1.out.drewN _).drewN _⟩
set_option maxRecDepth 100000 in
set_option maxHeartbeats 4000000 in
theorem do_6_yes (B g : Nat) (w0 W : World) (prg : List Value) (room fuel : Int) (s : St) (vs vp vg vt : Value) (b c d : Int) (ka : Nat) (hka : ka < 8) (x : Int) (t : ByteArray) (h : RS B g w0 W prg room fuel s vs vp vg vt) (hc : s.regs.getD ka 0 < b) :
    Calls Try.prog 32 #[.pointer (some ⟨g, 0, none⟩), .agg #[.int .i64 6, .int .i64 (ka : Int), .int .i64 b, .int .i64 c, .int .i64 d], .int .i64 x, .string t] W fun e w' => e = .returned (.tuple #[.int .i64 0, .bool false]) ∧ RS B g w0 w' prg room fuel { s with pc := c } vs vp vg vt := by
  have H := Lib.hid h
  have H1 := Lib.hid (h.alloc (.cells #[.int .i64 6, .int .i64 (ka : Int), .int .i64 b, .int .i64 c, .int .i64 d] 40))
  have hlt := h.lt
  have hb7 := and_small ka hka
  have c1 := H1.out.cells.reg ka hka
  have c2 := H1.out.cells.pc
  have f1 := H1.out.cells.fr 25
  obtain ⟨r, hr⟩ : ∃ r, r = s.regs.getD ka 0 := ⟨_, rfl⟩
  rw [← hr] at c1 hc
  have e1 : decide (r < b) = true := by simpa using hc
  clear hc hr
  clear h
  go_enter Try.func32, Try.ntmps32
  go_wp2_with fail
  go_quiet (fail)
  go_wp2_with fail
  go_quiet (fail)
  go_wp2_with fail
  go_returns
  exact ⟨by first | rfl | simp, (H1.out.drewN _).setPc c⟩
set_option maxRecDepth 100000 in
set_option maxHeartbeats 4000000 in
theorem do_6_no (B g : Nat) (w0 W : World) (prg : List Value) (room fuel : Int) (s : St) (vs vp vg vt : Value) (b c d : Int) (ka : Nat) (hka : ka < 8) (x : Int) (t : ByteArray) (h : RS B g w0 W prg room fuel s vs vp vg vt) (hc : ¬ s.regs.getD ka 0 < b) :
    Calls Try.prog 32 #[.pointer (some ⟨g, 0, none⟩), .agg #[.int .i64 6, .int .i64 (ka : Int), .int .i64 b, .int .i64 c, .int .i64 d], .int .i64 x, .string t] W fun e w' => e = .returned (.tuple #[.int .i64 0, .bool false]) ∧ RS B g w0 w' prg room fuel s vs vp vg vt := by
  have H := Lib.hid h
  have H1 := Lib.hid (h.alloc (.cells #[.int .i64 6, .int .i64 (ka : Int), .int .i64 b, .int .i64 c, .int .i64 d] 40))
  have hlt := h.lt
  have hb7 := and_small ka hka
  have c1 := H1.out.cells.reg ka hka
  have c2 := H1.out.cells.pc
  have f1 := H1.out.cells.fr 25
  obtain ⟨r, hr⟩ : ∃ r, r = s.regs.getD ka 0 := ⟨_, rfl⟩
  rw [← hr] at c1 hc
  have e1 : decide (r < b) = false := by simpa using hc
  clear hc hr
  clear h
  go_enter Try.func32, Try.ntmps32
  go_wp2_with fail
  go_quiet (fail)
  go_wp2_with fail
  go_quiet (fail)
  go_wp2_with fail
  go_returns
  exact ⟨by first | rfl | simp, (H1.out.drewN _).drewN _⟩
set_option maxRecDepth 100000 in
set_option maxHeartbeats 4000000 in
theorem do_7_end (B g : Nat) (w0 W : World) (prg : List Value) (room fuel : Int) (s : St) (vs vp vg vt : Value) (b c d : Int) (ka : Nat) (hka : ka < 8) (x : Int) (t : ByteArray) (h : RS B g w0 W prg room fuel s vs vp vg vt) (hc : s.src.length ≤ s.here) :
    Calls Try.prog 32 #[.pointer (some ⟨g, 0, none⟩), .agg #[.int .i64 7, .int .i64 (ka : Int), .int .i64 b, .int .i64 c, .int .i64 d], .int .i64 x, .string t] W fun e w' => e = .returned (.tuple #[.int .i64 0, .bool false]) ∧ RS B g w0 w' prg room fuel { s with pc := c } vs vp vg vt := by
  have H := Lib.hid h
  have H1 := Lib.hid (h.alloc (.cells #[.int .i64 7, .int .i64 (ka : Int), .int .i64 b, .int .i64 c, .int .i64 d] 40))
  have hlt := h.lt
  have hb7 := and_small ka hka
  have c1 := H1.out.cells.here
  have c2 := H1.out.cells.vs
  have c3 := H1.out.cells.pc
  have f1 := H1.out.cells.fr 25
  obtain ⟨A, cp, hvs⟩ := H1.out.src.sl
  rw [hvs] at c2
  have e1 : decide ((s.src.length : Int) ≤ (s.here : Int)) = true := by simp; omega
  clear hvs
  clear h
  go_enter Try.func32, Try.ntmps32
  go_wp2_with fail
  go_quiet (fail)
  go_wp2_with fail
  go_quiet (fail)
  go_wp2_with fail
  go_returns
  exact ⟨by first | rfl | simp, (H1.out.drewN _).setPc c⟩
set_option maxRecDepth 100000 in
set_option maxHeartbeats 4000000 in
theorem do_7_more (B g : Nat) (w0 W : World) (prg : List Value) (room fuel : Int) (s : St) (vs vp vg vt : Value) (b c d : Int) (ka : Nat) (hka : ka < 8) (x : Int) (t : ByteArray) (h : RS B g w0 W prg room fuel s vs vp vg vt) (hc : s.here < s.src.length) (hle : s.src.length ≤ 140737488355328) :
    Calls Try.prog 32 #[.pointer (some ⟨g, 0, none⟩), .agg #[.int .i64 7, .int .i64 (ka : Int), .int .i64 b, .int .i64 c, .int .i64 d], .int .i64 x, .string t] W fun e w' => e = .returned (.tuple #[.int .i64 0, .bool false]) ∧ RS B g w0 w' prg room fuel { s with regs := s.regs.set ka (s.src.getD s.here 0).toNat, here := s.here + 1 } vs vp vg vt := by
  have H := Lib.hid h
  have H1 := Lib.hid (h.alloc (.cells #[.int .i64 7, .int .i64 (ka : Int), .int .i64 b, .int .i64 c, .int .i64 d] 40))
  have hlt := h.lt
  have hb7 := and_small ka hka
  have c1 := H1.out.cells.here
  have c2 := H1.out.cells.vs
  have c3 := H1.out.cells.reg ka hka
  have f1 := H1.out.cells.fr (10 + ka)
  have f2 := H1.out.cells.fr 21
  obtain ⟨bs, ⟨cp, hvs⟩, c4⟩ := H1.out.src.cell s.here hc
  rw [hvs] at c2
  obtain ⟨y, hy⟩ : ∃ y, y = (s.src.getD s.here 0).toNat := ⟨_, rfl⟩
  have hyl : y < 256 := by rw [hy]; exact (s.src.getD s.here 0).toNat_lt
  obtain ⟨n, hn⟩ : ∃ n, n = s.src.length := ⟨_, rfl⟩
  obtain ⟨hh, hhe⟩ : ∃ hh, hh = s.here := ⟨_, rfl⟩
  rw [← hy] at c4
  rw [← hn] at c2 hc hle
  rw [← hhe] at c1 c4 hc
  have e1 : decide ((n : Int) ≤ (hh : Int)) = false := by simp; omega
  have hi : (hh : Int) < (n : Int) := by omega
  have HY := Lib.hid (And.intro hy (And.intro hn hhe))
  clear hvs hy hn hhe
  clear h
  go_enter Try.func32, Try.ntmps32
  go_wp2_with fail
  go_quiet (fail)
  go_wp2_with fail
  go_quiet (fail)
  go_wp2_with fail
  go_region
  go_wp2_with fail
  go_returns
  refine ⟨by first | rfl | simp, ?_⟩
  rw [← HY.out.1, ← HY.out.2.2]
  exact ((H1.out.drewN _).setReg ka hka (y : Int)).setHere (hh + 1)
end Go.Proofs.Ytgejpggbmgiocaa
