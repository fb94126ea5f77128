/- Small, Do1 of this seat, in one text. -/
import Derived.Test.YtgejpggbmgiocaaM5
import Derived.BigRegion
import Derived.Deep.RegionLaw
import Derived.Deep.Cut
/- The machine's small functions. -/
namespace Go.Proofs.Ytgejpggbmgiocaa
open Go.RowKit

theorem reg_any (g : Nat) (x : Int) (w : World) : Calls Try.prog 41 #[.pointer (some ⟨g, 0, none⟩), .int .i64 x] w fun e w' => e = .returned (.bool (isReg x)) ∧ w' = w := by
  unfold isReg
  by_cases h1 : 0 ≤ x
  · by_cases h2 : x < 8
    · go_enter Try.func41, Try.ntmps41
      go_wp2_with fail
      go_returns
      exact ⟨by simp [h1, h2], rfl⟩
    · go_enter Try.func41, Try.ntmps41
      go_wp2_with fail
      go_returns
      exact ⟨by simp; omega, rfl⟩
  · go_enter Try.func41, Try.ntmps41
    go_wp2_with fail
    go_returns
    exact ⟨by simp; omega, rfl⟩
theorem isByte_any (x : Int) (w : World) : Calls Try.prog 29 #[.int .i64 x] w fun e w' => e = .returned (.bool (isB x)) ∧ w' = w := by
  unfold isB
  by_cases h1 : 0 ≤ x
  · by_cases h2 : x < 256
    · go_enter Try.func29, Try.ntmps29
      go_wp2_with fail
      go_returns
      exact ⟨by simp [h1, h2], rfl⟩
    · go_enter Try.func29, Try.ntmps29
      go_wp2_with fail
      go_returns
      exact ⟨by simp; omega, rfl⟩
  · go_enter Try.func29, Try.ntmps29
    go_wp2_with fail
    go_returns
    exact ⟨by simp; omega, rfl⟩
def boundF (x : Int) : Int := if x < 0 then 0 else if 1048576 < x then 1048576 else x
theorem bound_any (x : Int) (w : World) : Calls Try.prog 19 #[.int .i64 x] w fun e w' => e = .returned (.int .i64 (boundF x)) ∧ w' = w := by
  unfold boundF
  by_cases h1 : x < 0
  · go_enter Try.func19, Try.ntmps19
    go_wp2_with fail
    go_returns
    exact ⟨by simp [*] <;> omega, rfl⟩
  · by_cases h2 : 1048576 < x
    · go_enter Try.func19, Try.ntmps19
      go_wp2_with fail
      go_returns
      exact ⟨by simp [*] <;> omega, rfl⟩
    · go_enter Try.func19, Try.ntmps19
      go_wp2_with fail
      go_returns
      exact ⟨by simp [*] <;> omega, rfl⟩
set_option maxRecDepth 100000 in
set_option maxHeartbeats 4000000 in
theorem pay_no (B g : Nat) (w0 W : World) (prg : List Value) (room fuel : Int) (s : St) (vs vp vg vt : Value) (c : Nat) (h : RS B g w0 W prg room fuel s vs vp vg vt) (hu : (s.used : Int) ≤ fuel) (hf : fuel ≤ 35184372088832) (hlt : fuel - (s.used : Int) < (c : Int)) :
    Calls Try.prog 31 #[.pointer (some ⟨g, 0, none⟩), .int .i64 (c : Int)] W fun e w' => e = .returned (.bool false) ∧ Below W.heap.size W w' := by
  have q1 := h.cells.fuel
  have q2 := h.cells.used
  have e1 : decide (fuel - (s.used : Int) < (c : Int)) = true := by simp; omega
  clear h
  go_enter Try.func31, Try.ntmps31
  go_wp2_with fail
  go_quiet (fail)
  go_wp2_with fail
  go_returns
  exact ⟨by first | rfl | simp, below_drewN (Below.refl _ _) _⟩
set_option maxRecDepth 100000 in
set_option maxHeartbeats 4000000 in
theorem pay_yes (B g : Nat) (w0 W : World) (prg : List Value) (room fuel : Int) (s : St) (vs vp vg vt : Value) (c : Nat) (h : RS B g w0 W prg room fuel s vs vp vg vt) (hu : (s.used : Int) ≤ fuel) (hf : fuel ≤ 35184372088832) (hlt : ¬ fuel - (s.used : Int) < (c : Int)) :
    Calls Try.prog 31 #[.pointer (some ⟨g, 0, none⟩), .int .i64 (c : Int)] W fun e w' => e = .returned (.bool true) ∧ RS B g w0 w' prg room fuel { s with used := s.used + c } vs vp vg vt ∧ ∀ b, b ≠ g → w'.heap[b]? = W.heap[b]? := by
  have H := Lib.hid h
  have q1 := h.cells.fuel
  have q2 := h.cells.used
  have q3 := h.cells.fr 28
  have e1 : decide (fuel - (s.used : Int) < (c : Int)) = false := by simp; omega
  obtain ⟨u, hu2⟩ : ∃ u, u = s.used := ⟨_, rfl⟩
  rw [← hu2] at q2 hu e1 hlt ⊢
  have HU := Lib.hid hu2
  clear h hu2
  go_enter Try.func31, Try.ntmps31
  go_wp2_with fail
  go_quiet (fail)
  go_wp2_with fail
  go_returns
  have hx := (H.out.drewN nq).setUsed (u + c)
  exact ⟨by first | rfl | simp, by simpa using hx, fun b hb => Below.heap_setCell _ _ _ b hb⟩
set_option maxRecDepth 100000 in
set_option maxHeartbeats 4000000 in
theorem fits_any (g : Nat) (i : Ins) (W : World) : Calls Try.prog 27 #[.pointer (some ⟨g, 0, none⟩), .agg #[.int .i64 i.op, .int .i64 i.a, .int .i64 i.b, .int .i64 i.c, .int .i64 i.d]] W fun e w' => e = .returned (.bool (fitsF i)) ∧ Below W.heap.size W w' := by
  obtain ⟨op, a, b, c, d⟩ := i
  have hb : Below W.heap.size W (W.alloc (.cells #[.int .i64 op, .int .i64 a, .int .i64 b, .int .i64 c, .int .i64 d] 40)) := (Below.refl _ _).alloc (Nat.le_refl _) _
  have HB := Lib.hid hb
  have HRA := Lib.hid (fun w => reg_any g a w)
  have HRB := Lib.hid (fun w => reg_any g b w)
  clear hb
  have hcase : op = 1 ∨ op = 2 ∨ op = 3 ∨ op = 4 ∨ op = 5 ∨ op = 6 ∨ op = 7 ∨ op = 8 ∨ op = 9 ∨ op = 10 ∨ op = 11 ∨ op = 12 ∨ op = 13 ∨ op = 14 ∨ op = 15 ∨ op = 16 ∨ op = 17 ∨ (op ≠ 1 ∧ op ≠ 2 ∧ op ≠ 3 ∧ op ≠ 4 ∧ op ≠ 5 ∧ op ≠ 6 ∧ op ≠ 7 ∧ op ≠ 8 ∧ op ≠ 9 ∧ op ≠ 10 ∧ op ≠ 11 ∧ op ≠ 12 ∧ op ≠ 13 ∧ op ≠ 14 ∧ op ≠ 15 ∧ op ≠ 16 ∧ op ≠ 17) := by omega
  simp only
  rcases hcase with rfl | rfl | rfl | rfl | rfl | rfl | rfl | rfl | rfl | rfl | rfl | rfl | rfl | rfl | rfl | rfl | rfl | ⟨h1, h2, h3, h4, h5, h6, h7, h8, h9, h10, h11, h12, h13, h14, h15, h16, h17⟩
  · go_enter Try.func27, Try.ntmps27
    go_wp2_with fail
    go_returns
    exact ⟨rfl, HB.out⟩
  · have hf : fitsF ⟨2, a, b, c, d⟩ = isReg a := rfl
    rw [hf]
    go_enter Try.func27, Try.ntmps27
    go_wp2_with fail
    refine (HRA.out _).mono ?_
    rintro e w' ⟨rfl, rfl⟩
    go_wp2_with fail
    go_returns
    exact ⟨by simp, HB.out⟩
  · have hf : fitsF ⟨3, a, b, c, d⟩ = (isReg b && isReg a) := rfl
    rw [hf]
    cases hb : isReg b with
    | false =>
      rw [hb] at HRB
      go_enter Try.func27, Try.ntmps27
      go_wp2_with fail
      refine (HRB.out _).mono ?_
      rintro e w' ⟨rfl, rfl⟩
      go_wp2_with fail
      go_returns
      exact ⟨rfl, HB.out⟩
    | true =>
      rw [hb] at HRB
      go_enter Try.func27, Try.ntmps27
      go_wp2_with fail
      refine (HRB.out _).mono ?_
      rintro e w' ⟨rfl, rfl⟩
      go_wp2_with fail
      refine (HRA.out _).mono ?_
      rintro e w' ⟨rfl, rfl⟩
      go_wp2_with fail
      go_returns
      exact ⟨by simp, HB.out⟩
  · go_enter Try.func27, Try.ntmps27
    go_wp2_with fail
    go_returns
    exact ⟨rfl, HB.out⟩
  · have hf : fitsF ⟨5, a, b, c, d⟩ = isReg a := rfl
    rw [hf]
    go_enter Try.func27, Try.ntmps27
    go_wp2_with fail
    refine (HRA.out _).mono ?_
    rintro e w' ⟨rfl, rfl⟩
    go_wp2_with fail
    go_returns
    exact ⟨by simp, HB.out⟩
  · have hf : fitsF ⟨6, a, b, c, d⟩ = isReg a := rfl
    rw [hf]
    go_enter Try.func27, Try.ntmps27
    go_wp2_with fail
    refine (HRA.out _).mono ?_
    rintro e w' ⟨rfl, rfl⟩
    go_wp2_with fail
    go_returns
    exact ⟨by simp, HB.out⟩
  · have hf : fitsF ⟨7, a, b, c, d⟩ = isReg a := rfl
    rw [hf]
    go_enter Try.func27, Try.ntmps27
    go_wp2_with fail
    refine (HRA.out _).mono ?_
    rintro e w' ⟨rfl, rfl⟩
    go_wp2_with fail
    go_returns
    exact ⟨by simp, HB.out⟩
  · have hf : fitsF ⟨8, a, b, c, d⟩ = (isReg b && isReg a) := rfl
    rw [hf]
    cases hb : isReg b with
    | false =>
      rw [hb] at HRB
      go_enter Try.func27, Try.ntmps27
      go_wp2_with fail
      refine (HRB.out _).mono ?_
      rintro e w' ⟨rfl, rfl⟩
      go_wp2_with fail
      go_returns
      exact ⟨rfl, HB.out⟩
    | true =>
      rw [hb] at HRB
      go_enter Try.func27, Try.ntmps27
      go_wp2_with fail
      refine (HRB.out _).mono ?_
      rintro e w' ⟨rfl, rfl⟩
      go_wp2_with fail
      refine (HRA.out _).mono ?_
      rintro e w' ⟨rfl, rfl⟩
      go_wp2_with fail
      go_returns
      exact ⟨by simp, HB.out⟩
  · have hf : fitsF ⟨9, a, b, c, d⟩ = decide (0 ≤ a ∧ a < 2) := rfl
    rw [hf]
    by_cases h1 : 0 ≤ a
    · by_cases h2 : a < 2
      · go_enter Try.func27, Try.ntmps27
        go_wp2_with fail
        go_returns
        exact ⟨by simp [h1, h2], HB.out⟩
      · go_enter Try.func27, Try.ntmps27
        go_wp2_with fail
        go_returns
        exact ⟨by simp; omega, HB.out⟩
    · go_enter Try.func27, Try.ntmps27
      go_wp2_with fail
      go_returns
      exact ⟨by simp; omega, HB.out⟩
  · have hf : fitsF ⟨10, a, b, c, d⟩ = decide (0 ≤ a ∧ a < 2) := rfl
    rw [hf]
    by_cases h1 : 0 ≤ a
    · by_cases h2 : a < 2
      · go_enter Try.func27, Try.ntmps27
        go_wp2_with fail
        go_returns
        exact ⟨by simp [h1, h2], HB.out⟩
      · go_enter Try.func27, Try.ntmps27
        go_wp2_with fail
        go_returns
        exact ⟨by simp; omega, HB.out⟩
    · go_enter Try.func27, Try.ntmps27
      go_wp2_with fail
      go_returns
      exact ⟨by simp; omega, HB.out⟩
  · have hf : fitsF ⟨11, a, b, c, d⟩ = decide (0 ≤ a ∧ a < 2) := rfl
    rw [hf]
    by_cases h1 : 0 ≤ a
    · by_cases h2 : a < 2
      · go_enter Try.func27, Try.ntmps27
        go_wp2_with fail
        go_returns
        exact ⟨by simp [h1, h2], HB.out⟩
      · go_enter Try.func27, Try.ntmps27
        go_wp2_with fail
        go_returns
        exact ⟨by simp; omega, HB.out⟩
    · go_enter Try.func27, Try.ntmps27
      go_wp2_with fail
      go_returns
      exact ⟨by simp; omega, HB.out⟩
  · have hf : fitsF ⟨12, a, b, c, d⟩ = isReg a := rfl
    rw [hf]
    go_enter Try.func27, Try.ntmps27
    go_wp2_with fail
    refine (HRA.out _).mono ?_
    rintro e w' ⟨rfl, rfl⟩
    go_wp2_with fail
    go_returns
    exact ⟨by simp, HB.out⟩
  · have hf : fitsF ⟨13, a, b, c, d⟩ = (isReg b && isReg a) := rfl
    rw [hf]
    cases hb : isReg b with
    | false =>
      rw [hb] at HRB
      go_enter Try.func27, Try.ntmps27
      go_wp2_with fail
      refine (HRB.out _).mono ?_
      rintro e w' ⟨rfl, rfl⟩
      go_wp2_with fail
      go_returns
      exact ⟨rfl, HB.out⟩
    | true =>
      rw [hb] at HRB
      go_enter Try.func27, Try.ntmps27
      go_wp2_with fail
      refine (HRB.out _).mono ?_
      rintro e w' ⟨rfl, rfl⟩
      go_wp2_with fail
      refine (HRA.out _).mono ?_
      rintro e w' ⟨rfl, rfl⟩
      go_wp2_with fail
      go_returns
      exact ⟨by simp, HB.out⟩
  · go_enter Try.func27, Try.ntmps27
    go_wp2_with fail
    go_returns
    exact ⟨rfl, HB.out⟩
  · have hf : fitsF ⟨15, a, b, c, d⟩ = isReg a := rfl
    rw [hf]
    go_enter Try.func27, Try.ntmps27
    go_wp2_with fail
    refine (HRA.out _).mono ?_
    rintro e w' ⟨rfl, rfl⟩
    go_wp2_with fail
    go_returns
    exact ⟨by simp, HB.out⟩
  · go_enter Try.func27, Try.ntmps27
    go_wp2_with fail
    go_returns
    exact ⟨rfl, HB.out⟩
  · have hf : fitsF ⟨17, a, b, c, d⟩ = isReg a := rfl
    rw [hf]
    go_enter Try.func27, Try.ntmps27
    go_wp2_with fail
    refine (HRA.out _).mono ?_
    rintro e w' ⟨rfl, rfl⟩
    go_wp2_with fail
    go_returns
    exact ⟨by simp, HB.out⟩
  · have hf : fitsF ⟨op, a, b, c, d⟩ = false := by simp [fitsF, *]
    rw [hf]
    have e1 : (op == 1) = false := by simpa using h1
    have e2 : (op == 2) = false := by simpa using h2
    have e3 : (op == 3) = false := by simpa using h3
    have e4 : (op == 4) = false := by simpa using h4
    have e5 : (op == 5) = false := by simpa using h5
    have e6 : (op == 6) = false := by simpa using h6
    have e7 : (op == 7) = false := by simpa using h7
    have e8 : (op == 8) = false := by simpa using h8
    have e9 : (op == 9) = false := by simpa using h9
    have e10 : (op == 10) = false := by simpa using h10
    have e11 : (op == 11) = false := by simpa using h11
    have e12 : (op == 12) = false := by simpa using h12
    have e13 : (op == 13) = false := by simpa using h13
    have e14 : (op == 14) = false := by simpa using h14
    have e15 : (op == 15) = false := by simpa using h15
    have e16 : (op == 16) = false := by simpa using h16
    have e17 : (op == 17) = false := by simpa using h17
    clear h1 h2 h3 h4 h5 h6 h7 h8 h9 h10 h11 h12 h13 h14 h15 h16 h17
    go_enter Try.func27, Try.ntmps27
    go_wp2_with fail
    go_returns
    exact ⟨rfl, HB.out⟩
end Go.Proofs.Ytgejpggbmgiocaa
/- What is done once it is paid: numbers and jumps. -/
namespace Go.Proofs.Ytgejpggbmgiocaa
open Go.RowKit
theorem and_seven (a : Int) : ∃ k : Nat, k < 8 ∧ bits BinOp.and IntKind.i64 a 7 = (k : Int) := by
  have h : bits BinOp.and IntKind.i64 a 7 = IntKind.i64.wrap ((BitVec.ofInt 64 a &&& BitVec.ofInt 64 7).toNat : Int) := rfl
  have h2 : (BitVec.ofInt 64 a &&& BitVec.ofInt 64 7).toNat ≤ 7 := by
    rw [BitVec.toNat_and]
    exact Nat.and_le_right
  refine ⟨_, Nat.lt_succ_of_le h2, ?_⟩
  rw [h]
  generalize (BitVec.ofInt 64 a &&& BitVec.ofInt 64 7).toNat = k at h2
  rcases (by omega : k = 0 ∨ k = 1 ∨ k = 2 ∨ k = 3 ∨ k = 4 ∨ k = 5 ∨ k = 6 ∨ k = 7) with rfl | rfl | rfl | rfl | rfl | rfl | rfl | rfl <;> rfl
theorem and_small (k : Nat) (h : k < 8) : bits BinOp.and IntKind.i64 (k : Int) 7 = (k : Int) := by
  rcases (by omega : k = 0 ∨ k = 1 ∨ k = 2 ∨ k = 3 ∨ k = 4 ∨ k = 5 ∨ k = 6 ∨ k = 7) with rfl | rfl | rfl | rfl | rfl | rfl | rfl | rfl <;> rfl
set_option maxRecDepth 100000 in
set_option maxHeartbeats 4000000 in
theorem do_1 (B g : Nat) (w0 W : World) (prg : List Value) (room fuel : Int) (s : St) (vs vp vg vt : Value) (a b c d : Int) (x : Int) (t : ByteArray) (h : RS B g w0 W prg room fuel s vs vp vg vt) :
    Calls Try.prog 32 #[.pointer (some ⟨g, 0, none⟩), .agg #[.int .i64 1, .int .i64 a, .int .i64 b, .int .i64 c, .int .i64 d], .int .i64 x, .string t] W fun e w' => e = .returned (.tuple #[.int .i64 0, .bool true]) ∧ RS B g w0 w' prg room fuel s vs vp vg vt := by
  have H := Lib.hid h
  have H1 := Lib.hid (h.alloc (.cells #[.int .i64 1, .int .i64 a, .int .i64 b, .int .i64 c, .int .i64 d] 40))
  have hlt := h.lt
  obtain ⟨k7, hk7, hb7⟩ := and_seven a
  clear h
  go_enter Try.func32, Try.ntmps32
  go_wp2_with fail
  go_quiet (fail)
  go_wp2_with fail
  go_returns
  exact ⟨by first | rfl | simp, H1.out.drewN _⟩
set_option maxRecDepth 100000 in
set_option maxHeartbeats 4000000 in
theorem do_2 (B g : Nat) (w0 W : World) (prg : List Value) (room fuel : Int) (s : St) (vs vp vg vt : Value) (b c d : Int) (ka : Nat) (hka : ka < 8) (x : Int) (t : ByteArray) (h : RS B g w0 W prg room fuel s vs vp vg vt) :
    Calls Try.prog 32 #[.pointer (some ⟨g, 0, none⟩), .agg #[.int .i64 2, .int .i64 (ka : Int), .int .i64 b, .int .i64 c, .int .i64 d], .int .i64 x, .string t] W fun e w' => e = .returned (.tuple #[.int .i64 0, .bool false]) ∧ RS B g w0 w' prg room fuel { s with regs := s.regs.set ka b } vs vp vg vt := by
  have H := Lib.hid h
  have H1 := Lib.hid (h.alloc (.cells #[.int .i64 2, .int .i64 (ka : Int), .int .i64 b, .int .i64 c, .int .i64 d] 40))
  have hlt := h.lt
  have hb7 := and_small ka hka
  have c1 := H1.out.cells.reg ka hka
  have f1 := H1.out.cells.fr (10 + ka)
  clear h
  go_enter Try.func32, Try.ntmps32
  go_wp2_with fail
  go_quiet (fail)
  go_wp2_with fail
  go_returns
  exact ⟨by first | rfl | simp, (H1.out.drewN _).setReg ka hka b⟩
set_option maxRecDepth 100000 in
set_option maxHeartbeats 4000000 in
theorem do_4 (B g : Nat) (w0 W : World) (prg : List Value) (room fuel : Int) (s : St) (vs vp vg vt : Value) (a b c d : Int) (x : Int) (t : ByteArray) (h : RS B g w0 W prg room fuel s vs vp vg vt) :
    Calls Try.prog 32 #[.pointer (some ⟨g, 0, none⟩), .agg #[.int .i64 4, .int .i64 a, .int .i64 b, .int .i64 c, .int .i64 d], .int .i64 x, .string t] W fun e w' => e = .returned (.tuple #[.int .i64 0, .bool false]) ∧ RS B g w0 w' prg room fuel { s with pc := c } vs vp vg vt := by
  have H := Lib.hid h
  have H1 := Lib.hid (h.alloc (.cells #[.int .i64 4, .int .i64 a, .int .i64 b, .int .i64 c, .int .i64 d] 40))
  have hlt := h.lt
  obtain ⟨k7, hk7, hb7⟩ := and_seven a
  have c1 := H1.out.cells.pc
  have f1 := H1.out.cells.fr 25
  clear h
  go_enter Try.func32, Try.ntmps32
  go_wp2_with fail
  go_quiet (fail)
  go_wp2_with fail
  go_returns
  exact ⟨by first | rfl | simp, (H1.out.drewN _).setPc c⟩
set_option maxRecDepth 100000 in
set_option maxHeartbeats 4000000 in
theorem do_5_yes (B g : Nat) (w0 W : World) (prg : List Value) (room fuel : Int) (s : St) (vs vp vg vt : Value) (b c d : Int) (ka : Nat) (hka : ka < 8) (x : Int) (t : ByteArray) (h : RS B g w0 W prg room fuel s vs vp vg vt) (hc : s.regs.getD ka 0 = b) :
    Calls Try.prog 32 #[.pointer (some ⟨g, 0, none⟩), .agg #[.int .i64 5, .int .i64 (ka : Int), .int .i64 b, .int .i64 c, .int .i64 d], .int .i64 x, .string t] W fun e w' => e = .returned (.tuple #[.int .i64 0, .bool false]) ∧ RS B g w0 w' prg room fuel { s with pc := c } vs vp vg vt := by
  have H := Lib.hid h
  have H1 := Lib.hid (h.alloc (.cells #[.int .i64 5, .int .i64 (ka : Int), .int .i64 b, .int .i64 c, .int .i64 d] 40))
  have hlt := h.lt
  have hb7 := and_small ka hka
  have c1 := H1.out.cells.reg ka hka
  have c2 := H1.out.cells.pc
  have f1 := H1.out.cells.fr 25
  obtain ⟨r, hr⟩ : ∃ r, r = s.regs.getD ka 0 := ⟨_, rfl⟩
  rw [← hr] at c1 hc
  have e1 : (r == b) = true := by simpa using hc
  clear hc hr
  clear h
  go_enter Try.func32, Try.ntmps32
  go_wp2_with fail
  go_quiet (fail)
  go_wp2_with fail
  go_quiet (fail)
  go_wp2_with fail
  go_returns
  exact ⟨by first | rfl | simp, (H1.out.drewN _).setPc c⟩
set_option maxRecDepth 100000 in
set_option maxHeartbeats 4000000 in
theorem do_5_no (B g : Nat) (w0 W : World) (prg : List Value) (room fuel : Int) (s : St) (vs vp vg vt : Value) (b c d : Int) (ka : Nat) (hka : ka < 8) (x : Int) (t : ByteArray) (h : RS B g w0 W prg room fuel s vs vp vg vt) (hc : ¬ s.regs.getD ka 0 = b) :
    Calls Try.prog 32 #[.pointer (some ⟨g, 0, none⟩), .agg #[.int .i64 5, .int .i64 (ka : Int), .int .i64 b, .int .i64 c, .int .i64 d], .int .i64 x, .string t] W fun e w' => e = .returned (.tuple #[.int .i64 0, .bool false]) ∧ RS B g w0 w' prg room fuel s vs vp vg vt := by
  have H := Lib.hid h
  have H1 := Lib.hid (h.alloc (.cells #[.int .i64 5, .int .i64 (ka : Int), .int .i64 b, .int .i64 c, .int .i64 d] 40))
  have hlt := h.lt
  have hb7 := and_small ka hka
  have c1 := H1.out.cells.reg ka hka
  have c2 := H1.out.cells.pc
  have f1 := H1.out.cells.fr 25
  obtain ⟨r, hr⟩ : ∃ r, r = s.regs.getD ka 0 := ⟨_, rfl⟩
  rw [← hr] at c1 hc
  have e1 : (r == b) = false := by simpa using hc
  clear hc hr
  clear h
  go_enter Try.func32, Try.ntmps32
  go_wp2_with fail
  go_quiet (fail)
  go_wp2_with fail
  go_quiet (fail)
  go_wp2_with fail
  go_returns
  exact ⟨by first | rfl | simp, (H1.out.drewN _).drewN _⟩
set_option maxRecDepth 100000 in
set_option maxHeartbeats 4000000 in
theorem do_6_yes (B g : Nat) (w0 W : World) (prg : List Value) (room fuel : Int) (s : St) (vs vp vg vt : Value) (b c d : Int) (ka : Nat) (hka : ka < 8) (x : Int) (t : ByteArray) (h : RS B g w0 W prg room fuel s vs vp vg vt) (hc : s.regs.getD ka 0 < b) :
    Calls Try.prog 32 #[.pointer (some ⟨g, 0, none⟩), .agg #[.int .i64 6, .int .i64 (ka : Int), .int .i64 b, .int .i64 c, .int .i64 d], .int .i64 x, .string t] W fun e w' => e = .returned (.tuple #[.int .i64 0, .bool false]) ∧ RS B g w0 w' prg room fuel { s with pc := c } vs vp vg vt := by
  have H := Lib.hid h
  have H1 := Lib.hid (h.alloc (.cells #[.int .i64 6, .int .i64 (ka : Int), .int .i64 b, .int .i64 c, .int .i64 d] 40))
  have hlt := h.lt
  have hb7 := and_small ka hka
  have c1 := H1.out.cells.reg ka hka
  have c2 := H1.out.cells.pc
  have f1 := H1.out.cells.fr 25
  obtain ⟨r, hr⟩ : ∃ r, r = s.regs.getD ka 0 := ⟨_, rfl⟩
  rw [← hr] at c1 hc
  have e1 : decide (r < b) = true := by simpa using hc
  clear hc hr
  clear h
  go_enter Try.func32, Try.ntmps32
  go_wp2_with fail
  go_quiet (fail)
  go_wp2_with fail
  go_quiet (fail)
  go_wp2_with fail
  go_returns
  exact ⟨by first | rfl | simp, (H1.out.drewN _).setPc c⟩
set_option maxRecDepth 100000 in
set_option maxHeartbeats 4000000 in
theorem do_6_no (B g : Nat) (w0 W : World) (prg : List Value) (room fuel : Int) (s : St) (vs vp vg vt : Value) (b c d : Int) (ka : Nat) (hka : ka < 8) (x : Int) (t : ByteArray) (h : RS B g w0 W prg room fuel s vs vp vg vt) (hc : ¬ s.regs.getD ka 0 < b) :
    Calls Try.prog 32 #[.pointer (some ⟨g, 0, none⟩), .agg #[.int .i64 6, .int .i64 (ka : Int), .int .i64 b, .int .i64 c, .int .i64 d], .int .i64 x, .string t] W fun e w' => e = .returned (.tuple #[.int .i64 0, .bool false]) ∧ RS B g w0 w' prg room fuel s vs vp vg vt := by
  have H := Lib.hid h
  have H1 := Lib.hid (h.alloc (.cells #[.int .i64 6, .int .i64 (ka : Int), .int .i64 b, .int .i64 c, .int .i64 d] 40))
  have hlt := h.lt
  have hb7 := and_small ka hka
  have c1 := H1.out.cells.reg ka hka
  have c2 := H1.out.cells.pc
  have f1 := H1.out.cells.fr 25
  obtain ⟨r, hr⟩ : ∃ r, r = s.regs.getD ka 0 := ⟨_, rfl⟩
  rw [← hr] at c1 hc
  have e1 : decide (r < b) = false := by simpa using hc
  clear hc hr
  clear h
  go_enter Try.func32, Try.ntmps32
  go_wp2_with fail
  go_quiet (fail)
  go_wp2_with fail
  go_quiet (fail)
  go_wp2_with fail
  go_returns
  exact ⟨by first | rfl | simp, (H1.out.drewN _).drewN _⟩
set_option maxRecDepth 100000 in
set_option maxHeartbeats 4000000 in
theorem do_7_end (B g : Nat) (w0 W : World) (prg : List Value) (room fuel : Int) (s : St) (vs vp vg vt : Value) (b c d : Int) (ka : Nat) (hka : ka < 8) (x : Int) (t : ByteArray) (h : RS B g w0 W prg room fuel s vs vp vg vt) (hc : s.src.length ≤ s.here) :
    Calls Try.prog 32 #[.pointer (some ⟨g, 0, none⟩), .agg #[.int .i64 7, .int .i64 (ka : Int), .int .i64 b, .int .i64 c, .int .i64 d], .int .i64 x, .string t] W fun e w' => e = .returned (.tuple #[.int .i64 0, .bool false]) ∧ RS B g w0 w' prg room fuel { s with pc := c } vs vp vg vt := by
  have H := Lib.hid h
  have H1 := Lib.hid (h.alloc (.cells #[.int .i64 7, .int .i64 (ka : Int), .int .i64 b, .int .i64 c, .int .i64 d] 40))
  have hlt := h.lt
  have hb7 := and_small ka hka
  have c1 := H1.out.cells.here
  have c2 := H1.out.cells.vs
  have c3 := H1.out.cells.pc
  have f1 := H1.out.cells.fr 25
  obtain ⟨A, cp, hvs⟩ := H1.out.src.sl
  rw [hvs] at c2
  have e1 : decide ((s.src.length : Int) ≤ (s.here : Int)) = true := by simp; omega
  clear hvs
  clear h
  go_enter Try.func32, Try.ntmps32
  go_wp2_with fail
  go_quiet (fail)
  go_wp2_with fail
  go_quiet (fail)
  go_wp2_with fail
  go_returns
  exact ⟨by first | rfl | simp, (H1.out.drewN _).setPc c⟩
set_option maxRecDepth 100000 in
set_option maxHeartbeats 4000000 in
theorem do_7_more (B g : Nat) (w0 W : World) (prg : List Value) (room fuel : Int) (s : St) (vs vp vg vt : Value) (b c d : Int) (ka : Nat) (hka : ka < 8) (x : Int) (t : ByteArray) (h : RS B g w0 W prg room fuel s vs vp vg vt) (hc : s.here < s.src.length) (hle : s.src.length ≤ 140737488355328) :
    Calls Try.prog 32 #[.pointer (some ⟨g, 0, none⟩), .agg #[.int .i64 7, .int .i64 (ka : Int), .int .i64 b, .int .i64 c, .int .i64 d], .int .i64 x, .string t] W fun e w' => e = .returned (.tuple #[.int .i64 0, .bool false]) ∧ RS B g w0 w' prg room fuel { s with regs := s.regs.set ka (s.src.getD s.here 0).toNat, here := s.here + 1 } vs vp vg vt := by
  have H := Lib.hid h
  have H1 := Lib.hid (h.alloc (.cells #[.int .i64 7, .int .i64 (ka : Int), .int .i64 b, .int .i64 c, .int .i64 d] 40))
  have hlt := h.lt
  have hb7 := and_small ka hka
  have c1 := H1.out.cells.here
  have c2 := H1.out.cells.vs
  have c3 := H1.out.cells.reg ka hka
  have f1 := H1.out.cells.fr (10 + ka)
  have f2 := H1.out.cells.fr 21
  obtain ⟨bs, ⟨cp, hvs⟩, c4⟩ := H1.out.src.cell s.here hc
  rw [hvs] at c2
  obtain ⟨y, hy⟩ : ∃ y, y = (s.src.getD s.here 0).toNat := ⟨_, rfl⟩
  have hyl : y < 256 := by rw [hy]; exact (s.src.getD s.here 0).toNat_lt
  obtain ⟨n, hn⟩ : ∃ n, n = s.src.length := ⟨_, rfl⟩
  obtain ⟨hh, hhe⟩ : ∃ hh, hh = s.here := ⟨_, rfl⟩
  rw [← hy] at c4
  rw [← hn] at c2 hc hle
  rw [← hhe] at c1 c4 hc
  have e1 : decide ((n : Int) ≤ (hh : Int)) = false := by simp; omega
  have hi : (hh : Int) < (n : Int) := by omega
  have HY := Lib.hid (And.intro hy (And.intro hn hhe))
  clear hvs hy hn hhe
  clear h
  go_enter Try.func32, Try.ntmps32
  go_wp2_with fail
  go_quiet (fail)
  go_wp2_with fail
  go_quiet (fail)
  go_wp2_with fail
  go_region
  go_wp2_with fail
  go_returns
  refine ⟨by first | rfl | simp, ?_⟩
  rw [← HY.out.1, ← HY.out.2.2]
  exact ((H1.out.drewN _).setReg ka hka (y : Int)).setHere (hh + 1)
end Go.Proofs.Ytgejpggbmgiocaa
