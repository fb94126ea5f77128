/- RF3, RF4, RF5 of this seat, in one text. -/
import Derived.Test.YtgejpggbmgiocaaM27
import Derived.Test.YtgejpggbmgiocaaM26
import Derived.Deep.RegionWith
import Derived.Test.YtgejpggbmgiocaaM4
/- What the reference holds for a fault. -/
namespace Go.Proofs.Ytgejpggbmgiocaa
open Go.RowKit
set_option maxRecDepth 100000 in
set_option maxHeartbeats 4000000 in
theorem rf_2 (B g gr gk : Nat) (w0 W : World) (prg : List Value) (room fuel : Int) (s : St) (vs vp vg vt : Value) (ka : Nat) (hka : ka < 8) (b c d : Int) (ha : isReg (ka : Int) = true) (h : RR B g gr gk w0 W prg room fuel s vs vp vg vt) :
    Calls Try.prog 33 #[.pointer (some ⟨g, 0, none⟩), .agg #[.int .i64 2, .int .i64 (ka : Int), .int .i64 b, .int .i64 c, .int .i64 d]] W (FRes B g gr gk w0 W prg room fuel s vs vp vg vt false) := by
  have H1 := Lib.hid (h.alloc (.cells #[.int .i64 2, .int .i64 (ka : Int), .int .i64 b, .int .i64 c, .int .i64 d] 40))
  have hlt := h.lt
  have HB := Lib.hid ((Below.refl W.heap.size W).alloc (Nat.le_refl _) (.cells #[.int .i64 2, .int .i64 (ka : Int), .int .i64 b, .int .i64 c, .int .i64 d] 40))
  have HRA := Lib.hid (fun v W => rreg_any v (ka : Int) W)
  rw [ha] at HRA
  have c0 := H1.out.cells.vr
  have c1 := H1.out.cells.reg ka hka
  have n1 : decide ((ka : Int) < 0) = false := by simp
  have n2 : decide ((8 : Int) ≤ (ka : Int)) = false := by simp; omega
  have n4 : decide (ka < 8) = true := by simpa using hka
  have n5 : ¬ 8 ≤ ka := by omega
  have n6 : (ka : Int) < 8 := by omega
  clear ha
  clear h
  go_enter Try.func33, Try.ntmps33
  go_wp2_with (go_at_call 44; refine (HRA.out _ _).mono ?_; rintro e w' ⟨rfl, rfl⟩)
  go_quiet (fail)
  go_wp2_with fail
  go_returns
  exact ⟨by first | rfl | simp, (by first | exact H1.out | exact H1.out.drewN _ | exact (H1.out.drewN _).drewN _), (by first | exact HB.out | exact below_drewN HB.out _ | exact below_drewN (below_drewN HB.out _) _)⟩
set_option maxRecDepth 100000 in
set_option maxHeartbeats 4000000 in
theorem rf_5 (B g gr gk : Nat) (w0 W : World) (prg : List Value) (room fuel : Int) (s : St) (vs vp vg vt : Value) (ka : Nat) (hka : ka < 8) (b c d : Int) (ha : isReg (ka : Int) = true) (h : RR B g gr gk w0 W prg room fuel s vs vp vg vt) :
    Calls Try.prog 33 #[.pointer (some ⟨g, 0, none⟩), .agg #[.int .i64 5, .int .i64 (ka : Int), .int .i64 b, .int .i64 c, .int .i64 d]] W (FRes B g gr gk w0 W prg room fuel s vs vp vg vt false) := by
  have H1 := Lib.hid (h.alloc (.cells #[.int .i64 5, .int .i64 (ka : Int), .int .i64 b, .int .i64 c, .int .i64 d] 40))
  have hlt := h.lt
  have HB := Lib.hid ((Below.refl W.heap.size W).alloc (Nat.le_refl _) (.cells #[.int .i64 5, .int .i64 (ka : Int), .int .i64 b, .int .i64 c, .int .i64 d] 40))
  have HRA := Lib.hid (fun v W => rreg_any v (ka : Int) W)
  rw [ha] at HRA
  have c0 := H1.out.cells.vr
  have c1 := H1.out.cells.reg ka hka
  have n1 : decide ((ka : Int) < 0) = false := by simp
  have n2 : decide ((8 : Int) ≤ (ka : Int)) = false := by simp; omega
  have n4 : decide (ka < 8) = true := by simpa using hka
  have n5 : ¬ 8 ≤ ka := by omega
  have n6 : (ka : Int) < 8 := by omega
  clear ha
  clear h
  go_enter Try.func33, Try.ntmps33
  go_wp2_with (go_at_call 44; refine (HRA.out _ _).mono ?_; rintro e w' ⟨rfl, rfl⟩)
  go_quiet (fail)
  go_wp2_with fail
  go_returns
  exact ⟨by first | rfl | simp, (by first | exact H1.out | exact H1.out.drewN _ | exact (H1.out.drewN _).drewN _), (by first | exact HB.out | exact below_drewN HB.out _ | exact below_drewN (below_drewN HB.out _) _)⟩
set_option maxRecDepth 100000 in
set_option maxHeartbeats 4000000 in
theorem rf_6 (B g gr gk : Nat) (w0 W : World) (prg : List Value) (room fuel : Int) (s : St) (vs vp vg vt : Value) (ka : Nat) (hka : ka < 8) (b c d : Int) (ha : isReg (ka : Int) = true) (h : RR B g gr gk w0 W prg room fuel s vs vp vg vt) :
    Calls Try.prog 33 #[.pointer (some ⟨g, 0, none⟩), .agg #[.int .i64 6, .int .i64 (ka : Int), .int .i64 b, .int .i64 c, .int .i64 d]] W (FRes B g gr gk w0 W prg room fuel s vs vp vg vt false) := by
  have H1 := Lib.hid (h.alloc (.cells #[.int .i64 6, .int .i64 (ka : Int), .int .i64 b, .int .i64 c, .int .i64 d] 40))
  have hlt := h.lt
  have HB := Lib.hid ((Below.refl W.heap.size W).alloc (Nat.le_refl _) (.cells #[.int .i64 6, .int .i64 (ka : Int), .int .i64 b, .int .i64 c, .int .i64 d] 40))
  have HRA := Lib.hid (fun v W => rreg_any v (ka : Int) W)
  rw [ha] at HRA
  have c0 := H1.out.cells.vr
  have c1 := H1.out.cells.reg ka hka
  have n1 : decide ((ka : Int) < 0) = false := by simp
  have n2 : decide ((8 : Int) ≤ (ka : Int)) = false := by simp; omega
  have n4 : decide (ka < 8) = true := by simpa using hka
  have n5 : ¬ 8 ≤ ka := by omega
  have n6 : (ka : Int) < 8 := by omega
  clear ha
  clear h
  go_enter Try.func33, Try.ntmps33
  go_wp2_with (go_at_call 44; refine (HRA.out _ _).mono ?_; rintro e w' ⟨rfl, rfl⟩)
  go_quiet (fail)
  go_wp2_with fail
  go_returns
  exact ⟨by first | rfl | simp, (by first | exact H1.out | exact H1.out.drewN _ | exact (H1.out.drewN _).drewN _), (by first | exact HB.out | exact below_drewN HB.out _ | exact below_drewN (below_drewN HB.out _) _)⟩
set_option maxRecDepth 100000 in
set_option maxHeartbeats 4000000 in
theorem rf_7 (B g gr gk : Nat) (w0 W : World) (prg : List Value) (room fuel : Int) (s : St) (vs vp vg vt : Value) (ka : Nat) (hka : ka < 8) (b c d : Int) (ha : isReg (ka : Int) = true) (h : RR B g gr gk w0 W prg room fuel s vs vp vg vt) :
    Calls Try.prog 33 #[.pointer (some ⟨g, 0, none⟩), .agg #[.int .i64 7, .int .i64 (ka : Int), .int .i64 b, .int .i64 c, .int .i64 d]] W (FRes B g gr gk w0 W prg room fuel s vs vp vg vt false) := by
  have H1 := Lib.hid (h.alloc (.cells #[.int .i64 7, .int .i64 (ka : Int), .int .i64 b, .int .i64 c, .int .i64 d] 40))
  have hlt := h.lt
  have HB := Lib.hid ((Below.refl W.heap.size W).alloc (Nat.le_refl _) (.cells #[.int .i64 7, .int .i64 (ka : Int), .int .i64 b, .int .i64 c, .int .i64 d] 40))
  have HRA := Lib.hid (fun v W => rreg_any v (ka : Int) W)
  rw [ha] at HRA
  have c0 := H1.out.cells.vr
  have c1 := H1.out.cells.reg ka hka
  have n1 : decide ((ka : Int) < 0) = false := by simp
  have n2 : decide ((8 : Int) ≤ (ka : Int)) = false := by simp; omega
  have n4 : decide (ka < 8) = true := by simpa using hka
  have n5 : ¬ 8 ≤ ka := by omega
  have n6 : (ka : Int) < 8 := by omega
  clear ha
  clear h
  go_enter Try.func33, Try.ntmps33
  go_wp2_with (go_at_call 44; refine (HRA.out _ _).mono ?_; rintro e w' ⟨rfl, rfl⟩)
  go_quiet (fail)
  go_wp2_with fail
  go_returns
  exact ⟨by first | rfl | simp, (by first | exact H1.out | exact H1.out.drewN _ | exact (H1.out.drewN _).drewN _), (by first | exact HB.out | exact below_drewN HB.out _ | exact below_drewN (below_drewN HB.out _) _)⟩
set_option maxRecDepth 100000 in
set_option maxHeartbeats 4000000 in
theorem rf_17 (B g gr gk : Nat) (w0 W : World) (prg : List Value) (room fuel : Int) (s : St) (vs vp vg vt : Value) (ka : Nat) (hka : ka < 8) (b c d : Int) (ha : isReg (ka : Int) = true) (h : RR B g gr gk w0 W prg room fuel s vs vp vg vt) :
    Calls Try.prog 33 #[.pointer (some ⟨g, 0, none⟩), .agg #[.int .i64 17, .int .i64 (ka : Int), .int .i64 b, .int .i64 c, .int .i64 d]] W (FRes B g gr gk w0 W prg room fuel s vs vp vg vt false) := by
  have H1 := Lib.hid (h.alloc (.cells #[.int .i64 17, .int .i64 (ka : Int), .int .i64 b, .int .i64 c, .int .i64 d] 40))
  have hlt := h.lt
  have HB := Lib.hid ((Below.refl W.heap.size W).alloc (Nat.le_refl _) (.cells #[.int .i64 17, .int .i64 (ka : Int), .int .i64 b, .int .i64 c, .int .i64 d] 40))
  have HRA := Lib.hid (fun v W => rreg_any v (ka : Int) W)
  rw [ha] at HRA
  have c0 := H1.out.cells.vr
  have c1 := H1.out.cells.reg ka hka
  have n1 : decide ((ka : Int) < 0) = false := by simp
  have n2 : decide ((8 : Int) ≤ (ka : Int)) = false := by simp; omega
  have n4 : decide (ka < 8) = true := by simpa using hka
  have n5 : ¬ 8 ≤ ka := by omega
  have n6 : (ka : Int) < 8 := by omega
  clear ha
  clear h
  go_enter Try.func33, Try.ntmps33
  go_wp2_with (go_at_call 44; refine (HRA.out _ _).mono ?_; rintro e w' ⟨rfl, rfl⟩)
  go_quiet (fail)
  go_wp2_with fail
  go_returns
  exact ⟨by first | rfl | simp, (by first | exact H1.out | exact H1.out.drewN _ | exact (H1.out.drewN _).drewN _), (by first | exact HB.out | exact below_drewN HB.out _ | exact below_drewN (below_drewN HB.out _) _)⟩
set_option maxRecDepth 100000 in
set_option maxHeartbeats 4000000 in
theorem rf_3 (B g gr gk : Nat) (w0 W : World) (prg : List Value) (room fuel : Int) (s : St) (vs vp vg vt : Value) (ka : Nat) (hka : ka < 8) (b c d : Int) (ha : isReg (ka : Int) = true) (hb : isReg b = true) (h : RR B g gr gk w0 W prg room fuel s vs vp vg vt) :
    Calls Try.prog 33 #[.pointer (some ⟨g, 0, none⟩), .agg #[.int .i64 3, .int .i64 (ka : Int), .int .i64 b, .int .i64 c, .int .i64 d]] W (FRes B g gr gk w0 W prg room fuel s vs vp vg vt false) := by
  have H1 := Lib.hid (h.alloc (.cells #[.int .i64 3, .int .i64 (ka : Int), .int .i64 b, .int .i64 c, .int .i64 d] 40))
  have hlt := h.lt
  have HB := Lib.hid ((Below.refl W.heap.size W).alloc (Nat.le_refl _) (.cells #[.int .i64 3, .int .i64 (ka : Int), .int .i64 b, .int .i64 c, .int .i64 d] 40))
  have HRA := Lib.hid (fun v W => rreg_any v (ka : Int) W)
  rw [ha] at HRA
  have HRB := Lib.hid (fun v W => rreg_any v b W)
  rw [hb] at HRB
  have c0 := H1.out.cells.vr
  have c1 := H1.out.cells.reg ka hka
  have n1 : decide ((ka : Int) < 0) = false := by simp
  have n2 : decide ((8 : Int) ≤ (ka : Int)) = false := by simp; omega
  have n4 : decide (ka < 8) = true := by simpa using hka
  have n5 : ¬ 8 ≤ ka := by omega
  have n6 : (ka : Int) < 8 := by omega
  clear ha hb
  clear h
  go_enter Try.func33, Try.ntmps33
  go_wp2_with (first | (go_at_call_of 44 (Value.int IntKind.i64 (ka : Int)); refine (HRA.out _ _).mono ?_; rintro e w' ⟨rfl, rfl⟩) | (go_at_call_of 44 (Value.int IntKind.i64 b); refine (HRB.out _ _).mono ?_; rintro e w' ⟨rfl, rfl⟩))
  go_quiet (fail)
  go_wp2_with fail
  go_returns
  exact ⟨by first | rfl | simp, (by first | exact H1.out | exact H1.out.drewN _ | exact (H1.out.drewN _).drewN _), (by first | exact HB.out | exact below_drewN HB.out _ | exact below_drewN (below_drewN HB.out _) _)⟩
end Go.Proofs.Ytgejpggbmgiocaa
/- What the reference holds for a fault. -/
namespace Go.Proofs.Ytgejpggbmgiocaa
open Go.RowKit
set_option maxRecDepth 100000 in
set_option maxHeartbeats 4000000 in
theorem rf_12 (B g gr gk : Nat) (w0 W : World) (prg : List Value) (room fuel : Int) (s : St) (vs vp vg vt : Value) (ka : Nat) (hka : ka < 8) (b c d : Int) (ha : isReg (ka : Int) = true) (r : Bool) (hr : isB (s.regs.getD ka 0) = r) (h : RR B g gr gk w0 W prg room fuel s vs vp vg vt) :
    Calls Try.prog 33 #[.pointer (some ⟨g, 0, none⟩), .agg #[.int .i64 12, .int .i64 (ka : Int), .int .i64 b, .int .i64 c, .int .i64 d]] W (FRes B g gr gk w0 W prg room fuel s vs vp vg vt (!r)) := by
  have H1 := Lib.hid (h.alloc (.cells #[.int .i64 12, .int .i64 (ka : Int), .int .i64 b, .int .i64 c, .int .i64 d] 40))
  have hlt := h.lt
  have HB := Lib.hid ((Below.refl W.heap.size W).alloc (Nat.le_refl _) (.cells #[.int .i64 12, .int .i64 (ka : Int), .int .i64 b, .int .i64 c, .int .i64 d] 40))
  have HRA := Lib.hid (fun v W => rreg_any v (ka : Int) W)
  rw [ha] at HRA
  have c0 := H1.out.cells.vr
  have c1 := H1.out.cells.reg ka hka
  have n1 : decide ((ka : Int) < 0) = false := by simp
  have n2 : decide ((8 : Int) ≤ (ka : Int)) = false := by simp; omega
  have n4 : decide (ka < 8) = true := by simpa using hka
  have n5 : ¬ 8 ≤ ka := by omega
  have n6 : (ka : Int) < 8 := by omega
  obtain ⟨rv, hrv⟩ : ∃ x, x = s.regs.getD ka 0 := ⟨_, rfl⟩
  rw [← hrv] at c1 hr
  have HIB := Lib.hid (fun W => rbyte_any rv W)
  rw [hr] at HIB
  clear ha hr hrv
  clear h
  go_enter Try.func33, Try.ntmps33
  go_wp2_with (go_at_call 44; refine (HRA.out _ _).mono ?_; rintro e w' ⟨rfl, rfl⟩)
  go_quiet (fail)
  go_wp2_with (go_at_call 45; refine (HIB.out _).mono ?_; rintro e w' ⟨rfl, rfl⟩)
  go_returns
  exact ⟨by first | rfl | simp, (by first | exact H1.out | exact H1.out.drewN _ | exact (H1.out.drewN _).drewN _), (by first | exact HB.out | exact below_drewN HB.out _ | exact below_drewN (below_drewN HB.out _) _)⟩
set_option maxRecDepth 100000 in
set_option maxHeartbeats 4000000 in
theorem rf_15 (B g gr gk : Nat) (w0 W : World) (prg : List Value) (room fuel : Int) (s : St) (vs vp vg vt : Value) (ka : Nat) (hka : ka < 8) (b c d : Int) (ha : isReg (ka : Int) = true) (sg : Int) (hp3 : prg[3]? = some (.int .i64 sg)) (h : RR B g gr gk w0 W prg room fuel s vs vp vg vt) :
    Calls Try.prog 33 #[.pointer (some ⟨g, 0, none⟩), .agg #[.int .i64 15, .int .i64 (ka : Int), .int .i64 b, .int .i64 c, .int .i64 d]] W (FRes B g gr gk w0 W prg room fuel s vs vp vg vt (decide (s.regs.getD ka 0 < 0) || decide (sgF sg ≤ s.regs.getD ka 0))) := by
  have H1 := Lib.hid (h.alloc (.cells #[.int .i64 15, .int .i64 (ka : Int), .int .i64 b, .int .i64 c, .int .i64 d] 40))
  have hlt := h.lt
  have HB := Lib.hid ((Below.refl W.heap.size W).alloc (Nat.le_refl _) (.cells #[.int .i64 15, .int .i64 (ka : Int), .int .i64 b, .int .i64 c, .int .i64 d] 40))
  have HRA := Lib.hid (fun v W => rreg_any v (ka : Int) W)
  rw [ha] at HRA
  have c0 := H1.out.cells.vr
  have c1 := H1.out.cells.reg ka hka
  have n1 : decide ((ka : Int) < 0) = false := by simp
  have n2 : decide ((8 : Int) ≤ (ka : Int)) = false := by simp; omega
  have n4 : decide (ka < 8) = true := by simpa using hka
  have n5 : ¬ 8 ≤ ka := by omega
  have n6 : (ka : Int) < 8 := by omega
  have c3 := H1.out.cells.p 3 (by omega)
  rw [hp3] at c3
  have HRV := Lib.hid (rfl : s.regs.getD ka 0 = s.regs.getD ka 0)
  obtain ⟨rv, hrv⟩ : ∃ x, x = s.regs.getD ka 0 := ⟨_, rfl⟩
  rw [← hrv] at c1 ⊢
  have HSG := Lib.hid (fun W => rsigns_any sg W)
  obtain ⟨sv, hsv⟩ : ∃ x, x = sgF sg := ⟨_, rfl⟩
  rw [← hsv] at HSG ⊢
  clear ha hrv hsv hp3
  obtain ⟨z1, hz1⟩ : ∃ z, decide (rv < 0) = z := ⟨_, rfl⟩
  obtain ⟨z2, hz2⟩ : ∃ z, decide (sv ≤ rv) = z := ⟨_, rfl⟩
  clear h
  go_enter Try.func33, Try.ntmps33
  rw [hz1, hz2]
  cases z1 <;> cases z2
  all_goals
    go_wp2_with (go_at_call 44; refine (HRA.out _ _).mono ?_; rintro e w' ⟨rfl, rfl⟩)
    go_quiet (fail)
    go_wp2_with (go_at_call 46; refine (HSG.out _).mono ?_; rintro e w' ⟨rfl, rfl⟩)
    go_returns
    exact ⟨by first | rfl | simp, (by first | exact H1.out | exact H1.out.drewN _ | exact (H1.out.drewN _).drewN _), (by first | exact HB.out | exact below_drewN HB.out _ | exact below_drewN (below_drewN HB.out _) _)⟩
end Go.Proofs.Ytgejpggbmgiocaa
/- What the reference holds for a fault. -/
namespace Go.Proofs.Ytgejpggbmgiocaa
open Go.RowKit
set_option maxRecDepth 100000 in
set_option maxHeartbeats 4000000 in
theorem rf_13 (B g gr gk : Nat) (w0 W : World) (prg : List Value) (room fuel : Int) (s : St) (vs vp vg vt : Value) (ka kb : Nat) (hka : ka < 8) (hkb : kb < 8) (c d : Int) (ha : isReg (ka : Int) = true) (hb : isReg (kb : Int) = true) (p : Prog) (ht : TextsIn w0 B prg p.texts) (hrg : ∀ k, -9223372036854775808 ≤ s.regs.getD k 0 ∧ s.regs.getD k 0 ≤ 9223372036854775807) (h : RR B g gr gk w0 W prg room fuel s vs vp vg vt) :
    Calls Try.prog 33 #[.pointer (some ⟨g, 0, none⟩), .agg #[.int .i64 13, .int .i64 (ka : Int), .int .i64 (kb : Int), .int .i64 c, .int .i64 d]] W (FRes B g gr gk w0 W prg room fuel s vs vp vg vt (!decide (textOk p s ⟨13, (ka : Int), (kb : Int), c, d⟩))) := by
  have H1 := Lib.hid (h.alloc (.cells #[.int .i64 13, .int .i64 (ka : Int), .int .i64 (kb : Int), .int .i64 c, .int .i64 d] 40))
  have hlt := h.lt
  have HB := Lib.hid ((Below.refl W.heap.size W).alloc (Nat.le_refl _) (.cells #[.int .i64 13, .int .i64 (ka : Int), .int .i64 (kb : Int), .int .i64 c, .int .i64 d] 40))
  have HRA := Lib.hid (fun v W => rreg_any v (ka : Int) W)
  rw [ha] at HRA
  have HRB := Lib.hid (fun v W => rreg_any v (kb : Int) W)
  rw [hb] at HRB
  have c0 := H1.out.cells.vr
  have c1 := H1.out.cells.reg ka hka
  have n1 : decide ((ka : Int) < 0) = false := by simp
  have n2 : decide ((8 : Int) ≤ (ka : Int)) = false := by simp; omega
  have n4 : decide (ka < 8) = true := by simpa using hka
  have n5 : ¬ 8 ≤ ka := by omega
  have n6 : (ka : Int) < 8 := by omega
  have p1 : decide ((kb : Int) < 0) = false := by simp
  have p2 : decide ((8 : Int) ≤ (kb : Int)) = false := by simp; omega
  have p4 : decide (kb < 8) = true := by simpa using hkb
  have p5 : ¬ 8 ≤ kb := by omega
  have p6 : (kb : Int) < 8 := by omega
  obtain ⟨rv, hrv⟩ : ∃ x, x = s.regs.getD ka 0 := ⟨_, rfl⟩
  obtain ⟨rb, hrb⟩ : ∃ x, x = s.regs.getD kb 0 := ⟨_, rfl⟩
  have hreg : s.reg (ka : Int) = rv ∧ s.reg (kb : Int) = rb := ⟨hrv.symm, hrb.symm⟩
  have c2 := H1.out.cells.reg kb hkb
  have hrg0 := hrg ka
  rw [← hrv] at c1 hrg0
  rw [← hrb] at c2
  obtain ⟨A6, c6, h6, _⟩ := ht.arr
  have c3 := H1.out.cells.p 6 (by omega)
  rw [h6] at c3
  have hle6 := ht.le
  obtain ⟨nt, hnt⟩ : ∃ n, n = p.texts.length := ⟨_, rfl⟩
  rw [← hnt] at c3 hle6
  obtain ⟨res, hres⟩ : ∃ r, r = !decide (textOk p s ⟨13, (ka : Int), (kb : Int), c, d⟩) := ⟨_, rfl⟩
  rw [← hres]
  have HIB := Lib.hid (fun w => rbyte_any rb w)
  obtain ⟨bb, hbb⟩ : ∃ x, x = isB rb := ⟨_, rfl⟩
  rw [← hbb] at HIB
  have HH := Lib.hid (And.intro hreg (And.intro hres (And.intro hbb hnt)))
  clear ha hb hrv hrb hreg hres hbb hnt h6 ht hrg
  clear h
  by_cases h1 : rv < 0
  · have hq : res = true := by
      rw [HH.out.2.1]
      have hno : ¬ textOk p s ⟨13, (ka : Int), (kb : Int), c, d⟩ := fun h9 => by
        have h8 := h9.1
        simp only [HH.out.1.1] at h8
        omega
      simp [hno]
    subst hq
    have d1 : decide (rv < 0) = true := by simpa using h1
    clear h1
    go_enter Try.func33, Try.ntmps33
    go_wp2_with (first | (go_at_call_of 44 (Value.int IntKind.i64 (ka : Int)); refine (HRA.out _ _).mono ?_; rintro e w' ⟨rfl, rfl⟩) | (go_at_call_of 44 (Value.int IntKind.i64 (kb : Int)); refine (HRB.out _ _).mono ?_; rintro e w' ⟨rfl, rfl⟩))
    go_quiet (fail)
    go_wp2_with fail
    go_quiet ((go_at_call 45; exact (HIB.out _).mono (fun e w h => ⟨h.1, ⟨_, h.2⟩⟩)))
    go_wp2_with fail
    go_returns
    exact ⟨by first | rfl | simp, (by first | exact H1.out | exact H1.out.drewN _ | exact (H1.out.drewN _).drewN _), (by first | exact HB.out | exact below_drewN HB.out _ | exact below_drewN (below_drewN HB.out _) _)⟩
  have d1 : decide (rv < 0) = false := by simpa using h1
  obtain ⟨kt, hkt⟩ : ∃ kt : Nat, rv / 2 = (kt : Int) := ⟨(rv / 2).toNat, by omega⟩
  have hq3 : wrap64 (rv.tdiv 2) = (kt : Int) := by rw [Int.tdiv_eq_ediv_of_nonneg (by omega), hkt]; exact IntWalk.wrap64_in _ (by omega)
  have hq4 : IntKind.i64.wrap (rv.tdiv 2) = (kt : Int) := by rw [Int.tdiv_eq_ediv_of_nonneg (by omega), hkt]; exact IntWalk.i64_in _ (by omega)
  have hmod4 : rv.tmod 2 = rv % 2 := Int.tmod_eq_emod_of_nonneg (by omega)
  by_cases h2 : (nt : Int) ≤ (kt : Int)
  · have hq : res = true := by
      rw [HH.out.2.1]
      have hno : ¬ textOk p s ⟨13, (ka : Int), (kb : Int), c, d⟩ := fun h9 => by
        have h8 := h9.2.1
        simp only [HH.out.1.1] at h8
        have h7 := HH.out.2.2.2
        omega
      simp [hno]
    subst hq
    have d4 : decide ((nt : Int) ≤ (kt : Int)) = true := by simpa using h2
    have d5 : decide (nt ≤ kt) = true := by simp; omega
    clear h1 h2 hkt hmod4
    go_enter Try.func33, Try.ntmps33
    go_wp2_with (first | (go_at_call_of 44 (Value.int IntKind.i64 (ka : Int)); refine (HRA.out _ _).mono ?_; rintro e w' ⟨rfl, rfl⟩) | (go_at_call_of 44 (Value.int IntKind.i64 (kb : Int)); refine (HRB.out _ _).mono ?_; rintro e w' ⟨rfl, rfl⟩))
    go_quiet (fail)
    go_wp2_with fail
    go_quiet ((go_at_call 45; exact (HIB.out _).mono (fun e w h => ⟨h.1, ⟨_, h.2⟩⟩)))
    go_wp2_with fail
    go_returns
    exact ⟨by first | rfl | simp, (by first | exact H1.out | exact H1.out.drewN _ | exact (H1.out.drewN _).drewN _), (by first | exact HB.out | exact below_drewN HB.out _ | exact below_drewN (below_drewN HB.out _) _)⟩
  have d4 : decide ((nt : Int) ≤ (kt : Int)) = false := by simpa using h2
  have d5 : decide (nt ≤ kt) = false := by simp; omega
  by_cases h3 : rv % 2 = 1
  · rw [h3] at hmod4
    have hq : res = !bb := by
      rw [HH.out.2.1, HH.out.2.2.1]
      congr 1
      have : textOk p s ⟨13, (ka : Int), (kb : Int), c, d⟩ ↔ isB rb = true := by
        unfold textOk
        simp only [HH.out.1.1, HH.out.1.2]
        have h7 := HH.out.2.2.2
        exact ⟨fun h9 => h9.2.2 h3, fun h9 => ⟨by omega, by omega, fun _ => h9⟩⟩
      simp [this]
    rw [hq]
    clear h1 h2 h3 hkt hq
    go_enter Try.func33, Try.ntmps33
    go_wp2_with (first | (go_at_call_of 44 (Value.int IntKind.i64 (ka : Int)); refine (HRA.out _ _).mono ?_; rintro e w' ⟨rfl, rfl⟩) | (go_at_call_of 44 (Value.int IntKind.i64 (kb : Int)); refine (HRB.out _ _).mono ?_; rintro e w' ⟨rfl, rfl⟩))
    go_quiet (fail)
    go_wp2_with fail
    go_quiet ((go_at_call 45; exact (HIB.out _).mono (fun e w h => ⟨h.1, ⟨_, h.2⟩⟩)))
    go_wp2_with fail
    go_returns
    exact ⟨by first | rfl | simp, (by first | exact H1.out | exact H1.out.drewN _ | exact (H1.out.drewN _).drewN _), (by first | exact HB.out | exact below_drewN HB.out _ | exact below_drewN (below_drewN HB.out _) _)⟩
  · have h0 : rv % 2 = 0 := by omega
    rw [h0] at hmod4
    have hq : res = false := by
      rw [HH.out.2.1]
      have hyes : textOk p s ⟨13, (ka : Int), (kb : Int), c, d⟩ := by
        unfold textOk
        simp only [HH.out.1.1, HH.out.1.2]
        have h7 := HH.out.2.2.2
        exact ⟨by omega, by omega, fun h9 => absurd h9 h3⟩
      simp [hyes]
    subst hq
    clear h1 h2 h3 h0 hkt
    go_enter Try.func33, Try.ntmps33
    go_wp2_with (first | (go_at_call_of 44 (Value.int IntKind.i64 (ka : Int)); refine (HRA.out _ _).mono ?_; rintro e w' ⟨rfl, rfl⟩) | (go_at_call_of 44 (Value.int IntKind.i64 (kb : Int)); refine (HRB.out _ _).mono ?_; rintro e w' ⟨rfl, rfl⟩))
    go_quiet (fail)
    go_wp2_with fail
    go_quiet ((go_at_call 45; exact (HIB.out _).mono (fun e w h => ⟨h.1, ⟨_, h.2⟩⟩)))
    go_wp2_with fail
    go_returns
    exact ⟨by first | rfl | simp, (by first | exact H1.out | exact H1.out.drewN _ | exact (H1.out.drewN _).drewN _), (by first | exact HB.out | exact below_drewN HB.out _ | exact below_drewN (below_drewN HB.out _) _)⟩
end Go.Proofs.Ytgejpggbmgiocaa
