/- RF1, RF2 of this seat, in one text. -/
import Derived.Test.YtgejpggbmgiocaaM25
import Derived.Test.YtgejpggbmgiocaaM26
import Derived.Deep.RegionWith
/- What the reference holds for a fault. -/
namespace Go.Proofs.Ytgejpggbmgiocaa
open Go.RowKit
def FRes (B g gr gk : Nat) (w0 W : World) (prg : List Value) (room fuel : Int) (s : St) (vs vp vg vt : Value) (r : Bool) (e : Ending) (w' : World) : Prop :=
  e = .returned (.bool r) ∧ RR B g gr gk w0 w' prg room fuel s vs vp vg vt ∧ Below W.heap.size W w'
set_option maxRecDepth 100000 in
set_option maxHeartbeats 4000000 in
theorem rf_1 (B g gr gk : Nat) (w0 W : World) (prg : List Value) (room fuel : Int) (s : St) (vs vp vg vt : Value) (a b c d : Int) (h : RR B g gr gk w0 W prg room fuel s vs vp vg vt) :
    Calls Try.prog 33 #[.pointer (some ⟨g, 0, none⟩), .agg #[.int .i64 1, .int .i64 a, .int .i64 b, .int .i64 c, .int .i64 d]] W (FRes B g gr gk w0 W prg room fuel s vs vp vg vt false) := by
  have H1 := Lib.hid (h.alloc (.cells #[.int .i64 1, .int .i64 a, .int .i64 b, .int .i64 c, .int .i64 d] 40))
  have hlt := h.lt
  have HB := Lib.hid ((Below.refl W.heap.size W).alloc (Nat.le_refl _) (.cells #[.int .i64 1, .int .i64 a, .int .i64 b, .int .i64 c, .int .i64 d] 40))
  clear h
  go_enter Try.func33, Try.ntmps33
  go_wp2_with fail
  go_returns
  exact ⟨by first | rfl | simp, (by first | exact H1.out | exact H1.out.drewN _ | exact (H1.out.drewN _).drewN _), (by first | exact HB.out | exact below_drewN HB.out _ | exact below_drewN (below_drewN HB.out _) _)⟩
set_option maxRecDepth 100000 in
set_option maxHeartbeats 4000000 in
theorem rf_4 (B g gr gk : Nat) (w0 W : World) (prg : List Value) (room fuel : Int) (s : St) (vs vp vg vt : Value) (a b c d : Int) (h : RR B g gr gk w0 W prg room fuel s vs vp vg vt) :
    Calls Try.prog 33 #[.pointer (some ⟨g, 0, none⟩), .agg #[.int .i64 4, .int .i64 a, .int .i64 b, .int .i64 c, .int .i64 d]] W (FRes B g gr gk w0 W prg room fuel s vs vp vg vt false) := by
  have H1 := Lib.hid (h.alloc (.cells #[.int .i64 4, .int .i64 a, .int .i64 b, .int .i64 c, .int .i64 d] 40))
  have hlt := h.lt
  have HB := Lib.hid ((Below.refl W.heap.size W).alloc (Nat.le_refl _) (.cells #[.int .i64 4, .int .i64 a, .int .i64 b, .int .i64 c, .int .i64 d] 40))
  clear h
  go_enter Try.func33, Try.ntmps33
  go_wp2_with fail
  go_returns
  exact ⟨by first | rfl | simp, (by first | exact H1.out | exact H1.out.drewN _ | exact (H1.out.drewN _).drewN _), (by first | exact HB.out | exact below_drewN HB.out _ | exact below_drewN (below_drewN HB.out _) _)⟩
set_option maxRecDepth 100000 in
set_option maxHeartbeats 4000000 in
theorem rf_14 (B g gr gk : Nat) (w0 W : World) (prg : List Value) (room fuel : Int) (s : St) (vs vp vg vt : Value) (a b c d : Int) (h : RR B g gr gk w0 W prg room fuel s vs vp vg vt) :
    Calls Try.prog 33 #[.pointer (some ⟨g, 0, none⟩), .agg #[.int .i64 14, .int .i64 a, .int .i64 b, .int .i64 c, .int .i64 d]] W (FRes B g gr gk w0 W prg room fuel s vs vp vg vt false) := by
  have H1 := Lib.hid (h.alloc (.cells #[.int .i64 14, .int .i64 a, .int .i64 b, .int .i64 c, .int .i64 d] 40))
  have hlt := h.lt
  have HB := Lib.hid ((Below.refl W.heap.size W).alloc (Nat.le_refl _) (.cells #[.int .i64 14, .int .i64 a, .int .i64 b, .int .i64 c, .int .i64 d] 40))
  clear h
  go_enter Try.func33, Try.ntmps33
  go_wp2_with fail
  go_returns
  exact ⟨by first | rfl | simp, (by first | exact H1.out | exact H1.out.drewN _ | exact (H1.out.drewN _).drewN _), (by first | exact HB.out | exact below_drewN HB.out _ | exact below_drewN (below_drewN HB.out _) _)⟩
set_option maxRecDepth 100000 in
set_option maxHeartbeats 4000000 in
theorem rf_16 (B g gr gk : Nat) (w0 W : World) (prg : List Value) (room fuel : Int) (s : St) (vs vp vg vt : Value) (a b c d : Int) (h : RR B g gr gk w0 W prg room fuel s vs vp vg vt) :
    Calls Try.prog 33 #[.pointer (some ⟨g, 0, none⟩), .agg #[.int .i64 16, .int .i64 a, .int .i64 b, .int .i64 c, .int .i64 d]] W (FRes B g gr gk w0 W prg room fuel s vs vp vg vt false) := by
  have H1 := Lib.hid (h.alloc (.cells #[.int .i64 16, .int .i64 a, .int .i64 b, .int .i64 c, .int .i64 d] 40))
  have hlt := h.lt
  have HB := Lib.hid ((Below.refl W.heap.size W).alloc (Nat.le_refl _) (.cells #[.int .i64 16, .int .i64 a, .int .i64 b, .int .i64 c, .int .i64 d] 40))
  clear h
  go_enter Try.func33, Try.ntmps33
  go_wp2_with fail
  go_returns
  exact ⟨by first | rfl | simp, (by first | exact H1.out | exact H1.out.drewN _ | exact (H1.out.drewN _).drewN _), (by first | exact HB.out | exact below_drewN HB.out _ | exact below_drewN (below_drewN HB.out _) _)⟩
set_option maxRecDepth 100000 in
set_option maxHeartbeats 4000000 in
theorem rf_9 (B g gr gk : Nat) (w0 W : World) (prg : List Value) (room fuel : Int) (s : St) (vs vp vg vt : Value) (a b c d : Int) (ha : a = 0 ∨ a = 1) (h : RR B g gr gk w0 W prg room fuel s vs vp vg vt) :
    Calls Try.prog 33 #[.pointer (some ⟨g, 0, none⟩), .agg #[.int .i64 9, .int .i64 a, .int .i64 b, .int .i64 c, .int .i64 d]] W (FRes B g gr gk w0 W prg room fuel s vs vp vg vt false) := by
  have H1 := Lib.hid (h.alloc (.cells #[.int .i64 9, .int .i64 a, .int .i64 b, .int .i64 c, .int .i64 d] 40))
  have hlt := h.lt
  have HB := Lib.hid ((Below.refl W.heap.size W).alloc (Nat.le_refl _) (.cells #[.int .i64 9, .int .i64 a, .int .i64 b, .int .i64 c, .int .i64 d] 40))
  have HM := Lib.hid (fun v W => rmark_any v a ha W)
  clear ha
  clear h
  go_enter Try.func33, Try.ntmps33
  go_wp2_with (go_at_call 43; refine (HM.out _ _).mono ?_; rintro e w' ⟨rfl, rfl⟩)
  go_returns
  exact ⟨by first | rfl | simp, (by first | exact H1.out | exact H1.out.drewN _ | exact (H1.out.drewN _).drewN _), (by first | exact HB.out | exact below_drewN HB.out _ | exact below_drewN (below_drewN HB.out _) _)⟩
set_option maxRecDepth 100000 in
set_option maxHeartbeats 4000000 in
theorem rf_9_bad (B g gr gk : Nat) (w0 W : World) (prg : List Value) (room fuel : Int) (s : St) (vs vp vg vt : Value) (a b c d : Int) (ha : ¬ (a = 0 ∨ a = 1)) (h : RR B g gr gk w0 W prg room fuel s vs vp vg vt) :
    Calls Try.prog 33 #[.pointer (some ⟨g, 0, none⟩), .agg #[.int .i64 9, .int .i64 a, .int .i64 b, .int .i64 c, .int .i64 d]] W (FRes B g gr gk w0 W prg room fuel s vs vp vg vt true) := by
  have H1 := Lib.hid (h.alloc (.cells #[.int .i64 9, .int .i64 a, .int .i64 b, .int .i64 c, .int .i64 d] 40))
  have hlt := h.lt
  have HB := Lib.hid ((Below.refl W.heap.size W).alloc (Nat.le_refl _) (.cells #[.int .i64 9, .int .i64 a, .int .i64 b, .int .i64 c, .int .i64 d] 40))
  have HM := Lib.hid (fun v W => rmark_bad v a ha W)
  clear ha
  clear h
  go_enter Try.func33, Try.ntmps33
  go_wp2_with (go_at_call 43; refine (HM.out _ _).mono ?_; rintro e w' ⟨rfl, rfl⟩)
  go_returns
  exact ⟨by first | rfl | simp, (by first | exact H1.out | exact H1.out.drewN _ | exact (H1.out.drewN _).drewN _), (by first | exact HB.out | exact below_drewN HB.out _ | exact below_drewN (below_drewN HB.out _) _)⟩
set_option maxRecDepth 100000 in
set_option maxHeartbeats 4000000 in
theorem rf_10 (B g gr gk : Nat) (w0 W : World) (prg : List Value) (room fuel : Int) (s : St) (vs vp vg vt : Value) (a b c d : Int) (ha : a = 0 ∨ a = 1) (h : RR B g gr gk w0 W prg room fuel s vs vp vg vt) :
    Calls Try.prog 33 #[.pointer (some ⟨g, 0, none⟩), .agg #[.int .i64 10, .int .i64 a, .int .i64 b, .int .i64 c, .int .i64 d]] W (FRes B g gr gk w0 W prg room fuel s vs vp vg vt false) := by
  have H1 := Lib.hid (h.alloc (.cells #[.int .i64 10, .int .i64 a, .int .i64 b, .int .i64 c, .int .i64 d] 40))
  have hlt := h.lt
  have HB := Lib.hid ((Below.refl W.heap.size W).alloc (Nat.le_refl _) (.cells #[.int .i64 10, .int .i64 a, .int .i64 b, .int .i64 c, .int .i64 d] 40))
  have HM := Lib.hid (fun v W => rmark_any v a ha W)
  clear ha
  clear h
  go_enter Try.func33, Try.ntmps33
  go_wp2_with (go_at_call 43; refine (HM.out _ _).mono ?_; rintro e w' ⟨rfl, rfl⟩)
  go_returns
  exact ⟨by first | rfl | simp, (by first | exact H1.out | exact H1.out.drewN _ | exact (H1.out.drewN _).drewN _), (by first | exact HB.out | exact below_drewN HB.out _ | exact below_drewN (below_drewN HB.out _) _)⟩
set_option maxRecDepth 100000 in
set_option maxHeartbeats 4000000 in
theorem rf_10_bad (B g gr gk : Nat) (w0 W : World) (prg : List Value) (room fuel : Int) (s : St) (vs vp vg vt : Value) (a b c d : Int) (ha : ¬ (a = 0 ∨ a = 1)) (h : RR B g gr gk w0 W prg room fuel s vs vp vg vt) :
    Calls Try.prog 33 #[.pointer (some ⟨g, 0, none⟩), .agg #[.int .i64 10, .int .i64 a, .int .i64 b, .int .i64 c, .int .i64 d]] W (FRes B g gr gk w0 W prg room fuel s vs vp vg vt true) := by
  have H1 := Lib.hid (h.alloc (.cells #[.int .i64 10, .int .i64 a, .int .i64 b, .int .i64 c, .int .i64 d] 40))
  have hlt := h.lt
  have HB := Lib.hid ((Below.refl W.heap.size W).alloc (Nat.le_refl _) (.cells #[.int .i64 10, .int .i64 a, .int .i64 b, .int .i64 c, .int .i64 d] 40))
  have HM := Lib.hid (fun v W => rmark_bad v a ha W)
  clear ha
  clear h
  go_enter Try.func33, Try.ntmps33
  go_wp2_with (go_at_call 43; refine (HM.out _ _).mono ?_; rintro e w' ⟨rfl, rfl⟩)
  go_returns
  exact ⟨by first | rfl | simp, (by first | exact H1.out | exact H1.out.drewN _ | exact (H1.out.drewN _).drewN _), (by first | exact HB.out | exact below_drewN HB.out _ | exact below_drewN (below_drewN HB.out _) _)⟩
set_option maxRecDepth 100000 in
set_option maxHeartbeats 4000000 in
theorem rf_11 (B g gr gk : Nat) (w0 W : World) (prg : List Value) (room fuel : Int) (s : St) (vs vp vg vt : Value) (a b c d : Int) (ha : a = 0 ∨ a = 1) (h : RR B g gr gk w0 W prg room fuel s vs vp vg vt) :
    Calls Try.prog 33 #[.pointer (some ⟨g, 0, none⟩), .agg #[.int .i64 11, .int .i64 a, .int .i64 b, .int .i64 c, .int .i64 d]] W (FRes B g gr gk w0 W prg room fuel s vs vp vg vt false) := by
  have H1 := Lib.hid (h.alloc (.cells #[.int .i64 11, .int .i64 a, .int .i64 b, .int .i64 c, .int .i64 d] 40))
  have hlt := h.lt
  have HB := Lib.hid ((Below.refl W.heap.size W).alloc (Nat.le_refl _) (.cells #[.int .i64 11, .int .i64 a, .int .i64 b, .int .i64 c, .int .i64 d] 40))
  have HM := Lib.hid (fun v W => rmark_any v a ha W)
  clear ha
  clear h
  go_enter Try.func33, Try.ntmps33
  go_wp2_with (go_at_call 43; refine (HM.out _ _).mono ?_; rintro e w' ⟨rfl, rfl⟩)
  go_returns
  exact ⟨by first | rfl | simp, (by first | exact H1.out | exact H1.out.drewN _ | exact (H1.out.drewN _).drewN _), (by first | exact HB.out | exact below_drewN HB.out _ | exact below_drewN (below_drewN HB.out _) _)⟩
set_option maxRecDepth 100000 in
set_option maxHeartbeats 4000000 in
theorem rf_11_bad (B g gr gk : Nat) (w0 W : World) (prg : List Value) (room fuel : Int) (s : St) (vs vp vg vt : Value) (a b c d : Int) (ha : ¬ (a = 0 ∨ a = 1)) (h : RR B g gr gk w0 W prg room fuel s vs vp vg vt) :
    Calls Try.prog 33 #[.pointer (some ⟨g, 0, none⟩), .agg #[.int .i64 11, .int .i64 a, .int .i64 b, .int .i64 c, .int .i64 d]] W (FRes B g gr gk w0 W prg room fuel s vs vp vg vt true) := by
  have H1 := Lib.hid (h.alloc (.cells #[.int .i64 11, .int .i64 a, .int .i64 b, .int .i64 c, .int .i64 d] 40))
  have hlt := h.lt
  have HB := Lib.hid ((Below.refl W.heap.size W).alloc (Nat.le_refl _) (.cells #[.int .i64 11, .int .i64 a, .int .i64 b, .int .i64 c, .int .i64 d] 40))
  have HM := Lib.hid (fun v W => rmark_bad v a ha W)
  clear ha
  clear h
  go_enter Try.func33, Try.ntmps33
  go_wp2_with (go_at_call 43; refine (HM.out _ _).mono ?_; rintro e w' ⟨rfl, rfl⟩)
  go_returns
  exact ⟨by first | rfl | simp, (by first | exact H1.out | exact H1.out.drewN _ | exact (H1.out.drewN _).drewN _), (by first | exact HB.out | exact below_drewN HB.out _ | exact below_drewN (below_drewN HB.out _) _)⟩
end Go.Proofs.Ytgejpggbmgiocaa
/- What the reference holds for a fault. -/
namespace Go.Proofs.Ytgejpggbmgiocaa
open Go.RowKit
set_option maxRecDepth 100000 in
set_option maxHeartbeats 4000000 in
theorem rf_low (B g gr gk : Nat) (w0 W : World) (prg : List Value) (room fuel : Int) (s : St) (vs vp vg vt : Value) (op a b c d : Int) (ho : op < 1) (h : RR B g gr gk w0 W prg room fuel s vs vp vg vt) :
    Calls Try.prog 33 #[.pointer (some ⟨g, 0, none⟩), .agg #[.int .i64 op, .int .i64 a, .int .i64 b, .int .i64 c, .int .i64 d]] W (FRes B g gr gk w0 W prg room fuel s vs vp vg vt true) := by
  have H1 := Lib.hid (h.alloc (.cells #[.int .i64 op, .int .i64 a, .int .i64 b, .int .i64 c, .int .i64 d] 40))
  have hlt := h.lt
  have HB := Lib.hid ((Below.refl W.heap.size W).alloc (Nat.le_refl _) (.cells #[.int .i64 op, .int .i64 a, .int .i64 b, .int .i64 c, .int .i64 d] 40))
  have o1 : (op == 1) = false := by simp; omega
  have o4 : (op == 4) = false := by simp; omega
  have o14 : (op == 14) = false := by simp; omega
  have o16 : (op == 16) = false := by simp; omega
  have o9 : (op == 9) = false := by simp; omega
  have o10 : (op == 10) = false := by simp; omega
  have o11 : (op == 11) = false := by simp; omega
  have l1 : decide (op < 1) = true := by simpa using ho
  clear ho
  clear h
  go_enter Try.func33, Try.ntmps33
  go_wp2_with fail
  go_returns
  exact ⟨by first | rfl | simp, (by first | exact H1.out | exact H1.out.drewN _ | exact (H1.out.drewN _).drewN _), (by first | exact HB.out | exact below_drewN HB.out _ | exact below_drewN (below_drewN HB.out _) _)⟩
set_option maxRecDepth 100000 in
set_option maxHeartbeats 4000000 in
theorem rf_high (B g gr gk : Nat) (w0 W : World) (prg : List Value) (room fuel : Int) (s : St) (vs vp vg vt : Value) (op a b c d : Int) (ho : 17 < op) (h : RR B g gr gk w0 W prg room fuel s vs vp vg vt) :
    Calls Try.prog 33 #[.pointer (some ⟨g, 0, none⟩), .agg #[.int .i64 op, .int .i64 a, .int .i64 b, .int .i64 c, .int .i64 d]] W (FRes B g gr gk w0 W prg room fuel s vs vp vg vt true) := by
  have H1 := Lib.hid (h.alloc (.cells #[.int .i64 op, .int .i64 a, .int .i64 b, .int .i64 c, .int .i64 d] 40))
  have hlt := h.lt
  have HB := Lib.hid ((Below.refl W.heap.size W).alloc (Nat.le_refl _) (.cells #[.int .i64 op, .int .i64 a, .int .i64 b, .int .i64 c, .int .i64 d] 40))
  have o1 : (op == 1) = false := by simp; omega
  have o4 : (op == 4) = false := by simp; omega
  have o14 : (op == 14) = false := by simp; omega
  have o16 : (op == 16) = false := by simp; omega
  have o9 : (op == 9) = false := by simp; omega
  have o10 : (op == 10) = false := by simp; omega
  have o11 : (op == 11) = false := by simp; omega
  have l1 : decide (op < 1) = false := by simp; omega
  have l2 : decide (17 < op) = true := by simpa using ho
  clear ho
  clear h
  go_enter Try.func33, Try.ntmps33
  go_wp2_with fail
  go_returns
  exact ⟨by first | rfl | simp, (by first | exact H1.out | exact H1.out.drewN _ | exact (H1.out.drewN _).drewN _), (by first | exact HB.out | exact below_drewN HB.out _ | exact below_drewN (below_drewN HB.out _) _)⟩
set_option maxRecDepth 100000 in
set_option maxHeartbeats 4000000 in
theorem rf_reg (B g gr gk : Nat) (w0 W : World) (prg : List Value) (room fuel : Int) (s : St) (vs vp vg vt : Value) (op a b c d : Int) (h0 : 1 ≤ op) (h1 : op ≤ 17) (hn : op ≠ 1 ∧ op ≠ 4 ∧ op ≠ 14 ∧ op ≠ 16 ∧ op ≠ 9 ∧ op ≠ 10 ∧ op ≠ 11) (ha : isReg a = false) (h : RR B g gr gk w0 W prg room fuel s vs vp vg vt) :
    Calls Try.prog 33 #[.pointer (some ⟨g, 0, none⟩), .agg #[.int .i64 op, .int .i64 a, .int .i64 b, .int .i64 c, .int .i64 d]] W (FRes B g gr gk w0 W prg room fuel s vs vp vg vt true) := by
  have H1 := Lib.hid (h.alloc (.cells #[.int .i64 op, .int .i64 a, .int .i64 b, .int .i64 c, .int .i64 d] 40))
  have hlt := h.lt
  have HB := Lib.hid ((Below.refl W.heap.size W).alloc (Nat.le_refl _) (.cells #[.int .i64 op, .int .i64 a, .int .i64 b, .int .i64 c, .int .i64 d] 40))
  have o1 : (op == 1) = false := by simp; omega
  have o4 : (op == 4) = false := by simp; omega
  have o14 : (op == 14) = false := by simp; omega
  have o16 : (op == 16) = false := by simp; omega
  have o9 : (op == 9) = false := by simp; omega
  have o10 : (op == 10) = false := by simp; omega
  have o11 : (op == 11) = false := by simp; omega
  have l1 : decide (op < 1) = false := by simp; omega
  have l2 : decide (17 < op) = false := by simp; omega
  have HRA := Lib.hid (fun v W => rreg_any v a W)
  rw [ha] at HRA
  clear h0 h1 hn ha
  clear h
  go_enter Try.func33, Try.ntmps33
  go_wp2_with (go_at_call 44; refine (HRA.out _ _).mono ?_; rintro e w' ⟨rfl, rfl⟩)
  go_returns
  exact ⟨by first | rfl | simp, (by first | exact H1.out | exact H1.out.drewN _ | exact (H1.out.drewN _).drewN _), (by first | exact HB.out | exact below_drewN HB.out _ | exact below_drewN (below_drewN HB.out _) _)⟩
set_option maxRecDepth 100000 in
set_option maxHeartbeats 4000000 in
theorem rf_3_b (B g gr gk : Nat) (w0 W : World) (prg : List Value) (room fuel : Int) (s : St) (vs vp vg vt : Value) (a b c d : Int) (ha : isReg a = true) (hb : isReg b = false) (h : RR B g gr gk w0 W prg room fuel s vs vp vg vt) :
    Calls Try.prog 33 #[.pointer (some ⟨g, 0, none⟩), .agg #[.int .i64 3, .int .i64 a, .int .i64 b, .int .i64 c, .int .i64 d]] W (FRes B g gr gk w0 W prg room fuel s vs vp vg vt true) := by
  have H1 := Lib.hid (h.alloc (.cells #[.int .i64 3, .int .i64 a, .int .i64 b, .int .i64 c, .int .i64 d] 40))
  have hlt := h.lt
  have HB := Lib.hid ((Below.refl W.heap.size W).alloc (Nat.le_refl _) (.cells #[.int .i64 3, .int .i64 a, .int .i64 b, .int .i64 c, .int .i64 d] 40))
  have HRA := Lib.hid (fun v W => rreg_any v a W)
  have HRB := Lib.hid (fun v W => rreg_any v b W)
  rw [ha] at HRA
  rw [hb] at HRB
  clear ha hb
  clear h
  go_enter Try.func33, Try.ntmps33
  go_wp2_with (first | (go_at_call_of 44 (Value.int IntKind.i64 a); refine (HRA.out _ _).mono ?_; rintro e w' ⟨rfl, rfl⟩) | (go_at_call_of 44 (Value.int IntKind.i64 b); refine (HRB.out _ _).mono ?_; rintro e w' ⟨rfl, rfl⟩))
  go_returns
  exact ⟨by first | rfl | simp, (by first | exact H1.out | exact H1.out.drewN _ | exact (H1.out.drewN _).drewN _), (by first | exact HB.out | exact below_drewN HB.out _ | exact below_drewN (below_drewN HB.out _) _)⟩
set_option maxRecDepth 100000 in
set_option maxHeartbeats 4000000 in
theorem rf_8_b (B g gr gk : Nat) (w0 W : World) (prg : List Value) (room fuel : Int) (s : St) (vs vp vg vt : Value) (a b c d : Int) (ha : isReg a = true) (hb : isReg b = false) (h : RR B g gr gk w0 W prg room fuel s vs vp vg vt) :
    Calls Try.prog 33 #[.pointer (some ⟨g, 0, none⟩), .agg #[.int .i64 8, .int .i64 a, .int .i64 b, .int .i64 c, .int .i64 d]] W (FRes B g gr gk w0 W prg room fuel s vs vp vg vt true) := by
  have H1 := Lib.hid (h.alloc (.cells #[.int .i64 8, .int .i64 a, .int .i64 b, .int .i64 c, .int .i64 d] 40))
  have hlt := h.lt
  have HB := Lib.hid ((Below.refl W.heap.size W).alloc (Nat.le_refl _) (.cells #[.int .i64 8, .int .i64 a, .int .i64 b, .int .i64 c, .int .i64 d] 40))
  have HRA := Lib.hid (fun v W => rreg_any v a W)
  have HRB := Lib.hid (fun v W => rreg_any v b W)
  rw [ha] at HRA
  rw [hb] at HRB
  clear ha hb
  clear h
  go_enter Try.func33, Try.ntmps33
  go_wp2_with (first | (go_at_call_of 44 (Value.int IntKind.i64 a); refine (HRA.out _ _).mono ?_; rintro e w' ⟨rfl, rfl⟩) | (go_at_call_of 44 (Value.int IntKind.i64 b); refine (HRB.out _ _).mono ?_; rintro e w' ⟨rfl, rfl⟩))
  go_returns
  exact ⟨by first | rfl | simp, (by first | exact H1.out | exact H1.out.drewN _ | exact (H1.out.drewN _).drewN _), (by first | exact HB.out | exact below_drewN HB.out _ | exact below_drewN (below_drewN HB.out _) _)⟩
set_option maxRecDepth 100000 in
set_option maxHeartbeats 4000000 in
theorem rf_13_b (B g gr gk : Nat) (w0 W : World) (prg : List Value) (room fuel : Int) (s : St) (vs vp vg vt : Value) (a b c d : Int) (ha : isReg a = true) (hb : isReg b = false) (h : RR B g gr gk w0 W prg room fuel s vs vp vg vt) :
    Calls Try.prog 33 #[.pointer (some ⟨g, 0, none⟩), .agg #[.int .i64 13, .int .i64 a, .int .i64 b, .int .i64 c, .int .i64 d]] W (FRes B g gr gk w0 W prg room fuel s vs vp vg vt true) := by
  have H1 := Lib.hid (h.alloc (.cells #[.int .i64 13, .int .i64 a, .int .i64 b, .int .i64 c, .int .i64 d] 40))
  have hlt := h.lt
  have HB := Lib.hid ((Below.refl W.heap.size W).alloc (Nat.le_refl _) (.cells #[.int .i64 13, .int .i64 a, .int .i64 b, .int .i64 c, .int .i64 d] 40))
  have HRA := Lib.hid (fun v W => rreg_any v a W)
  have HRB := Lib.hid (fun v W => rreg_any v b W)
  rw [ha] at HRA
  rw [hb] at HRB
  clear ha hb
  clear h
  go_enter Try.func33, Try.ntmps33
  go_wp2_with (first | (go_at_call_of 44 (Value.int IntKind.i64 a); refine (HRA.out _ _).mono ?_; rintro e w' ⟨rfl, rfl⟩) | (go_at_call_of 44 (Value.int IntKind.i64 b); refine (HRB.out _ _).mono ?_; rintro e w' ⟨rfl, rfl⟩))
  go_returns
  exact ⟨by first | rfl | simp, (by first | exact H1.out | exact H1.out.drewN _ | exact (H1.out.drewN _).drewN _), (by first | exact HB.out | exact below_drewN HB.out _ | exact below_drewN (below_drewN HB.out _) _)⟩
end Go.Proofs.Ytgejpggbmgiocaa
