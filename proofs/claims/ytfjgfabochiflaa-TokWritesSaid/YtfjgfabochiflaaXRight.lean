/- regex.Right. -/
import Derived.Test.YtfjgfabochiflaaShaped
namespace Go.Proofs.Ytfjgfabochiflaa
open Go.RowKit

set_option maxRecDepth 100000 in
set_option maxHeartbeats 4000000 in
theorem xright_any (t : Tr) (A : Option Addr) (n c : Nat) (w : World) (h : TrIn w t A n) :
    Calls Try.prog 65 #[.agg #[.int .i64 t.kind, .int .u64 t.s0, .int .u64 t.s1, .int .u64 t.s2, .int .u64 t.s3, .int .i64 t.lo, .int .i64 t.hi, .slice A n c]] w fun e w' =>
      e = .returned (.int .i64 (wrongT t)) ∧ Below w.heap.size w w' := by
  have hb0 : Below w.heap.size w (w.alloc (.cells #[.int .i64 t.kind, .int .u64 t.s0, .int .u64 t.s1, .int .u64 t.s2, .int .u64 t.s3, .int .i64 t.lo, .int .i64 t.hi, .slice A n c] 29)) :=
    (Below.refl _ _).alloc (Nat.le_refl _) _
  have hgl : w.heap.size < (w.alloc (.cells #[.int .i64 t.kind, .int .u64 t.s0, .int .u64 t.s1, .int .u64 t.s2, .int .u64 t.s3, .int .i64 t.lo, .int .i64 t.hi, .slice A n c] 29)).heap.size := by simp
  obtain ⟨w1, hw1⟩ : ∃ w1, w1 = w.alloc (.cells #[.int .i64 t.kind, .int .u64 t.s0, .int .u64 t.s1, .int .u64 t.s2, .int .u64 t.s3, .int .i64 t.lo, .int .i64 t.hi, .slice A n c] 29) := ⟨_, rfl⟩
  have q0 : w1.cell? ⟨w.heap.size, 0, none⟩ = some (.int .i64 t.kind) := by rw [hw1]; simp
  have q1 : w1.cell? ⟨w.heap.size, 1, none⟩ = some (.int .u64 t.s0) := by rw [hw1]; simp
  have q2 : w1.cell? ⟨w.heap.size, 2, none⟩ = some (.int .u64 t.s1) := by rw [hw1]; simp
  have q3 : w1.cell? ⟨w.heap.size, 3, none⟩ = some (.int .u64 t.s2) := by rw [hw1]; simp
  have q4 : w1.cell? ⟨w.heap.size, 4, none⟩ = some (.int .u64 t.s3) := by rw [hw1]; simp
  have q5 : w1.cell? ⟨w.heap.size, 5, none⟩ = some (.int .i64 t.lo) := by rw [hw1]; simp
  have q6 : w1.cell? ⟨w.heap.size, 6, none⟩ = some (.int .i64 t.hi) := by rw [hw1]; simp
  have q7 : w1.cell? ⟨w.heap.size, 7, none⟩ = some (.slice A n c) := by rw [hw1]; simp
  rw [← hw1] at hb0 hgl
  have HT := Lib.hid (h.keep hb0)
  have HB := Lib.hid hb0
  clear h hb0
  have go : ∀ (w2 : World), Below w1.heap.size w1 w2 → ∀ j v, w1.cell? ⟨w.heap.size, j, none⟩ = some v → w2.cell? ⟨w.heap.size, j, none⟩ = some v := fun w2 hb j v hv => (hb.cell (p := ⟨w.heap.size, j, none⟩) hgl).trans hv
  have GO := Lib.hid go
  clear go
  obtain ⟨res, hres⟩ : ∃ res, res = wrongT t := ⟨_, rfl⟩
  rw [← hres]
  have HR := Lib.hid hres
  clear hres
  obtain ⟨dd, hdd⟩ : ∃ dd, dd = decide (30 < t.height) := ⟨_, rfl⟩
  obtain ⟨nn, hnn⟩ : ∃ nn, nn = min t.nodes (512 + 1) := ⟨_, rfl⟩
  have HD := Lib.hid (fun w' h => deep_any t 30 A n c w' (by omega) h)
  have HNN := Lib.hid (fun w' h => nodes_any t 512 A n c w' (by omega) h)
  have HE := Lib.hid (fun w' h => shaped_any t A n c w' h)
  rw [← hdd] at HD
  rw [← hnn] at HNN
  have arm : True := trivial
  by_cases hh : 30 < t.height
  · obtain rfl : dd = true := by rw [hdd]; simpa using hh
    obtain rfl : res = 2 := by rw [HR.out]; unfold wrongT; rw [if_pos (.inl hh)]
    clear hh hdd hnn
    go_enter Try.func65, Try.ntmps65
    go_upto_region 1 with (fail)
    rw [← hw1]
    clear hw1
    go_wp2_with (go_at_call 100; refine (HD.out _ HT.out).mono ?_; rintro e w2 ⟨rfl, hb2⟩; have HB2 := Lib.hid hb2; clear hb2)
    go_returns
    exact ⟨by first | rfl | simp, HB.out.trans (HB2.out.mono HB.out.size)⟩
  · obtain rfl : dd = false := by rw [hdd]; simpa using hh
    by_cases hn : 512 < t.nodes
    · have d2 : decide (512 < (nn : Int)) = true := by simp; omega
      obtain rfl : res = 2 := by rw [HR.out]; unfold wrongT; rw [if_pos (.inr hn)]
      clear hh hn hdd hnn
      go_enter Try.func65, Try.ntmps65
      go_upto_region 1 with (fail)
      rw [← hw1]
      clear hw1
      go_wp2_with first
        | (go_at_call 100; refine (HD.out _ HT.out).mono ?_; rintro e w2 ⟨rfl, hb2⟩; have r0 := GO.out _ hb2 _ _ q0; have r1 := GO.out _ hb2 _ _ q1; have r2 := GO.out _ hb2 _ _ q2; have r3 := GO.out _ hb2 _ _ q3; have r4 := GO.out _ hb2 _ _ q4; have r5 := GO.out _ hb2 _ _ q5; have r6 := GO.out _ hb2 _ _ q6; have r7 := GO.out _ hb2 _ _ q7; have HB2 := Lib.hid hb2; clear hb2)
        | (go_at_call 101; refine (HNN.out _ (HT.out.keep HB2.out)).mono ?_; rintro e w3 ⟨rfl, hb3⟩; have HB3 := Lib.hid hb3; clear hb3)
      go_returns
      exact ⟨by first | rfl | simp, HB.out.trans ((HB2.out.trans (HB3.out.mono HB2.out.size)).mono HB.out.size)⟩
    · have d2 : decide (512 < (nn : Int)) = false := by simp; omega
      have hr : res = if shp t = true then 0 else 61 := by rw [HR.out]; unfold wrongT; rw [if_neg (by omega)]
      obtain ⟨z, hz⟩ : ∃ z, z = shp t := ⟨_, rfl⟩
      rw [← hz] at HE hr
      clear hh hn hdd hnn hz
      cases z
      · obtain rfl : res = 61 := hr
        go_enter Try.func65, Try.ntmps65
        go_upto_region 1 with (fail)
        rw [← hw1]
        clear hw1
        go_wp2_with first
          | (go_at_call 100; refine (HD.out _ HT.out).mono ?_; rintro e w2 ⟨rfl, hb2⟩; have r0 := GO.out _ hb2 _ _ q0; have r1 := GO.out _ hb2 _ _ q1; have r2 := GO.out _ hb2 _ _ q2; have r3 := GO.out _ hb2 _ _ q3; have r4 := GO.out _ hb2 _ _ q4; have r5 := GO.out _ hb2 _ _ q5; have r6 := GO.out _ hb2 _ _ q6; have r7 := GO.out _ hb2 _ _ q7; have HB2 := Lib.hid hb2; clear hb2)
          | (go_at_call 101; refine (HNN.out _ (HT.out.keep HB2.out)).mono ?_; rintro e w3 ⟨rfl, hb3⟩; have hb3 := HB2.out.trans (hb3.mono HB2.out.size); have t0 := GO.out _ hb3 _ _ q0; have t1 := GO.out _ hb3 _ _ q1; have t2 := GO.out _ hb3 _ _ q2; have t3 := GO.out _ hb3 _ _ q3; have t4 := GO.out _ hb3 _ _ q4; have t5 := GO.out _ hb3 _ _ q5; have t6 := GO.out _ hb3 _ _ q6; have t7 := GO.out _ hb3 _ _ q7; have HB3 := Lib.hid hb3; clear hb3)
          | (go_at_call 102; refine (HE.out _ (HT.out.keep HB3.out)).mono ?_; rintro e w4 ⟨rfl, hb4⟩; have HB4 := Lib.hid hb4; clear hb4)
        go_returns
        exact ⟨by first | rfl | simp, HB.out.trans ((HB3.out.trans (HB4.out.mono HB3.out.size)).mono HB.out.size)⟩
      · obtain rfl : res = 0 := hr
        go_enter Try.func65, Try.ntmps65
        go_upto_region 1 with (fail)
        rw [← hw1]
        clear hw1
        go_wp2_with first
          | (go_at_call 100; refine (HD.out _ HT.out).mono ?_; rintro e w2 ⟨rfl, hb2⟩; have r0 := GO.out _ hb2 _ _ q0; have r1 := GO.out _ hb2 _ _ q1; have r2 := GO.out _ hb2 _ _ q2; have r3 := GO.out _ hb2 _ _ q3; have r4 := GO.out _ hb2 _ _ q4; have r5 := GO.out _ hb2 _ _ q5; have r6 := GO.out _ hb2 _ _ q6; have r7 := GO.out _ hb2 _ _ q7; have HB2 := Lib.hid hb2; clear hb2)
          | (go_at_call 101; refine (HNN.out _ (HT.out.keep HB2.out)).mono ?_; rintro e w3 ⟨rfl, hb3⟩; have hb3 := HB2.out.trans (hb3.mono HB2.out.size); have t0 := GO.out _ hb3 _ _ q0; have t1 := GO.out _ hb3 _ _ q1; have t2 := GO.out _ hb3 _ _ q2; have t3 := GO.out _ hb3 _ _ q3; have t4 := GO.out _ hb3 _ _ q4; have t5 := GO.out _ hb3 _ _ q5; have t6 := GO.out _ hb3 _ _ q6; have t7 := GO.out _ hb3 _ _ q7; have HB3 := Lib.hid hb3; clear hb3)
          | (go_at_call 102; refine (HE.out _ (HT.out.keep HB3.out)).mono ?_; rintro e w4 ⟨rfl, hb4⟩; have HB4 := Lib.hid hb4; clear hb4)
        go_returns
        exact ⟨by first | rfl | simp, HB.out.trans ((HB3.out.trans (HB4.out.mono HB3.out.size)).mono HB.out.size)⟩
end Go.Proofs.Ytfjgfabochiflaa
