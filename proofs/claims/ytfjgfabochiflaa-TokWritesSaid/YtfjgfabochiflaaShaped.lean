/- regex.shaped. -/
import Derived.Test.YtfjgfabochiflaaShapedA
namespace Go.Proofs.Ytfjgfabochiflaa
open Go.RowKit

set_option maxRecDepth 100000 in
set_option maxHeartbeats 8000000 in
theorem shaped_any (t : Tr) : ShapedAt t := by
  induction t using Tr.ind with
  | h t ih =>
  intro A n c w h
  have hb0 : Below w.heap.size w (w.alloc (.cells #[.int .i64 t.kind, .int .u64 t.s0, .int .u64 t.s1, .int .u64 t.s2, .int .u64 t.s3, .int .i64 t.lo, .int .i64 t.hi, .slice A n c] 29)) := (Below.refl _ _).alloc (Nat.le_refl _) _
  obtain ⟨KA, KN, KC, hk⟩ := h.out
  have hlen := hk.len
  have hle := hk.le
  have HLE := Lib.hid hlen
  have hc9 := cf39 t ih A n c
  obtain ⟨vb, hvb⟩ : ∃ vb, vb = anyK (fun k => !shp k) t.kids n := ⟨_, rfl⟩
  rw [← hvb] at hc9
  have HVB := Lib.hid hvb
  have HC9 := Lib.hid hc9
  have hc8 := cf38 t t.kind A n c
  obtain ⟨sb, hsb⟩ : ∃ sb, sb = anyK (fun k => decide (k.kind = t.kind)) t.kids n := ⟨_, rfl⟩
  rw [← hsb] at hc8
  have HSB := Lib.hid hsb
  have HC8 := Lib.hid hc8
  obtain ⟨w1, hw1⟩ : ∃ w1, w1 = (w.alloc (.cells #[.int .i64 t.kind, .int .u64 t.s0, .int .u64 t.s1, .int .u64 t.s2, .int .u64 t.s3, .int .i64 t.lo, .int .i64 t.hi, .slice A n c] 29)) := ⟨_, rfl⟩
  rw [← hw1] at hb0
  have hgl : w.heap.size < w1.heap.size := by rw [hw1]; simp
  have q0 : w1.cell? ⟨w.heap.size, 0, none⟩ = some (.int .i64 t.kind) := by rw [hw1]; simp
  have q1 : w1.cell? ⟨w.heap.size, 1, none⟩ = some (.int .u64 t.s0) := by rw [hw1]; simp
  have q2 : w1.cell? ⟨w.heap.size, 2, none⟩ = some (.int .u64 t.s1) := by rw [hw1]; simp
  have q3 : w1.cell? ⟨w.heap.size, 3, none⟩ = some (.int .u64 t.s2) := by rw [hw1]; simp
  have q4 : w1.cell? ⟨w.heap.size, 4, none⟩ = some (.int .u64 t.s3) := by rw [hw1]; simp
  have q5 : w1.cell? ⟨w.heap.size, 5, none⟩ = some (.int .i64 t.lo) := by rw [hw1]; simp
  have q6 : w1.cell? ⟨w.heap.size, 6, none⟩ = some (.int .i64 t.hi) := by rw [hw1]; simp
  have q7 : w1.cell? ⟨w.heap.size, 7, none⟩ = some (.slice A n c) := by rw [hw1]; simp
  have HT := Lib.hid (h.keep hb0)
  have HB := Lib.hid hb0
  clear hvb hc9 hsb hc8 hk h hb0 ih
  obtain ⟨res, hres⟩ : ∃ res, res = shp t := ⟨_, rfl⟩
  have hno := shp_no (t := t)
  rw [← hres] at hno ⊢
  have HN := Lib.hid hno
  have hy : OkT t → res = !vb := fun h => by rw [hres, HVB.out]; exact anyK_shp t n HLE.out h
  have HY := Lib.hid hy
  clear hno hy hres
  obtain ⟨z, hz⟩ : ∃ z, z = decide (t.s0 = 0 ∧ t.s1 = 0 ∧ t.s2 = 0 ∧ t.s3 = 0) := ⟨_, rfl⟩
  have heq := fun W => eq23 t.s0 t.s1 t.s2 t.s3 W
  rw [← hz] at heq
  have HZ := Lib.hid hz
  clear hz
  by_cases k1 : t.kind = 1
  · have e1 : (t.kind == 1) = true := by simpa using k1
    have hok : OkT t ↔ t.lo = 0 ∧ t.hi = 0 ∧ n = 0 := by
      unfold OkT; rw [hlen]; omega
    have HOK := Lib.hid hok
    clear k1 hok heq
    by_cases c1 : t.lo = 0
    · have f_c1 : (t.lo == 0) = true := by simpa using c1
      by_cases c2 : t.hi = 0
      · have f_c2 : (t.hi == 0) = true := by simpa using c2
        by_cases c3 : n = 0
        · have f_c3 : ((n : Int) == 0) = true := by simp; omega
          obtain rfl : res = !vb := HY.out (HOK.out.2 (by omega))
          clear c1 c2 c3
          go_enter Try.func102, Try.ntmps102
          go_upto_region 1 with (fail)
          rw [← hw1]
          clear hw1
          go_upto_region 12 with (fail)
          go_wp2_with (go_at_call 129; refine (HC9.out _ HT.out).mono ?_; rintro e w2 ⟨rfl, hb2⟩; have HB2 := Lib.hid hb2; clear hb2)
          go_returns
          exact ⟨by first | rfl | simp, HB.out.trans (HB2.out.mono HB.out.size)⟩
        · have f_c3 : ((n : Int) == 0) = false := by simp; omega
          obtain rfl : res = false := HN.out (fun h => by have h9 := HOK.out.1 h.ok; omega)
          clear c1 c2 c3
          go_enter Try.func102, Try.ntmps102
          go_upto_region 1 with (fail)
          rw [← hw1]
          clear hw1
          go_wp2_with fail
          go_returns
          exact ⟨by first | rfl | simp, HB.out⟩
      · have f_c2 : (t.hi == 0) = false := by simpa using c2
        obtain rfl : res = false := HN.out (fun h => by have h9 := HOK.out.1 h.ok; omega)
        clear c1 c2
        go_enter Try.func102, Try.ntmps102
        go_upto_region 1 with (fail)
        rw [← hw1]
        clear hw1
        go_wp2_with fail
        go_returns
        exact ⟨by first | rfl | simp, HB.out⟩
    · have f_c1 : (t.lo == 0) = false := by simpa using c1
      obtain rfl : res = false := HN.out (fun h => by have h9 := HOK.out.1 h.ok; omega)
      clear c1
      go_enter Try.func102, Try.ntmps102
      go_upto_region 1 with (fail)
      rw [← hw1]
      clear hw1
      go_wp2_with fail
      go_returns
      exact ⟨by first | rfl | simp, HB.out⟩
  have e1 : (t.kind == 1) = false := by simpa using k1
  by_cases k2 : t.kind = 2
  · have e2 : (t.kind == 2) = true := by simpa using k2
    have e3 : (t.kind == 3) = false := by simp; omega
    have hok : OkT t ↔ (t.s0 = 0 ∧ t.s1 = 0 ∧ t.s2 = 0 ∧ t.s3 = 0) ∧ t.lo = 0 ∧ t.hi = 0 ∧ n ≠ 1 ∧ ¬ AnyK (fun k => decide (k.kind = t.kind)) t.kids n := by
      unfold OkT; rw [hlen]
      constructor
      · rintro (h | ⟨_, h1, h2, h3, h4, h5, h6⟩ | h)
        · omega
        · exact ⟨h1, h2, h3, h4, h6⟩
        · omega
      · rintro ⟨h1, h2, h3, h4, h6⟩
        exact .inr (.inl ⟨.inl k2, h1, h2, h3, h4, by omega, h6⟩)
    have HOK := Lib.hid hok
    clear k1 k2 hok
    by_cases cz : t.s0 = 0 ∧ t.s1 = 0 ∧ t.s2 = 0 ∧ t.s3 = 0
    · obtain rfl : z = true := by rw [HZ.out]; simpa using cz
      by_cases c1 : t.lo = 0
      · have f_c1 : (t.lo == 0) = true := by simpa using c1
        by_cases c2 : t.hi = 0
        · have f_c2 : (t.hi == 0) = true := by simpa using c2
          by_cases c3 : 2 ≤ n
          · have f_c3 : decide (2 ≤ (n : Int)) = true := by simp; omega
            cases sb with
            | true =>
              obtain rfl : res = false := HN.out (fun h => (HOK.out.1 h.ok).2.2.2.2 (by have h9 := HSB.out; unfold anyK at h9; simpa using h9.symm))
              clear cz c1 c2 c3
              go_enter Try.func102, Try.ntmps102
              go_upto_region 1 with (fail)
              rw [← hw1]
              clear hw1
              go_wp2_with (go_at_call 129; refine (HC8.out w.heap.size _ HT.out q0 hgl).mono ?_; rintro e w2 ⟨rfl, hb2⟩; have r7 := (hb2.cell (p := ⟨w.heap.size, 7, none⟩) hgl).trans q7; have HB2 := Lib.hid hb2; clear hb2)
              go_returns
              exact ⟨by first | rfl | simp, HB.out.trans (HB2.out.mono HB.out.size)⟩
            | false =>
              obtain rfl : res = !vb := HY.out (HOK.out.2 ⟨cz, c1, c2, by omega, by have h9 := HSB.out; unfold anyK at h9; simpa using h9.symm⟩)
              clear cz c1 c2 c3
              go_enter Try.func102, Try.ntmps102
              go_upto_region 1 with (fail)
              rw [← hw1]
              clear hw1
              go_upto_region 12 with (go_at_call 129; refine (HC8.out w.heap.size _ HT.out q0 hgl).mono ?_; rintro e w2 ⟨rfl, hb2⟩; have r7 := (hb2.cell (p := ⟨w.heap.size, 7, none⟩) hgl).trans q7; have HB2 := Lib.hid hb2; clear hb2)
              go_wp2_with (go_at_call 129; refine (HC9.out _ (HT.out.keep HB2.out)).mono ?_; rintro e w3 ⟨rfl, hb3⟩; have HB3 := Lib.hid hb3; clear hb3)
              go_returns
              exact ⟨by first | rfl | simp, HB.out.trans ((HB2.out.trans (HB3.out.mono HB2.out.size)).mono HB.out.size)⟩
          · have f_c3 : decide (2 ≤ (n : Int)) = false := by simp; omega
            by_cases c4 : n = 0
            · have f_c4 : ((n : Int) == 0) = true := by simp; omega
              cases sb with
              | true =>
                obtain rfl : res = false := HN.out (fun h => (HOK.out.1 h.ok).2.2.2.2 (by have h9 := HSB.out; unfold anyK at h9; simpa using h9.symm))
                clear cz c1 c2 c3 c4
                go_enter Try.func102, Try.ntmps102
                go_upto_region 1 with (fail)
                rw [← hw1]
                clear hw1
                go_wp2_with (go_at_call 129; refine (HC8.out w.heap.size _ HT.out q0 hgl).mono ?_; rintro e w2 ⟨rfl, hb2⟩; have r7 := (hb2.cell (p := ⟨w.heap.size, 7, none⟩) hgl).trans q7; have HB2 := Lib.hid hb2; clear hb2)
                go_returns
                exact ⟨by first | rfl | simp, HB.out.trans (HB2.out.mono HB.out.size)⟩
              | false =>
                obtain rfl : res = !vb := HY.out (HOK.out.2 ⟨cz, c1, c2, by omega, by have h9 := HSB.out; unfold anyK at h9; simpa using h9.symm⟩)
                clear cz c1 c2 c3 c4
                go_enter Try.func102, Try.ntmps102
                go_upto_region 1 with (fail)
                rw [← hw1]
                clear hw1
                go_upto_region 12 with (go_at_call 129; refine (HC8.out w.heap.size _ HT.out q0 hgl).mono ?_; rintro e w2 ⟨rfl, hb2⟩; have r7 := (hb2.cell (p := ⟨w.heap.size, 7, none⟩) hgl).trans q7; have HB2 := Lib.hid hb2; clear hb2)
                go_wp2_with (go_at_call 129; refine (HC9.out _ (HT.out.keep HB2.out)).mono ?_; rintro e w3 ⟨rfl, hb3⟩; have HB3 := Lib.hid hb3; clear hb3)
                go_returns
                exact ⟨by first | rfl | simp, HB.out.trans ((HB2.out.trans (HB3.out.mono HB2.out.size)).mono HB.out.size)⟩
            · have f_c4 : ((n : Int) == 0) = false := by simp; omega
              obtain rfl : res = false := HN.out (fun h => by have h9 := HOK.out.1 h.ok; first | exact cz h9.1 | omega)
              clear cz c1 c2 c3 c4
              go_enter Try.func102, Try.ntmps102
              go_upto_region 1 with (fail)
              rw [← hw1]
              clear hw1
              go_wp2_with fail
              go_returns
              exact ⟨by first | rfl | simp, HB.out⟩
        · have f_c2 : (t.hi == 0) = false := by simpa using c2
          obtain rfl : res = false := HN.out (fun h => by have h9 := HOK.out.1 h.ok; first | exact cz h9.1 | omega)
          clear cz c1 c2
          go_enter Try.func102, Try.ntmps102
          go_upto_region 1 with (fail)
          rw [← hw1]
          clear hw1
          go_wp2_with fail
          go_returns
          exact ⟨by first | rfl | simp, HB.out⟩
      · have f_c1 : (t.lo == 0) = false := by simpa using c1
        obtain rfl : res = false := HN.out (fun h => by have h9 := HOK.out.1 h.ok; first | exact cz h9.1 | omega)
        clear cz c1
        go_enter Try.func102, Try.ntmps102
        go_upto_region 1 with (fail)
        rw [← hw1]
        clear hw1
        go_wp2_with fail
        go_returns
        exact ⟨by first | rfl | simp, HB.out⟩
    · obtain rfl : z = false := by rw [HZ.out]; simpa using cz
      obtain rfl : res = false := HN.out (fun h => by have h9 := HOK.out.1 h.ok; first | exact cz h9.1 | omega)
      clear cz
      go_enter Try.func102, Try.ntmps102
      go_upto_region 1 with (fail)
      rw [← hw1]
      clear hw1
      go_wp2_with fail
      go_returns
      exact ⟨by first | rfl | simp, HB.out⟩
  have e2 : (t.kind == 2) = false := by simpa using k2
  by_cases k3 : t.kind = 3
  · have e3 : (t.kind == 3) = true := by simpa using k3
    have hok : OkT t ↔ (t.s0 = 0 ∧ t.s1 = 0 ∧ t.s2 = 0 ∧ t.s3 = 0) ∧ t.lo = 0 ∧ t.hi = 0 ∧ (n ≠ 1 ∧ n ≠ 0) ∧ ¬ AnyK (fun k => decide (k.kind = t.kind)) t.kids n := by
      unfold OkT; rw [hlen]
      constructor
      · rintro (h | ⟨_, h1, h2, h3, h4, h5, h6⟩ | h)
        · omega
        · exact ⟨h1, h2, h3, ⟨h4, fun h0 => h5 ⟨h0, k3⟩⟩, h6⟩
        · omega
      · rintro ⟨h1, h2, h3, ⟨h4, h5⟩, h6⟩
        exact .inr (.inl ⟨.inr k3, h1, h2, h3, h4, fun h0 => h5 h0.1, h6⟩)
    have HOK := Lib.hid hok
    clear k1 k2 k3 hok
    by_cases cz : t.s0 = 0 ∧ t.s1 = 0 ∧ t.s2 = 0 ∧ t.s3 = 0
    · obtain rfl : z = true := by rw [HZ.out]; simpa using cz
      by_cases c1 : t.lo = 0
      · have f_c1 : (t.lo == 0) = true := by simpa using c1
        by_cases c2 : t.hi = 0
        · have f_c2 : (t.hi == 0) = true := by simpa using c2
          by_cases c3 : 2 ≤ n
          · have f_c3 : decide (2 ≤ (n : Int)) = true := by simp; omega
            cases sb with
            | true =>
              obtain rfl : res = false := HN.out (fun h => (HOK.out.1 h.ok).2.2.2.2 (by have h9 := HSB.out; unfold anyK at h9; simpa using h9.symm))
              clear cz c1 c2 c3
              go_enter Try.func102, Try.ntmps102
              go_upto_region 1 with (fail)
              rw [← hw1]
              clear hw1
              go_wp2_with (go_at_call 129; refine (HC8.out w.heap.size _ HT.out q0 hgl).mono ?_; rintro e w2 ⟨rfl, hb2⟩; have r7 := (hb2.cell (p := ⟨w.heap.size, 7, none⟩) hgl).trans q7; have HB2 := Lib.hid hb2; clear hb2)
              go_returns
              exact ⟨by first | rfl | simp, HB.out.trans (HB2.out.mono HB.out.size)⟩
            | false =>
              obtain rfl : res = !vb := HY.out (HOK.out.2 ⟨cz, c1, c2, by omega, by have h9 := HSB.out; unfold anyK at h9; simpa using h9.symm⟩)
              clear cz c1 c2 c3
              go_enter Try.func102, Try.ntmps102
              go_upto_region 1 with (fail)
              rw [← hw1]
              clear hw1
              go_upto_region 12 with (go_at_call 129; refine (HC8.out w.heap.size _ HT.out q0 hgl).mono ?_; rintro e w2 ⟨rfl, hb2⟩; have r7 := (hb2.cell (p := ⟨w.heap.size, 7, none⟩) hgl).trans q7; have HB2 := Lib.hid hb2; clear hb2)
              go_wp2_with (go_at_call 129; refine (HC9.out _ (HT.out.keep HB2.out)).mono ?_; rintro e w3 ⟨rfl, hb3⟩; have HB3 := Lib.hid hb3; clear hb3)
              go_returns
              exact ⟨by first | rfl | simp, HB.out.trans ((HB2.out.trans (HB3.out.mono HB2.out.size)).mono HB.out.size)⟩
          · have f_c3 : decide (2 ≤ (n : Int)) = false := by simp; omega
            obtain rfl : res = false := HN.out (fun h => by have h9 := HOK.out.1 h.ok; first | exact cz h9.1 | omega)
            clear cz c1 c2 c3
            go_enter Try.func102, Try.ntmps102
            go_upto_region 1 with (fail)
            rw [← hw1]
            clear hw1
            go_wp2_with fail
            go_returns
            exact ⟨by first | rfl | simp, HB.out⟩
        · have f_c2 : (t.hi == 0) = false := by simpa using c2
          obtain rfl : res = false := HN.out (fun h => by have h9 := HOK.out.1 h.ok; first | exact cz h9.1 | omega)
          clear cz c1 c2
          go_enter Try.func102, Try.ntmps102
          go_upto_region 1 with (fail)
          rw [← hw1]
          clear hw1
          go_wp2_with fail
          go_returns
          exact ⟨by first | rfl | simp, HB.out⟩
      · have f_c1 : (t.lo == 0) = false := by simpa using c1
        obtain rfl : res = false := HN.out (fun h => by have h9 := HOK.out.1 h.ok; first | exact cz h9.1 | omega)
        clear cz c1
        go_enter Try.func102, Try.ntmps102
        go_upto_region 1 with (fail)
        rw [← hw1]
        clear hw1
        go_wp2_with fail
        go_returns
        exact ⟨by first | rfl | simp, HB.out⟩
    · obtain rfl : z = false := by rw [HZ.out]; simpa using cz
      obtain rfl : res = false := HN.out (fun h => by have h9 := HOK.out.1 h.ok; first | exact cz h9.1 | omega)
      clear cz
      go_enter Try.func102, Try.ntmps102
      go_upto_region 1 with (fail)
      rw [← hw1]
      clear hw1
      go_wp2_with fail
      go_returns
      exact ⟨by first | rfl | simp, HB.out⟩
  have e3 : (t.kind == 3) = false := by simpa using k3
  by_cases k4 : t.kind = 4
  · have e4 : (t.kind == 4) = true := by simpa using k4
    have hok : OkT t ↔ (t.s0 = 0 ∧ t.s1 = 0 ∧ t.s2 = 0 ∧ t.s3 = 0) ∧ n = 1 ∧ 0 ≤ t.lo ∧ t.lo ≤ 20 ∧ (t.hi = -1 ∨ (t.lo ≤ t.hi ∧ t.hi ≤ 20 ∧ ¬ (t.lo = 1 ∧ t.hi = 1))) := by
      unfold OkT; rw [hlen]; omega
    have HOK := Lib.hid hok
    clear k1 k2 k3 k4 hok
    by_cases d1 : t.hi = -1
    · have f_d1 : (t.hi == -1) = true := by simpa using d1
      by_cases cz : t.s0 = 0 ∧ t.s1 = 0 ∧ t.s2 = 0 ∧ t.s3 = 0
      · obtain rfl : z = true := by rw [HZ.out]; simpa using cz
        by_cases c1 : n = 1
        · have f_c1 : ((n : Int) == 1) = true := by simp; omega
          by_cases c2 : 0 ≤ t.lo
          · have f_c2 : decide (0 ≤ t.lo) = true := by simpa using c2
            by_cases c3 : t.lo ≤ 20
            · have f_c3 : decide (t.lo ≤ 20) = true := by simpa using c3
              obtain rfl : res = !vb := HY.out (HOK.out.2 (by omega))
              clear d1 cz c1 c2 c3
              go_enter Try.func102, Try.ntmps102
              go_upto_region 1 with (fail)
              rw [← hw1]
              clear hw1
              go_upto_region 12 with (fail)
              go_wp2_with (go_at_call 129; refine (HC9.out _ HT.out).mono ?_; rintro e w2 ⟨rfl, hb2⟩; have HB2 := Lib.hid hb2; clear hb2)
              go_returns
              exact ⟨by first | rfl | simp, HB.out.trans (HB2.out.mono HB.out.size)⟩
            · have f_c3 : decide (t.lo ≤ 20) = false := by simpa using c3
              obtain rfl : res = false := HN.out (fun h => by have h9 := HOK.out.1 h.ok; first | exact cz h9.1 | omega)
              clear d1 cz c1 c2 c3
              go_enter Try.func102, Try.ntmps102
              go_upto_region 1 with (fail)
              rw [← hw1]
              clear hw1
              go_wp2_with fail
              go_returns
              exact ⟨by first | rfl | simp, HB.out⟩
          · have f_c2 : decide (0 ≤ t.lo) = false := by simpa using c2
            obtain rfl : res = false := HN.out (fun h => by have h9 := HOK.out.1 h.ok; first | exact cz h9.1 | omega)
            clear d1 cz c1 c2
            go_enter Try.func102, Try.ntmps102
            go_upto_region 1 with (fail)
            rw [← hw1]
            clear hw1
            go_wp2_with fail
            go_returns
            exact ⟨by first | rfl | simp, HB.out⟩
        · have f_c1 : ((n : Int) == 1) = false := by simp; omega
          obtain rfl : res = false := HN.out (fun h => by have h9 := HOK.out.1 h.ok; first | exact cz h9.1 | omega)
          clear d1 cz c1
          go_enter Try.func102, Try.ntmps102
          go_upto_region 1 with (fail)
          rw [← hw1]
          clear hw1
          go_wp2_with fail
          go_returns
          exact ⟨by first | rfl | simp, HB.out⟩
      · obtain rfl : z = false := by rw [HZ.out]; simpa using cz
        obtain rfl : res = false := HN.out (fun h => by have h9 := HOK.out.1 h.ok; first | exact cz h9.1 | omega)
        clear d1 cz
        go_enter Try.func102, Try.ntmps102
        go_upto_region 1 with (fail)
        rw [← hw1]
        clear hw1
        go_wp2_with fail
        go_returns
        exact ⟨by first | rfl | simp, HB.out⟩
    · have f_d1 : (t.hi == -1) = false := by simpa using d1
      by_cases d2 : t.lo ≤ t.hi
      · have f_d2 : decide (t.lo ≤ t.hi) = true := by simpa using d2
        by_cases d3 : t.hi ≤ 20
        · have f_d3 : decide (t.hi ≤ 20) = true := by simpa using d3
          by_cases d4 : t.lo = 1
          · have f_d4 : (t.lo == 1) = true := by simpa using d4
            by_cases d5 : t.hi = 1
            · have f_d5 : (t.hi == 1) = true := by simpa using d5
              by_cases cz : t.s0 = 0 ∧ t.s1 = 0 ∧ t.s2 = 0 ∧ t.s3 = 0
              · obtain rfl : z = true := by rw [HZ.out]; simpa using cz
                by_cases c1 : n = 1
                · have f_c1 : ((n : Int) == 1) = true := by simp; omega
                  by_cases c2 : 0 ≤ t.lo
                  · have f_c2 : decide (0 ≤ t.lo) = true := by simpa using c2
                    by_cases c3 : t.lo ≤ 20
                    · have f_c3 : decide (t.lo ≤ 20) = true := by simpa using c3
                      obtain rfl : res = false := HN.out (fun h => by have h9 := HOK.out.1 h.ok; first | exact cz h9.1 | omega)
                      clear d1 d2 d3 d4 d5 cz c1 c2 c3
                      go_enter Try.func102, Try.ntmps102
                      go_upto_region 1 with (fail)
                      rw [← hw1]
                      clear hw1
                      go_wp2_with fail
                      go_returns
                      exact ⟨by first | rfl | simp, HB.out⟩
                    · have f_c3 : decide (t.lo ≤ 20) = false := by simpa using c3
                      obtain rfl : res = false := HN.out (fun h => by have h9 := HOK.out.1 h.ok; first | exact cz h9.1 | omega)
                      clear d1 d2 d3 d4 d5 cz c1 c2 c3
                      go_enter Try.func102, Try.ntmps102
                      go_upto_region 1 with (fail)
                      rw [← hw1]
                      clear hw1
                      go_wp2_with fail
                      go_returns
                      exact ⟨by first | rfl | simp, HB.out⟩
                  · have f_c2 : decide (0 ≤ t.lo) = false := by simpa using c2
                    obtain rfl : res = false := HN.out (fun h => by have h9 := HOK.out.1 h.ok; first | exact cz h9.1 | omega)
                    clear d1 d2 d3 d4 d5 cz c1 c2
                    go_enter Try.func102, Try.ntmps102
                    go_upto_region 1 with (fail)
                    rw [← hw1]
                    clear hw1
                    go_wp2_with fail
                    go_returns
                    exact ⟨by first | rfl | simp, HB.out⟩
                · have f_c1 : ((n : Int) == 1) = false := by simp; omega
                  obtain rfl : res = false := HN.out (fun h => by have h9 := HOK.out.1 h.ok; first | exact cz h9.1 | omega)
                  clear d1 d2 d3 d4 d5 cz c1
                  go_enter Try.func102, Try.ntmps102
                  go_upto_region 1 with (fail)
                  rw [← hw1]
                  clear hw1
                  go_wp2_with fail
                  go_returns
                  exact ⟨by first | rfl | simp, HB.out⟩
              · obtain rfl : z = false := by rw [HZ.out]; simpa using cz
                obtain rfl : res = false := HN.out (fun h => by have h9 := HOK.out.1 h.ok; first | exact cz h9.1 | omega)
                clear d1 d2 d3 d4 d5 cz
                go_enter Try.func102, Try.ntmps102
                go_upto_region 1 with (fail)
                rw [← hw1]
                clear hw1
                go_wp2_with fail
                go_returns
                exact ⟨by first | rfl | simp, HB.out⟩
            · have f_d5 : (t.hi == 1) = false := by simpa using d5
              by_cases cz : t.s0 = 0 ∧ t.s1 = 0 ∧ t.s2 = 0 ∧ t.s3 = 0
              · obtain rfl : z = true := by rw [HZ.out]; simpa using cz
                by_cases c1 : n = 1
                · have f_c1 : ((n : Int) == 1) = true := by simp; omega
                  by_cases c2 : 0 ≤ t.lo
                  · have f_c2 : decide (0 ≤ t.lo) = true := by simpa using c2
                    by_cases c3 : t.lo ≤ 20
                    · have f_c3 : decide (t.lo ≤ 20) = true := by simpa using c3
                      obtain rfl : res = !vb := HY.out (HOK.out.2 (by omega))
                      clear d1 d2 d3 d4 d5 cz c1 c2 c3
                      go_enter Try.func102, Try.ntmps102
                      go_upto_region 1 with (fail)
                      rw [← hw1]
                      clear hw1
                      go_upto_region 12 with (fail)
                      go_wp2_with (go_at_call 129; refine (HC9.out _ HT.out).mono ?_; rintro e w2 ⟨rfl, hb2⟩; have HB2 := Lib.hid hb2; clear hb2)
                      go_returns
                      exact ⟨by first | rfl | simp, HB.out.trans (HB2.out.mono HB.out.size)⟩
                    · have f_c3 : decide (t.lo ≤ 20) = false := by simpa using c3
                      obtain rfl : res = false := HN.out (fun h => by have h9 := HOK.out.1 h.ok; first | exact cz h9.1 | omega)
                      clear d1 d2 d3 d4 d5 cz c1 c2 c3
                      go_enter Try.func102, Try.ntmps102
                      go_upto_region 1 with (fail)
                      rw [← hw1]
                      clear hw1
                      go_wp2_with fail
                      go_returns
                      exact ⟨by first | rfl | simp, HB.out⟩
                  · have f_c2 : decide (0 ≤ t.lo) = false := by simpa using c2
                    obtain rfl : res = false := HN.out (fun h => by have h9 := HOK.out.1 h.ok; first | exact cz h9.1 | omega)
                    clear d1 d2 d3 d4 d5 cz c1 c2
                    go_enter Try.func102, Try.ntmps102
                    go_upto_region 1 with (fail)
                    rw [← hw1]
                    clear hw1
                    go_wp2_with fail
                    go_returns
                    exact ⟨by first | rfl | simp, HB.out⟩
                · have f_c1 : ((n : Int) == 1) = false := by simp; omega
                  obtain rfl : res = false := HN.out (fun h => by have h9 := HOK.out.1 h.ok; first | exact cz h9.1 | omega)
                  clear d1 d2 d3 d4 d5 cz c1
                  go_enter Try.func102, Try.ntmps102
                  go_upto_region 1 with (fail)
                  rw [← hw1]
                  clear hw1
                  go_wp2_with fail
                  go_returns
                  exact ⟨by first | rfl | simp, HB.out⟩
              · obtain rfl : z = false := by rw [HZ.out]; simpa using cz
                obtain rfl : res = false := HN.out (fun h => by have h9 := HOK.out.1 h.ok; first | exact cz h9.1 | omega)
                clear d1 d2 d3 d4 d5 cz
                go_enter Try.func102, Try.ntmps102
                go_upto_region 1 with (fail)
                rw [← hw1]
                clear hw1
                go_wp2_with fail
                go_returns
                exact ⟨by first | rfl | simp, HB.out⟩
          · have f_d4 : (t.lo == 1) = false := by simpa using d4
            by_cases cz : t.s0 = 0 ∧ t.s1 = 0 ∧ t.s2 = 0 ∧ t.s3 = 0
            · obtain rfl : z = true := by rw [HZ.out]; simpa using cz
              by_cases c1 : n = 1
              · have f_c1 : ((n : Int) == 1) = true := by simp; omega
                by_cases c2 : 0 ≤ t.lo
                · have f_c2 : decide (0 ≤ t.lo) = true := by simpa using c2
                  by_cases c3 : t.lo ≤ 20
                  · have f_c3 : decide (t.lo ≤ 20) = true := by simpa using c3
                    obtain rfl : res = !vb := HY.out (HOK.out.2 (by omega))
                    clear d1 d2 d3 d4 cz c1 c2 c3
                    go_enter Try.func102, Try.ntmps102
                    go_upto_region 1 with (fail)
                    rw [← hw1]
                    clear hw1
                    go_upto_region 12 with (fail)
                    go_wp2_with (go_at_call 129; refine (HC9.out _ HT.out).mono ?_; rintro e w2 ⟨rfl, hb2⟩; have HB2 := Lib.hid hb2; clear hb2)
                    go_returns
                    exact ⟨by first | rfl | simp, HB.out.trans (HB2.out.mono HB.out.size)⟩
                  · have f_c3 : decide (t.lo ≤ 20) = false := by simpa using c3
                    obtain rfl : res = false := HN.out (fun h => by have h9 := HOK.out.1 h.ok; first | exact cz h9.1 | omega)
                    clear d1 d2 d3 d4 cz c1 c2 c3
                    go_enter Try.func102, Try.ntmps102
                    go_upto_region 1 with (fail)
                    rw [← hw1]
                    clear hw1
                    go_wp2_with fail
                    go_returns
                    exact ⟨by first | rfl | simp, HB.out⟩
                · have f_c2 : decide (0 ≤ t.lo) = false := by simpa using c2
                  obtain rfl : res = false := HN.out (fun h => by have h9 := HOK.out.1 h.ok; first | exact cz h9.1 | omega)
                  clear d1 d2 d3 d4 cz c1 c2
                  go_enter Try.func102, Try.ntmps102
                  go_upto_region 1 with (fail)
                  rw [← hw1]
                  clear hw1
                  go_wp2_with fail
                  go_returns
                  exact ⟨by first | rfl | simp, HB.out⟩
              · have f_c1 : ((n : Int) == 1) = false := by simp; omega
                obtain rfl : res = false := HN.out (fun h => by have h9 := HOK.out.1 h.ok; first | exact cz h9.1 | omega)
                clear d1 d2 d3 d4 cz c1
                go_enter Try.func102, Try.ntmps102
                go_upto_region 1 with (fail)
                rw [← hw1]
                clear hw1
                go_wp2_with fail
                go_returns
                exact ⟨by first | rfl | simp, HB.out⟩
            · obtain rfl : z = false := by rw [HZ.out]; simpa using cz
              obtain rfl : res = false := HN.out (fun h => by have h9 := HOK.out.1 h.ok; first | exact cz h9.1 | omega)
              clear d1 d2 d3 d4 cz
              go_enter Try.func102, Try.ntmps102
              go_upto_region 1 with (fail)
              rw [← hw1]
              clear hw1
              go_wp2_with fail
              go_returns
              exact ⟨by first | rfl | simp, HB.out⟩
        · have f_d3 : decide (t.hi ≤ 20) = false := by simpa using d3
          by_cases cz : t.s0 = 0 ∧ t.s1 = 0 ∧ t.s2 = 0 ∧ t.s3 = 0
          · obtain rfl : z = true := by rw [HZ.out]; simpa using cz
            by_cases c1 : n = 1
            · have f_c1 : ((n : Int) == 1) = true := by simp; omega
              by_cases c2 : 0 ≤ t.lo
              · have f_c2 : decide (0 ≤ t.lo) = true := by simpa using c2
                by_cases c3 : t.lo ≤ 20
                · have f_c3 : decide (t.lo ≤ 20) = true := by simpa using c3
                  obtain rfl : res = false := HN.out (fun h => by have h9 := HOK.out.1 h.ok; first | exact cz h9.1 | omega)
                  clear d1 d2 d3 cz c1 c2 c3
                  go_enter Try.func102, Try.ntmps102
                  go_upto_region 1 with (fail)
                  rw [← hw1]
                  clear hw1
                  go_wp2_with fail
                  go_returns
                  exact ⟨by first | rfl | simp, HB.out⟩
                · have f_c3 : decide (t.lo ≤ 20) = false := by simpa using c3
                  obtain rfl : res = false := HN.out (fun h => by have h9 := HOK.out.1 h.ok; first | exact cz h9.1 | omega)
                  clear d1 d2 d3 cz c1 c2 c3
                  go_enter Try.func102, Try.ntmps102
                  go_upto_region 1 with (fail)
                  rw [← hw1]
                  clear hw1
                  go_wp2_with fail
                  go_returns
                  exact ⟨by first | rfl | simp, HB.out⟩
              · have f_c2 : decide (0 ≤ t.lo) = false := by simpa using c2
                obtain rfl : res = false := HN.out (fun h => by have h9 := HOK.out.1 h.ok; first | exact cz h9.1 | omega)
                clear d1 d2 d3 cz c1 c2
                go_enter Try.func102, Try.ntmps102
                go_upto_region 1 with (fail)
                rw [← hw1]
                clear hw1
                go_wp2_with fail
                go_returns
                exact ⟨by first | rfl | simp, HB.out⟩
            · have f_c1 : ((n : Int) == 1) = false := by simp; omega
              obtain rfl : res = false := HN.out (fun h => by have h9 := HOK.out.1 h.ok; first | exact cz h9.1 | omega)
              clear d1 d2 d3 cz c1
              go_enter Try.func102, Try.ntmps102
              go_upto_region 1 with (fail)
              rw [← hw1]
              clear hw1
              go_wp2_with fail
              go_returns
              exact ⟨by first | rfl | simp, HB.out⟩
          · obtain rfl : z = false := by rw [HZ.out]; simpa using cz
            obtain rfl : res = false := HN.out (fun h => by have h9 := HOK.out.1 h.ok; first | exact cz h9.1 | omega)
            clear d1 d2 d3 cz
            go_enter Try.func102, Try.ntmps102
            go_upto_region 1 with (fail)
            rw [← hw1]
            clear hw1
            go_wp2_with fail
            go_returns
            exact ⟨by first | rfl | simp, HB.out⟩
      · have f_d2 : decide (t.lo ≤ t.hi) = false := by simpa using d2
        by_cases cz : t.s0 = 0 ∧ t.s1 = 0 ∧ t.s2 = 0 ∧ t.s3 = 0
        · obtain rfl : z = true := by rw [HZ.out]; simpa using cz
          by_cases c1 : n = 1
          · have f_c1 : ((n : Int) == 1) = true := by simp; omega
            by_cases c2 : 0 ≤ t.lo
            · have f_c2 : decide (0 ≤ t.lo) = true := by simpa using c2
              by_cases c3 : t.lo ≤ 20
              · have f_c3 : decide (t.lo ≤ 20) = true := by simpa using c3
                obtain rfl : res = false := HN.out (fun h => by have h9 := HOK.out.1 h.ok; first | exact cz h9.1 | omega)
                clear d1 d2 cz c1 c2 c3
                go_enter Try.func102, Try.ntmps102
                go_upto_region 1 with (fail)
                rw [← hw1]
                clear hw1
                go_wp2_with fail
                go_returns
                exact ⟨by first | rfl | simp, HB.out⟩
              · have f_c3 : decide (t.lo ≤ 20) = false := by simpa using c3
                obtain rfl : res = false := HN.out (fun h => by have h9 := HOK.out.1 h.ok; first | exact cz h9.1 | omega)
                clear d1 d2 cz c1 c2 c3
                go_enter Try.func102, Try.ntmps102
                go_upto_region 1 with (fail)
                rw [← hw1]
                clear hw1
                go_wp2_with fail
                go_returns
                exact ⟨by first | rfl | simp, HB.out⟩
            · have f_c2 : decide (0 ≤ t.lo) = false := by simpa using c2
              obtain rfl : res = false := HN.out (fun h => by have h9 := HOK.out.1 h.ok; first | exact cz h9.1 | omega)
              clear d1 d2 cz c1 c2
              go_enter Try.func102, Try.ntmps102
              go_upto_region 1 with (fail)
              rw [← hw1]
              clear hw1
              go_wp2_with fail
              go_returns
              exact ⟨by first | rfl | simp, HB.out⟩
          · have f_c1 : ((n : Int) == 1) = false := by simp; omega
            obtain rfl : res = false := HN.out (fun h => by have h9 := HOK.out.1 h.ok; first | exact cz h9.1 | omega)
            clear d1 d2 cz c1
            go_enter Try.func102, Try.ntmps102
            go_upto_region 1 with (fail)
            rw [← hw1]
            clear hw1
            go_wp2_with fail
            go_returns
            exact ⟨by first | rfl | simp, HB.out⟩
        · obtain rfl : z = false := by rw [HZ.out]; simpa using cz
          obtain rfl : res = false := HN.out (fun h => by have h9 := HOK.out.1 h.ok; first | exact cz h9.1 | omega)
          clear d1 d2 cz
          go_enter Try.func102, Try.ntmps102
          go_upto_region 1 with (fail)
          rw [← hw1]
          clear hw1
          go_wp2_with fail
          go_returns
          exact ⟨by first | rfl | simp, HB.out⟩
  · have e4 : (t.kind == 4) = false := by simpa using k4
    obtain rfl : res = false := HN.out (fun h => by have h9 := h.ok; unfold OkT at h9; omega)
    clear k1 k2 k3 k4
    go_enter Try.func102, Try.ntmps102
    go_upto_region 1 with (fail)
    rw [← hw1]
    clear hw1
    go_wp2_with fail
    go_returns
    exact ⟨by first | rfl | simp, HB.out⟩
end Go.Proofs.Ytfjgfabochiflaa
