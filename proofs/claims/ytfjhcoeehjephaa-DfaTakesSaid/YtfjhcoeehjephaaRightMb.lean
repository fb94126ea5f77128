/- nfa.Right; the reference's Right; few. -/
import Derived.Test.YtfjhcoeehjephaaNfaMb
namespace Go.Proofs.Ytfjhcoeehjephaa
open Go.RowKit

theorem clo17 (x S : Int) (p : Nat) (w : World) (hp : w.cell? ⟨p, 0, none⟩ = some (.int .i64 S)) :
    Calls Try.prog 57 #[.int .i64 x, .pointer (some ⟨p, 0, none⟩)] w fun e w' => e = .returned (.bool (decide (0 ≤ x) && decide (x < S))) ∧ w' = w := by
  go_enter Try.func57, Try.ntmps57
  by_cases h : 0 ≤ x
  · have d : decide (0 ≤ x) = true := by simpa using h
    go_wp2_with fail
    go_returns
    exact ⟨by first | rfl | simp [d], rfl⟩
  · have d : decide (0 ≤ x) = false := by simpa using h
    go_wp2_with fail
    go_returns
    exact ⟨by first | rfl | simp [d], rfl⟩

set_option maxRecDepth 100000 in
set_option maxHeartbeats 8000000 in
theorem nright_any (A : Option Addr) (n c : Nat) (S a z : Int) (E : List Ed) (w : World) (h : NfaIn w A n ⟨S, a, z, E⟩) :
    Calls Try.prog 31 #[.agg #[.int .i64 S, .int .i64 a, .int .i64 z, .slice A n c]] w fun e w' => e = .returned (.bool (rightN ⟨S, a, z, E⟩)) ∧ Below w.heap.size w w' := by
  have hb0 : Below w.heap.size w (w.alloc (.cells #[.int .i64 S, .int .i64 a, .int .i64 z, .slice A n c] 24)) := (Below.refl _ _).alloc (Nat.le_refl _) _
  have hsz : w.heap.size < (w.alloc (.cells #[.int .i64 S, .int .i64 a, .int .i64 z, .slice A n c] 24)).heap.size := by simp
  have q0 : (w.alloc (.cells #[.int .i64 S, .int .i64 a, .int .i64 z, .slice A n c] 24)).cell? ⟨w.heap.size, 0, none⟩ = some (.int .i64 S) := by simp
  have q1 : (w.alloc (.cells #[.int .i64 S, .int .i64 a, .int .i64 z, .slice A n c] 24)).cell? ⟨w.heap.size, 1, none⟩ = some (.int .i64 a) := by simp
  have q2 : (w.alloc (.cells #[.int .i64 S, .int .i64 a, .int .i64 z, .slice A n c] 24)).cell? ⟨w.heap.size, 2, none⟩ = some (.int .i64 z) := by simp
  have q3 : (w.alloc (.cells #[.int .i64 S, .int .i64 a, .int .i64 z, .slice A n c] 24)).cell? ⟨w.heap.size, 3, none⟩ = some (.slice A n c) := by simp
  have hl : E.length = n := h.len
  have hle := h.le
  have H1 := Lib.hid (show Arr _ _ 7 A n (EdC E) from (h.keep hb0).arr)
  have HB := Lib.hid hb0
  obtain ⟨bq, hbq⟩ : ∃ bq, bq = rightN ⟨S, a, z, E⟩ := ⟨_, rfl⟩
  rw [← hbq]
  have HBQ := Lib.hid hbq
  have hno : Hid (¬ RightN ⟨S, a, z, E⟩ → bq = false) := fun h => by rw [HBQ.out]; exact rightN_no h
  clear h hb0 hbq
  go_enter Try.func31, Try.ntmps31
  by_cases c1 : S < 1
  · have dc1 : decide (S < 1) = true := by simp; omega
    have hb : bq = false := hno.out (fun h9 => by have h8 : 1 ≤ S := h9.lo; omega)
    subst hb
    go_wp2_with (go_at_call 57; refine (clo17 _ S w.heap.size _ (by assumption)).mono ?_; rintro e w9 ⟨rfl, rfl⟩)
    go_returns
    exact ⟨by first | rfl | simp, HB.out⟩
  · have dc1 : decide (S < 1) = false := by simp; omega
    by_cases c2 : 2000 < S
    · have dc2 : decide (2000 < S) = true := by simp; omega
      have hb : bq = false := hno.out (fun h9 => by have h8 : S ≤ 2000 := h9.hi; omega)
      subst hb
      go_wp2_with (go_at_call 57; refine (clo17 _ S w.heap.size _ (by assumption)).mono ?_; rintro e w9 ⟨rfl, rfl⟩)
      go_returns
      exact ⟨by first | rfl | simp, HB.out⟩
    · have dc2 : decide (2000 < S) = false := by simp; omega
      by_cases c3 : a < 0
      · have dc3 : decide ((0 : Int) ≤ a) = false := by simp; omega
        have hb : bq = false := hno.out (fun h9 => by have h8 : 0 ≤ a := h9.alo; omega)
        subst hb
        go_wp2_with (go_at_call 57; refine (clo17 _ S w.heap.size _ (by assumption)).mono ?_; rintro e w9 ⟨rfl, rfl⟩)
        go_returns
        exact ⟨by first | rfl | simp, HB.out⟩
      · have dc3 : decide ((0 : Int) ≤ a) = true := by simp; omega
        by_cases c4 : S ≤ a
        · have dc4 : decide (a < S) = false := by simp; omega
          have hb : bq = false := hno.out (fun h9 => by have h8 : a < S := h9.ahi; omega)
          subst hb
          go_wp2_with (go_at_call 57; refine (clo17 _ S w.heap.size _ (by assumption)).mono ?_; rintro e w9 ⟨rfl, rfl⟩)
          go_returns
          exact ⟨by first | rfl | simp, HB.out⟩
        · have dc4 : decide (a < S) = true := by simp; omega
          by_cases c5 : z < 0
          · have dc5 : decide ((0 : Int) ≤ z) = false := by simp; omega
            have hb : bq = false := hno.out (fun h9 => by have h8 : 0 ≤ z := h9.zlo; omega)
            subst hb
            go_wp2_with (go_at_call 57; refine (clo17 _ S w.heap.size _ (by assumption)).mono ?_; rintro e w9 ⟨rfl, rfl⟩)
            go_returns
            exact ⟨by first | rfl | simp, HB.out⟩
          · have dc5 : decide ((0 : Int) ≤ z) = true := by simp; omega
            by_cases c6 : S ≤ z
            · have dc6 : decide (z < S) = false := by simp; omega
              have hb : bq = false := hno.out (fun h9 => by have h8 : z < S := h9.zhi; omega)
              subst hb
              go_wp2_with (go_at_call 57; refine (clo17 _ S w.heap.size _ (by assumption)).mono ?_; rintro e w9 ⟨rfl, rfl⟩)
              go_returns
              exact ⟨by first | rfl | simp, HB.out⟩
            · have dc6 : decide (z < S) = true := by simp; omega
              by_cases c7 : 16000 < n
              · have dc7 : decide ((16000 : Int) < (n : Int)) = true := by simp; omega
                have hb : bq = false := hno.out (fun h9 => by have h8 : E.length ≤ 16000 := h9.few; omega)
                subst hb
                go_wp2_with (go_at_call 57; refine (clo17 _ S w.heap.size _ (by assumption)).mono ?_; rintro e w9 ⟨rfl, rfl⟩)
                go_returns
                exact ⟨by first | rfl | simp, HB.out⟩
              · have dc7 : decide ((16000 : Int) < (n : Int)) = false := by simp; omega
                go_wp2_with (go_at_call 57; refine (clo17 _ S w.heap.size _ (by assumption)).mono ?_; rintro e w9 ⟨rfl, rfl⟩)
                generalize w.alloc (.cells #[.int .i64 S, .int .i64 a, .int .i64 z, .slice A n c] 24) = w1 at H1 HB q0 q1 q2 q3 hsz ⊢
                go_loopw [38] (fun i wr => ∃ k : Nat, k ≤ n ∧ i = .int .i64 k ∧ (¬ ∃ i, i < k ∧ BadE S (E.getD i noEd)) ∧ Below w1.heap.size w1 wr) (fun i _ => n - (intOf i).toNat)
                case atStart => exact ⟨0, by omega, rfl, fun ⟨j, hj, _⟩ => absurd hj (by omega), Below.refl _ _⟩
                case round =>
                  obtain ⟨k, hk, rfl, hnk, hbe⟩ := hrel
                  obtain ⟨w2, rfl⟩ : ∃ w2 : World, w2 = wr := ⟨_, rfl⟩
                  have HNK := Lib.hid hnk
                  have HBE := Lib.hid hbe
                  clear hnk
                  by_cases hlt : k < n
                  · obtain ⟨b, o, rfl, hbl, p0, p1, p2, p3, p4, p5, p6⟩ := (H1.out.below hbe).seven hlt
                    obtain ⟨e, he⟩ : ∃ e, e = E.getD k noEd := ⟨_, rfl⟩
                    rw [← he] at p0 p1 p2 p3 p4 p5 p6
                    have HE := Lib.hid he
                    clear he
                    obtain ⟨x, y, f, s0, s1, s2, s3⟩ := e
                    simp only at p0 p1 p2 p3 p4 p5 p6
                    have hbe2 : Below w1.heap.size w1 (w2.alloc (.cells #[.int .i64 x, .int .i64 y, .bool f, .int .u64 s0, .int .u64 s1, .int .u64 s2, .int .u64 s3] 70)) := hbe.alloc hbe.size _
                    have r0 := (hbe2.cell (p := ⟨w.heap.size, 0, none⟩) hsz).trans q0
                    have HBE2 := Lib.hid hbe2
                    have HBQ2 := Lib.hid (HB.out.trans (hbe2.mono (Nat.le_of_lt hsz)))
                    clear hbe hbe2
                    by_cases gx : x < 0
                    · have ex : decide ((0 : Int) ≤ x) = false := by simp; omega
                      have hb : bq = false := hno.out (fun h9 => h9.ok ⟨k, by show k < E.length; omega, by show BadE S (E.getD k noEd); rw [← HE.out]; exact .inl gx⟩)
                      subst hb
                      go_wp2_with (go_at_call 57; refine (clo17 _ S w.heap.size _ (by assumption)).mono ?_; rintro e w9 ⟨rfl, rfl⟩)
                      go_returns
                      exact ⟨by first | rfl | simp, HBQ2.out⟩
                    · have ex : decide ((0 : Int) ≤ x) = true := by simp; omega
                      by_cases gX : S ≤ x
                      · have eX : decide (x < S) = false := by simp; omega
                        have hb : bq = false := hno.out (fun h9 => h9.ok ⟨k, by show k < E.length; omega, by show BadE S (E.getD k noEd); rw [← HE.out]; exact .inr (.inl gX)⟩)
                        subst hb
                        go_wp2_with (go_at_call 57; refine (clo17 _ S w.heap.size _ (by assumption)).mono ?_; rintro e w9 ⟨rfl, rfl⟩)
                        go_returns
                        exact ⟨by first | rfl | simp, HBQ2.out⟩
                      · have eX : decide (x < S) = true := by simp; omega
                        by_cases gy : y < 0
                        · have ey : decide ((0 : Int) ≤ y) = false := by simp; omega
                          have hb : bq = false := hno.out (fun h9 => h9.ok ⟨k, by show k < E.length; omega, by show BadE S (E.getD k noEd); rw [← HE.out]; exact .inr (.inr (.inl gy))⟩)
                          subst hb
                          go_wp2_with (go_at_call 57; refine (clo17 _ S w.heap.size _ (by assumption)).mono ?_; rintro e w9 ⟨rfl, rfl⟩)
                          go_returns
                          exact ⟨by first | rfl | simp, HBQ2.out⟩
                        · have ey : decide ((0 : Int) ≤ y) = true := by simp; omega
                          by_cases gY : S ≤ y
                          · have eY : decide (y < S) = false := by simp; omega
                            have hb : bq = false := hno.out (fun h9 => h9.ok ⟨k, by show k < E.length; omega, by show BadE S (E.getD k noEd); rw [← HE.out]; exact .inr (.inr (.inr gY))⟩)
                            subst hb
                            go_wp2_with (go_at_call 57; refine (clo17 _ S w.heap.size _ (by assumption)).mono ?_; rintro e w9 ⟨rfl, rfl⟩)
                            go_returns
                            exact ⟨by first | rfl | simp, HBQ2.out⟩
                          · have eY : decide (y < S) = true := by simp; omega
                            go_wp2_with (go_at_call 57; refine (clo17 _ S w.heap.size _ (by assumption)).mono ?_; rintro e w9 ⟨rfl, rfl⟩)
                            go_roundw
                            case rel => exact ⟨k + 1, by omega, by go_num, fun ⟨j, hj, h5⟩ => by
                                          by_cases e : j = k
                                          · rw [e, ← HE.out] at h5
                                            unfold BadE at h5
                                            simp only at h5
                                            omega
                                          · exact HNK.out ⟨j, by omega, h5⟩, HBE2.out⟩
                            case measure => simp [intOf]; omega
                  · obtain rfl : k = n := by omega
                    have hb : bq = true := by
                      rw [HBQ.out]
                      exact rightN_yes ⟨by show 1 ≤ S; omega, by show S ≤ 2000; omega, by show 0 ≤ a; omega, by show a < S; omega, by show 0 ≤ z; omega, by show z < S; omega, by show E.length ≤ 16000; omega, by show ¬ ∃ i, i < E.length ∧ _; rw [hl]; exact HNK.out⟩
                    subst hb
                    go_wp2_with (go_at_call 57; refine (clo17 _ S w.heap.size _ (by assumption)).mono ?_; rintro e w9 ⟨rfl, rfl⟩)
                    go_returns
                    exact ⟨by first | rfl | simp, HB.out.trans (HBE.out.mono (Nat.le_of_lt hsz))⟩

set_option maxRecDepth 100000 in
set_option maxHeartbeats 8000000 in
theorem nrright_any (A : Option Addr) (n c : Nat) (S a z : Int) (E : List Ed) (w : World) (h : NfaIn w A n ⟨S, a, z, E⟩) :
    Calls Try.prog 8 #[.agg #[.int .i64 S, .int .i64 a, .int .i64 z, .slice A n c]] w fun e w' => e = .returned (.bool (rightN ⟨S, a, z, E⟩)) ∧ Below w.heap.size w w' := by
  have hb0 : Below w.heap.size w (w.alloc (.cells #[.int .i64 S, .int .i64 a, .int .i64 z, .slice A n c] 24)) := (Below.refl _ _).alloc (Nat.le_refl _) _
  have hsz : w.heap.size < (w.alloc (.cells #[.int .i64 S, .int .i64 a, .int .i64 z, .slice A n c] 24)).heap.size := by simp
  have q0 : (w.alloc (.cells #[.int .i64 S, .int .i64 a, .int .i64 z, .slice A n c] 24)).cell? ⟨w.heap.size, 0, none⟩ = some (.int .i64 S) := by simp
  have q1 : (w.alloc (.cells #[.int .i64 S, .int .i64 a, .int .i64 z, .slice A n c] 24)).cell? ⟨w.heap.size, 1, none⟩ = some (.int .i64 a) := by simp
  have q2 : (w.alloc (.cells #[.int .i64 S, .int .i64 a, .int .i64 z, .slice A n c] 24)).cell? ⟨w.heap.size, 2, none⟩ = some (.int .i64 z) := by simp
  have q3 : (w.alloc (.cells #[.int .i64 S, .int .i64 a, .int .i64 z, .slice A n c] 24)).cell? ⟨w.heap.size, 3, none⟩ = some (.slice A n c) := by simp
  have hl : E.length = n := h.len
  have hle := h.le
  have H1 := Lib.hid (show Arr _ _ 7 A n (EdC E) from (h.keep hb0).arr)
  have HB := Lib.hid hb0
  obtain ⟨bq, hbq⟩ : ∃ bq, bq = rightN ⟨S, a, z, E⟩ := ⟨_, rfl⟩
  rw [← hbq]
  have HBQ := Lib.hid hbq
  have hno : Hid (¬ RightN ⟨S, a, z, E⟩ → bq = false) := fun h => by rw [HBQ.out]; exact rightN_no h
  clear h hb0 hbq
  go_enter Try.func8, Try.ntmps8
  by_cases c1 : S < 1
  · have dc1 : decide (S < 1) = true := by simp; omega
    have hb : bq = false := hno.out (fun h9 => by have h8 : 1 ≤ S := h9.lo; omega)
    subst hb
    go_wp2_with fail
    go_returns
    exact ⟨by first | rfl | simp, HB.out⟩
  · have dc1 : decide (S < 1) = false := by simp; omega
    by_cases c2 : 2000 < S
    · have dc2 : decide (2000 < S) = true := by simp; omega
      have hb : bq = false := hno.out (fun h9 => by have h8 : S ≤ 2000 := h9.hi; omega)
      subst hb
      go_wp2_with fail
      go_returns
      exact ⟨by first | rfl | simp, HB.out⟩
    · have dc2 : decide (2000 < S) = false := by simp; omega
      by_cases c3 : a < 0
      · have dc3 : decide (a < 0) = true := by simp; omega
        have hb : bq = false := hno.out (fun h9 => by have h8 : 0 ≤ a := h9.alo; omega)
        subst hb
        go_wp2_with fail
        go_returns
        exact ⟨by first | rfl | simp, HB.out⟩
      · have dc3 : decide (a < 0) = false := by simp; omega
        by_cases c4 : S ≤ a
        · have dc4 : decide (S ≤ a) = true := by simp; omega
          have hb : bq = false := hno.out (fun h9 => by have h8 : a < S := h9.ahi; omega)
          subst hb
          go_wp2_with fail
          go_returns
          exact ⟨by first | rfl | simp, HB.out⟩
        · have dc4 : decide (S ≤ a) = false := by simp; omega
          by_cases c5 : z < 0
          · have dc5 : decide (z < 0) = true := by simp; omega
            have hb : bq = false := hno.out (fun h9 => by have h8 : 0 ≤ z := h9.zlo; omega)
            subst hb
            go_wp2_with fail
            go_returns
            exact ⟨by first | rfl | simp, HB.out⟩
          · have dc5 : decide (z < 0) = false := by simp; omega
            by_cases c6 : S ≤ z
            · have dc6 : decide (S ≤ z) = true := by simp; omega
              have hb : bq = false := hno.out (fun h9 => by have h8 : z < S := h9.zhi; omega)
              subst hb
              go_wp2_with fail
              go_returns
              exact ⟨by first | rfl | simp, HB.out⟩
            · have dc6 : decide (S ≤ z) = false := by simp; omega
              by_cases c7 : 16000 < n
              · have dc7 : decide ((16000 : Int) < (n : Int)) = true := by simp; omega
                have hb : bq = false := hno.out (fun h9 => by have h8 : E.length ≤ 16000 := h9.few; omega)
                subst hb
                go_wp2_with fail
                go_returns
                exact ⟨by first | rfl | simp, HB.out⟩
              · have dc7 : decide ((16000 : Int) < (n : Int)) = false := by simp; omega
                go_wp2_with fail
                generalize w.alloc (.cells #[.int .i64 S, .int .i64 a, .int .i64 z, .slice A n c] 24) = w1 at H1 HB q0 q1 q2 q3 hsz ⊢
                go_loopw [46] (fun i wr => ∃ k : Nat, k ≤ n ∧ i = .int .i64 k ∧ (¬ ∃ i, i < k ∧ BadE S (E.getD i noEd)) ∧ Below w1.heap.size w1 wr) (fun i _ => n - (intOf i).toNat)
                case atStart => exact ⟨0, by omega, rfl, fun ⟨j, hj, _⟩ => absurd hj (by omega), Below.refl _ _⟩
                case round =>
                  obtain ⟨k, hk, rfl, hnk, hbe⟩ := hrel
                  obtain ⟨w2, rfl⟩ : ∃ w2 : World, w2 = wr := ⟨_, rfl⟩
                  have HNK := Lib.hid hnk
                  have HBE := Lib.hid hbe
                  clear hnk
                  by_cases hlt : k < n
                  · obtain ⟨b, o, rfl, hbl, p0, p1, p2, p3, p4, p5, p6⟩ := (H1.out.below hbe).seven hlt
                    obtain ⟨e, he⟩ : ∃ e, e = E.getD k noEd := ⟨_, rfl⟩
                    rw [← he] at p0 p1 p2 p3 p4 p5 p6
                    have HE := Lib.hid he
                    clear he
                    obtain ⟨x, y, f, s0, s1, s2, s3⟩ := e
                    simp only at p0 p1 p2 p3 p4 p5 p6
                    have hbe2 : Below w1.heap.size w1 (w2.alloc (.cells #[.int .i64 x, .int .i64 y, .bool f, .int .u64 s0, .int .u64 s1, .int .u64 s2, .int .u64 s3] 70)) := hbe.alloc hbe.size _
                    have r0 := (hbe2.cell (p := ⟨w.heap.size, 0, none⟩) hsz).trans q0
                    have HBE2 := Lib.hid hbe2
                    have HBQ2 := Lib.hid (HB.out.trans (hbe2.mono (Nat.le_of_lt hsz)))
                    clear hbe hbe2
                    by_cases gx : x < 0
                    · have ex : decide (x < 0) = true := by simp; omega
                      have hb : bq = false := hno.out (fun h9 => h9.ok ⟨k, by show k < E.length; omega, by show BadE S (E.getD k noEd); rw [← HE.out]; exact .inl gx⟩)
                      subst hb
                      go_wp2_with fail
                      go_returns
                      exact ⟨by first | rfl | simp, HBQ2.out⟩
                    · have ex : decide (x < 0) = false := by simp; omega
                      by_cases gX : S ≤ x
                      · have eX : decide (S ≤ x) = true := by simp; omega
                        have hb : bq = false := hno.out (fun h9 => h9.ok ⟨k, by show k < E.length; omega, by show BadE S (E.getD k noEd); rw [← HE.out]; exact .inr (.inl gX)⟩)
                        subst hb
                        go_wp2_with fail
                        go_returns
                        exact ⟨by first | rfl | simp, HBQ2.out⟩
                      · have eX : decide (S ≤ x) = false := by simp; omega
                        by_cases gy : y < 0
                        · have ey : decide (y < 0) = true := by simp; omega
                          have hb : bq = false := hno.out (fun h9 => h9.ok ⟨k, by show k < E.length; omega, by show BadE S (E.getD k noEd); rw [← HE.out]; exact .inr (.inr (.inl gy))⟩)
                          subst hb
                          go_wp2_with fail
                          go_returns
                          exact ⟨by first | rfl | simp, HBQ2.out⟩
                        · have ey : decide (y < 0) = false := by simp; omega
                          by_cases gY : S ≤ y
                          · have eY : decide (S ≤ y) = true := by simp; omega
                            have hb : bq = false := hno.out (fun h9 => h9.ok ⟨k, by show k < E.length; omega, by show BadE S (E.getD k noEd); rw [← HE.out]; exact .inr (.inr (.inr gY))⟩)
                            subst hb
                            go_wp2_with fail
                            go_returns
                            exact ⟨by first | rfl | simp, HBQ2.out⟩
                          · have eY : decide (S ≤ y) = false := by simp; omega
                            go_wp2_with fail
                            go_roundw
                            case rel => exact ⟨k + 1, by omega, by go_num, fun ⟨j, hj, h5⟩ => by
                                          by_cases e : j = k
                                          · rw [e, ← HE.out] at h5
                                            unfold BadE at h5
                                            simp only at h5
                                            omega
                                          · exact HNK.out ⟨j, by omega, h5⟩, HBE2.out⟩
                            case measure => simp [intOf]; omega
                  · obtain rfl : k = n := by omega
                    have hb : bq = true := by
                      rw [HBQ.out]
                      exact rightN_yes ⟨by show 1 ≤ S; omega, by show S ≤ 2000; omega, by show 0 ≤ a; omega, by show a < S; omega, by show 0 ≤ z; omega, by show z < S; omega, by show E.length ≤ 16000; omega, by show ¬ ∃ i, i < E.length ∧ _; rw [hl]; exact HNK.out⟩
                    subst hb
                    go_wp2_with fail
                    go_returns
                    exact ⟨by first | rfl | simp, HB.out.trans (HBE.out.mono (Nat.le_of_lt hsz))⟩
end Go.Proofs.Ytfjhcoeehjephaa
