/- slices.ContainsFunc at the closures of dfa.Right. -/
import Derived.Test.YtfjhcoeehjephaaDfaMd
namespace Go.Proofs.Ytfjhcoeehjephaa.D8
open Go.RowKit

set_option maxHeartbeats 4000000 in
theorem idx23 (A : Option Addr) (n c p : Nat) (xs : List Int) (N : Int) (w : World) (hn : n ≤ 140737488355328) (h : Arr w w.heap.size 1 A n (NumC .i64 xs)) (hp : w.cell? ⟨p, 0, none⟩ = some (.int .i64 N)) :
    Calls Try.prog 64 #[.slice A n c, .func (.func 65) #[] #[.pointer (some ⟨p, 0, none⟩)]] w fun e w' => e = .returned (.bool (offB xs N n)) ∧ w' = w := by
  have H := Lib.hid h
  clear h
  obtain ⟨bq, hbq⟩ : ∃ bq, bq = offB xs N n := ⟨_, rfl⟩
  rw [← hbq]
  have HBQ := Lib.hid hbq
  clear hbq
  go_enter Try.func64, Try.ntmps64
  go_wp2
  go_loop [8] (fun i => ∃ k : Nat, k ≤ n ∧ i = .int .i64 k ∧ ¬ AnyOff xs N k) (fun i => n - (intOf i).toNat)
  case atStart => exact ⟨0, by omega, rfl, fun ⟨j, hj, _⟩ => absurd hj (by omega)⟩
  case round =>
    obtain ⟨k, hk, rfl, hno⟩ := hrel
    have HNO := Lib.hid hno
    clear hno
    by_cases hlt : k < n
    · obtain ⟨b, o, rfl, _, hc⟩ := H.out.one hlt
      unfold NumC at hc
      obtain ⟨x, hx⟩ : ∃ x, x = xs.getD k 0 := ⟨_, rfl⟩
      rw [← hx] at hc
      have HX := Lib.hid hx
      clear hx
      by_cases h1 : x < -1
      · have d1 : decide (x < -1) = true := by simpa using h1
        have hb : bq = true := by rw [HBQ.out]; exact offB_yes ⟨k, by omega, .inl (by rw [← HX.out]; omega)⟩
        subst hb
        go_wp2
        go_returns
        exact ⟨by first | rfl | (simp; done) | (simp; omega), rfl⟩
      · have d1 : decide (x < -1) = false := by simpa using h1
        by_cases h2 : N ≤ x
        · have d2 : decide (N ≤ x) = true := by simpa using h2
          have hb : bq = true := by rw [HBQ.out]; exact offB_yes ⟨k, by omega, .inr (by rw [← HX.out]; omega)⟩
          subst hb
          go_wp2
          go_returns
          exact ⟨by first | rfl | (simp; done) | (simp; omega), rfl⟩
        · have d2 : decide (N ≤ x) = false := by simpa using h2
          go_wp2
          go_round
          case rel => exact ⟨k + 1, by omega, by go_num, fun ⟨j, hj, h5⟩ => by
                        by_cases e : j = k
                        · rw [e, ← HX.out] at h5; omega
                        · exact HNO.out ⟨j, by omega, h5⟩⟩
          case measure => simp [intOf]; omega
    · obtain rfl : k = n := by omega
      have hb : bq = false := by rw [HBQ.out]; exact offB_no HNO.out
      subst hb
      go_wp2
      go_returns
      exact ⟨by first | rfl | simp, rfl⟩

set_option maxHeartbeats 4000000 in
theorem clo21 (A : Option Addr) (n c p q mm : Nat) (xs : List Int) (N : Int) (w : World) (hn : n ≤ 140737488355328) (h : Arr w w.heap.size 1 A n (NumC .i64 xs)) (hp : w.cell? ⟨p, 0, none⟩ = some (.int .i64 mm)) (hq : w.cell? ⟨q, 0, none⟩ = some (.int .i64 N)) :
    Calls Try.prog 63 #[.slice A n c, .pointer (some ⟨p, 0, none⟩), .pointer (some ⟨q, 0, none⟩)] w fun e w' => e = .returned (.bool (n != mm || offB xs N n)) ∧ w' = w := by
  have HI := Lib.hid (idx23 A n c q xs N w hn h hq)
  clear h
  go_enter Try.func63, Try.ntmps63
  by_cases h1 : n = mm
  · have d1 : ((n : Int) != (mm : Int)) = false := by simp [h1]
    have d2 : (n != mm) = false := by simp [h1]
    clear h1
    generalize offB xs N n = ob at HI ⊢
    go_wp2_with fail
    refine HI.out.mono ?_
    rintro e w' ⟨rfl, rfl⟩
    go_wp2_with fail
    go_returns
    exact ⟨by rw [d2]; cases ob <;> rfl, rfl⟩
  · have d1 : ((n : Int) != (mm : Int)) = true := by simp; omega
    have d2 : (n != mm) = true := by simp [h1]
    clear h1
    go_wp2_with fail
    go_returns
    exact ⟨by rw [d2]; rfl, rfl⟩

set_option maxHeartbeats 4000000 in
theorem idx21 (A : Option Addr) (n c p q : Nat) (D : Dfa) (RA : Nat → Option Addr) (rc : Nat → Nat) (w : World) (h : RowsIn w A n D.next RA rc) (hp : w.cell? ⟨p, 0, none⟩ = some (.int .i64 D.many)) (hq : w.cell? ⟨q, 0, none⟩ = some (.int .i64 n)) :
    Calls Try.prog 62 #[.slice A n c, .func (.func 63) #[] #[.pointer (some ⟨p, 0, none⟩), .pointer (some ⟨q, 0, none⟩)]] w fun e w' => e = .returned (.bool (rowsB D n)) ∧ w' = w := by
  have hn := h.le
  have hln := h.len
  have H := Lib.hid h
  clear h
  obtain ⟨bq, hbq⟩ : ∃ bq, bq = rowsB D n := ⟨_, rfl⟩
  rw [← hbq]
  have HBQ := Lib.hid hbq
  clear hbq
  obtain ⟨mm, hmm⟩ : ∃ mm, mm = D.many := ⟨_, rfl⟩
  rw [← hmm] at hp
  have HMM := Lib.hid hmm
  clear hmm
  go_enter Try.func62, Try.ntmps62
  go_wp2
  go_loop [8] (fun i => ∃ k : Nat, k ≤ n ∧ i = .int .i64 k ∧ ¬ ∃ i, i < k ∧ RowOff D i) (fun i => n - (intOf i).toNat)
  case atStart => exact ⟨0, by omega, rfl, fun ⟨j, hj, _⟩ => absurd hj (by omega)⟩
  case round =>
    obtain ⟨k, hk, rfl, hno⟩ := hrel
    have HNO := Lib.hid hno
    clear hno
    by_cases hlt : k < n
    · obtain ⟨b, o, rfl, _, hc⟩ := H.out.arr.one hlt
      unfold RowC at hc
      have hsm := H.out.small k hlt
      have HI := Lib.hid (clo21 (RA k) (D.next.getD k []).length (rc k) p q mm (D.next.getD k []) n w hsm (H.out.row k hlt) hp hq)
      obtain ⟨rl, hrl⟩ : ∃ rl, rl = (D.next.getD k []).length := ⟨_, rfl⟩
      rw [← hrl] at hc hsm HI
      obtain ⟨ob, hob⟩ : ∃ ob, ob = (rl != mm || offB (D.next.getD k []) n rl) := ⟨_, rfl⟩
      rw [← hob] at HI
      have hoff : ob = true ↔ RowOff D k := by
        rw [hob, RowOff, ← hrl, hln, ← HMM.out]
        constructor
        · intro h9
          by_cases e : rl = mm
          · right
            apply Classical.byContradiction
            intro h8
            rw [offB_no h8] at h9
            simp [e] at h9
          · exact .inl e
        · rintro (h9 | h9)
          · simp [h9]
          · rw [offB_yes h9]; simp
      have HOFF := Lib.hid hoff
      clear hrl hob hoff
      cases ob with
      | true =>
        have hb : bq = true := by rw [HBQ.out]; exact rowsB_yes ⟨k, hlt, HOFF.out.1 rfl⟩
        subst hb
        go_wp2_with fail
        refine HI.out.mono ?_
        rintro e w' ⟨rfl, rfl⟩
        go_wp2_with fail
        go_returns
        exact ⟨by first | rfl | (simp; done) | (simp; omega), rfl⟩
      | false =>
        go_wp2_with fail
        refine HI.out.mono ?_
        rintro e w' ⟨rfl, rfl⟩
        go_wp2_with fail
        go_round
        case rel => exact ⟨k + 1, by omega, by go_num, fun ⟨j, hj, h5⟩ => by
                      by_cases e : j = k
                      · subst e
                        have := HOFF.out.2 h5
                        cases this
                      · exact HNO.out ⟨j, by omega, h5⟩⟩
        case measure => simp [intOf]; omega
    · obtain rfl : k = n := by omega
      have hb : bq = false := by rw [HBQ.out]; exact rowsB_no HNO.out
      subst hb
      go_wp2
      go_returns
      exact ⟨by first | rfl | simp, rfl⟩
end Go.Proofs.Ytfjhcoeehjephaa.D8
