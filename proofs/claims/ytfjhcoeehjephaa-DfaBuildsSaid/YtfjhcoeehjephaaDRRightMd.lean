/- The reference's Right. -/
import Derived.Test.YtfjhcoeehjephaaDRightMd
namespace Go.Proofs.Ytfjhcoeehjephaa.D8
open Go.RowKit

set_option maxRecDepth 100000 in
set_option maxHeartbeats 8000000 in
theorem drright_any (ds : Array Value) (A1 A2 : Option Addr) (n1 n2 c1 c2 : Nat) (D : Dfa) (RA : Nat → Option Addr) (rc : Nat → Nat) (w : World) (h : DfaIn w ds A1 A2 n1 n2 c1 c2 D RA rc) :
    Calls Try.prog 12 #[.agg ds] w fun e w' => e = .returned (.bool (rightD D)) ∧ Below w.heap.size w w' := by
  have hb0 : Below w.heap.size w (w.alloc (.cells ds 30)) := (Below.refl _ _).alloc (Nat.le_refl _) _
  obtain ⟨q1, q2, hcl, -, -⟩ := kept_cell (w := w) (t := 30) (Below.refl _ _) h.cells
  have HCL := Lib.hid hcl
  have hl1 := h.next.len
  have hl2 := h.alen
  have hle1 := h.next.le
  have hle2 := h.ale
  have hclt := h.cells.lt
  obtain ⟨bq, hbq⟩ : ∃ bq, bq = rightD D := ⟨_, rfl⟩
  rw [← hbq]
  have HBQ := Lib.hid hbq
  clear hbq
  have hno : Hid (¬ RightD D → bq = false) := fun h => by rw [HBQ.out]; exact rightD_no h
  have HB := Lib.hid hb0
  have HC1 := Lib.hid (h.next.keep hb0)
  clear h hb0 hcl
  have hcase : n1 < 1 ∨ (1 ≤ n1 ∧ 400 < n1) ∨ (1 ≤ n1 ∧ n1 ≤ 400 ∧ n2 ≠ n1) ∨ (1 ≤ n1 ∧ n1 ≤ 400 ∧ n2 = n1) := by omega
  go_enter Try.func12, Try.ntmps12
  rcases hcase with h1 | ⟨h1, h2⟩ | ⟨h1, h2, h3⟩ | ⟨h1, h2, h3⟩
  · have hb : bq = false := hno.out (fun h => by have := h.lo; omega)
    subst hb
    go_wp2_with fail
    go_returns
    exact ⟨by first | rfl | (simp; done) | (simp; omega), HB.out⟩
  · have hb : bq = false := hno.out (fun h => by have := h.hi; omega)
    subst hb
    go_wp2_with fail
    go_returns
    exact ⟨by first | rfl | (simp; done) | (simp; omega), HB.out⟩
  · have hb : bq = false := hno.out (fun h => by have := h.alen; omega)
    subst hb
    have e1 : ((n2 : Int) != (n1 : Int)) = true := by simp; omega
    have d1 : decide ((n1 : Int) < 1) = false := by simp; omega
    have d2 : decide ((400 : Int) < (n1 : Int)) = false := by simp; omega
    go_wp2_with fail
    go_returns
    exact ⟨by first | rfl | (simp; done) | (simp; omega), HB.out⟩
  · have e1 : ((n2 : Int) != (n1 : Int)) = false := by simp [h3]
    have d1 : decide ((n1 : Int) < 1) = false := by simp; omega
    have d2 : decide ((400 : Int) < (n1 : Int)) = false := by simp; omega
    have HN := Lib.hid h3
    clear h3
    obtain ⟨b1, o1, rfl, _, hc1⟩ := HC1.out.arr.one (k := 0) (by omega)
    unfold RowC at hc1
    rw [Nat.add_zero] at hc1
    have hmm : (D.next.getD 0 []).length = D.many := rfl
    have hms := HC1.out.small 0 (by omega)
    rw [hmm] at hc1 hms
    obtain ⟨mm, hmd⟩ : ∃ mm, mm = D.many := ⟨_, rfl⟩
    rw [← hmd] at hc1 hms
    have HMD := Lib.hid hmd
    clear hmm hmd
    by_cases hm1 : mm < 1
    · have hb : bq = false := hno.out (fun h => by have := h.mlo; have := HMD.out; omega)
      subst hb
      have d3 : decide ((mm : Int) < 1) = true := by simp; omega
      go_wp2_with fail
      go_returns
      exact ⟨by first | rfl | (simp; done) | (simp; omega), HB.out⟩
    · have d3 : decide ((mm : Int) < 1) = false := by simp; omega
      by_cases hm2 : 256 < mm
      · have hb : bq = false := hno.out (fun h => by have := h.mhi; have := HMD.out; omega)
        subst hb
        have d4 : decide ((256 : Int) < (mm : Int)) = true := by simp; omega
        go_wp2_with fail
        go_returns
        exact ⟨by first | rfl | (simp; done) | (simp; omega), HB.out⟩
      · have d4 : decide ((256 : Int) < (mm : Int)) = false := by simp; omega
        go_wp2_with fail
        generalize w.alloc (.cells ds 30) = w1 at HB HC1 HCL q1 q2 hc1 ⊢
        go_loop [44] (fun i => ∃ k : Nat, k ≤ n1 ∧ i = .int .i64 k ∧ ¬ ∃ b, b < k ∧ RowOff D b) (fun i => n1 - (intOf i).toNat)
        case atStart => exact ⟨0, by omega, rfl, fun ⟨j, hj, _⟩ => absurd hj (by omega)⟩
        case round =>
          obtain ⟨k, hk, rfl, hnk⟩ := hrel
          have HNK := Lib.hid hnk
          clear hnk
          by_cases hlt : k < n1
          · obtain ⟨b1', o1', hA1, _, hck⟩ := HC1.out.arr.one (k := k) hlt
            simp only [Option.some.injEq, Addr.mk.injEq, and_true] at hA1
            obtain ⟨rfl, rfl⟩ := hA1
            unfold RowC at hck
            have hsm := HC1.out.small k hlt
            have HROW := Lib.hid (HC1.out.row k hlt)
            obtain ⟨rl, hrl⟩ : ∃ rl, rl = (D.next.getD k []).length := ⟨_, rfl⟩
            rw [← hrl] at hck hsm HROW
            have HRL := Lib.hid hrl
            clear hrl
            by_cases he : rl = mm
            · have d5 : ((rl : Int) != (mm : Int)) = false := by simp [he]
              have HE := Lib.hid he
              clear he
              go_wp2_with fail
              go_loop [58] (fun i => ∃ j : Nat, j ≤ rl ∧ i = .int .i64 j ∧ ¬ AnyOff (D.next.getD k []) n1 j) (fun i => rl - (intOf i).toNat)
              case atStart => exact ⟨0, by omega, rfl, fun ⟨j, hj, _⟩ => absurd hj (by omega)⟩
              case round =>
                obtain ⟨j, hj, rfl, hnj⟩ := hrel
                have HNJ := Lib.hid hnj
                clear hnj
                by_cases hlj : j < rl
                · obtain ⟨b3, o3, hRA, _, hc3⟩ := HROW.out.one hlj
                  unfold NumC at hc3
                  rw [hRA] at hck ⊢
                  obtain ⟨x, hx⟩ : ∃ x, x = (D.next.getD k []).getD j 0 := ⟨_, rfl⟩
                  rw [← hx] at hc3
                  have HX := Lib.hid hx
                  clear hx hRA
                  by_cases h5 : x < -1
                  · have d6 : decide (x < -1) = true := by simpa using h5
                    have hb : bq = false := hno.out (fun h => h.rows ⟨k, by omega, .inr ⟨j, by rw [← HRL.out]; exact hlj, .inl (by rw [← HX.out]; exact h5)⟩⟩)
                    subst hb
                    go_wp2_with fail
                    go_returns
                    exact ⟨by first | rfl | (simp; done) | (simp; omega), HB.out⟩
                  · have d6 : decide (x < -1) = false := by simpa using h5
                    by_cases h6 : (n1 : Int) ≤ x
                    · have d7 : decide ((n1 : Int) ≤ x) = true := by simpa using h6
                      have hb : bq = false := hno.out (fun h => h.rows ⟨k, by omega, .inr ⟨j, by rw [← HRL.out]; exact hlj, .inr (by rw [← HX.out, hl1]; exact h6)⟩⟩)
                      subst hb
                      go_wp2_with fail
                      go_returns
                      exact ⟨by first | rfl | (simp; done) | (simp; omega), HB.out⟩
                    · have d7 : decide ((n1 : Int) ≤ x) = false := by simpa using h6
                      go_wp2_with fail
                      go_round
                      case rel => exact ⟨j + 1, by omega, by go_num, fun ⟨i, hi, h9⟩ => by
                                    by_cases e : i = j
                                    · rw [e, ← HX.out] at h9; omega
                                    · exact HNJ.out ⟨i, by omega, h9⟩⟩
                      case measure => simp [intOf]; omega
                · obtain rfl : j = rl := by omega
                  go_wp2_with fail
                  go_round
                  case rel => exact ⟨k + 1, by omega, by go_num, fun ⟨i, hi, h9⟩ => by
                                by_cases e : i = k
                                · subst e
                                  rcases h9 with h9 | h9
                                  · rw [← HRL.out, ← HMD.out] at h9; exact h9 HE.out
                                  · rw [← HRL.out, hl1] at h9; exact HNJ.out h9
                                · exact HNK.out ⟨i, by omega, h9⟩⟩
                  case measure => simp [intOf]; omega
            · have d5 : ((rl : Int) != (mm : Int)) = true := by simp; omega
              have hb : bq = false := hno.out (fun h => h.rows ⟨k, by omega, .inl (by rw [← HRL.out, ← HMD.out]; exact he)⟩)
              subst hb
              clear he
              go_wp2_with fail
              go_returns
              exact ⟨by first | rfl | (simp; done) | (simp; omega), HB.out⟩
          · obtain rfl : k = n1 := by omega
            go_wp2_with fail
            go_loopw [8] (fun i wr => ∃ b mq : Nat, b ≤ 256 ∧ i = .int .i64 b ∧ wr = w1.drewN mq ∧ ¬ ∃ c, c < b ∧ mm ≤ D.cls c) (fun i _ => 256 - (intOf i).toNat)
            case atStart => exact ⟨0, 0, by omega, rfl, rfl, fun ⟨j, hj, _⟩ => absurd hj (by omega)⟩
            case round =>
              obtain ⟨b, mq, hb, rfl, rfl, hnb⟩ := hrel
              have HNB := Lib.hid hnb
              clear hnb
              by_cases hlb : b < 256
              · have hix := HCL.out b hlb
                have hcl := hclt b hlb
                obtain ⟨cc, hcc⟩ : ∃ cc, cc = D.cls b := ⟨_, rfl⟩
                rw [← hcc] at hix hcl
                have HCC := Lib.hid hcc
                have hxb : (b : Int) < 256 := by omega
                clear hcc
                by_cases hbig : mm ≤ cc
                · have d5 : decide ((mm : Int) ≤ (cc : Int)) = true := by simp; omega
                  have hb : bq = false := hno.out (fun h => h.cls ⟨b, hlb, by rw [← HMD.out, ← HCC.out]; exact hbig⟩)
                  subst hb
                  go_wp2_with fail
                  go_quiet (fail)
                  go_wp2_with fail
                  go_returns
                  exact ⟨by first | rfl | (simp; done) | (simp; omega), below_drewN (below_drewN HB.out _) _⟩
                · have d5 : decide ((mm : Int) ≤ (cc : Int)) = false := by simp; omega
                  go_wp2_with fail
                  go_quiet (fail)
                  go_wp2_with fail
                  go_roundw
                  case rel => exact ⟨b + 1, mq + nq, by omega, by go_num, by first | rfl | trivial, fun ⟨j, hj, h5⟩ => by
                                by_cases e : j = b
                                · rw [e, ← HCC.out] at h5; omega
                                · exact HNB.out ⟨j, by omega, h5⟩⟩
                  case measure => simp [intOf]; omega
              · obtain rfl : b = 256 := by omega
                have hb : bq = true := by
                  rw [HBQ.out]
                  exact rightD_yes ⟨by omega, by omega, by rw [hl1, hl2]; exact HN.out, by rw [← HMD.out]; omega, by rw [← HMD.out]; omega, by rw [← HMD.out]; exact HNB.out, by rw [hl1]; exact HNK.out⟩
                subst hb
                go_wp2_with fail
                go_returns
                exact ⟨by first | rfl | (simp; done) | (simp; omega), below_drewN HB.out _⟩
end Go.Proofs.Ytfjhcoeehjephaa.D8
