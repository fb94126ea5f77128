/- The reference's Next and Fix. -/
import Derived.Test.YtfjgfabochiflaaR01b
import Derived.Deep.Cut
import Derived.Deep.CutRange
import Derived.Deep.RegionHeld3
import Derived.Sort.QuietIn
import Derived.Deep.QuietTactic
import Derived.BigQuiet
namespace Go.Proofs.Ytfjgfabochiflaa
open Go.RowKit

theorem more_short {s : ByteArray} {k0 n : Nat} (h : isC (moreC (gS s) s.size k0 n) = true) : k0 + n ≤ s.size := by
  apply Classical.byContradiction
  intro h2
  have : moreC (gS s) s.size k0 n = -1 := by unfold moreC; rw [if_pos (by omega)]
  rw [this] at h
  exact absurd h (by decide)
theorem hit_of {s : ByteArray} {k0 n : Nat} {c : Int} (hc : c = moreC (gS s) s.size k0 n) (h : isC c = true) : hitC (gS s) s.size k0 n = true ↔ putS c = s.extract k0 (k0 + n) := by
  rw [hc] at h
  rw [hc, put_stands (more_short h)]
  unfold hitC
  rw [h, Bool.true_and, decide_eq_true_eq]
/-- is a character well-formed there? -/
def nextB (s : ByteArray) (k0 : Nat) : Bool := hitC (gS s) s.size k0 1 || hitC (gS s) s.size k0 2 || hitC (gS s) s.size k0 3 || hitC (gS s) s.size k0 4
theorem nextB_yes {s : ByteArray} {k0 n : Nat} (h1 : 1 ≤ n) (h4 : n ≤ 4) (h : hitC (gS s) s.size k0 n = true) : nextB s k0 = true := by
  unfold nextB
  rcases (by omega : n = 1 ∨ n = 2 ∨ n = 3 ∨ n = 4) with rfl | rfl | rfl | rfl <;> simp [h]
theorem nextB_no {s : ByteArray} {k0 : Nat} (h : ∀ m, 1 ≤ m → m < 5 → hitC (gS s) s.size k0 m = false) : nextB s k0 = false := by
  unfold nextB
  rw [h 1 (by omega) (by omega), h 2 (by omega) (by omega), h 3 (by omega) (by omega), h 4 (by omega) (by omega)]
  rfl
set_option maxRecDepth 100000 in
set_option maxHeartbeats 8000000 in
theorem next_any (s : ByteArray) (k0 : Nat) (w : World) (hk : k0 < s.size) (hs : s.size ≤ 35184372088832) :
    Calls Try.prog 42 #[.string s, .int .i64 (k0 : Int)] w fun e w' => e = .returned (.tuple #[.int .i64 (nextC (gS s) s.size k0).1, .int .i64 ((nextC (gS s) s.size k0).2 : Int), .bool (nextB s k0)]) ∧ Below w.heap.size w w' := by
  obtain ⟨nc, hnc⟩ : ∃ nc, nc = nextC (gS s) s.size k0 := ⟨_, rfl⟩
  rw [← hnc]
  have HNC := Lib.hid hnc
  clear hnc
  obtain ⟨nb, hnb⟩ : ∃ nb, nb = nextB s k0 := ⟨_, rfl⟩
  rw [← hnb]
  have HNB := Lib.hid hnb
  clear hnb
  have HM := Lib.hid (fun (n : Nat) (W : World) (h1 : 1 ≤ n) (h4 : n ≤ 4) => more_any s k0 n W hk hs h1 h4)
  have d1 : decide ((k0 : Int) < 0) = false := by simp
  have d2 : decide ((s.size : Int) ≤ (k0 : Int)) = false := by simp; omega
  have d3 : decide (s.size ≤ k0) = false := by simp; omega
  go_enter Try.func42, Try.ntmps42
  go_wp2_with fail
  clear d1 d2 d3
  go_loopw [7] (fun i wr => ∃ n : Nat, 1 ≤ n ∧ n ≤ 5 ∧ i = .int .i64 (n : Int) ∧ (∀ m, 1 ≤ m → m < n → hitC (gS s) s.size k0 m = false) ∧ Below w.heap.size w wr) (fun i _ => 5 - (intOf i).toNat)
  case atStart => exact ⟨1, by omega, by omega, rfl, fun m h1 h2 => by omega, Below.refl _ _⟩
  case round =>
    obtain ⟨n, hn1, hn5, rfl, hno, hb⟩ := hrel
    have HNO := Lib.hid hno
    have HB := Lib.hid hb
    clear hno hb
    by_cases hlt : n ≤ 4
    · have dt : decide ((n : Int) ≤ 4) = true := by simp; omega
      have HMN := Lib.hid (HM.out n wr hn1 hlt)
      obtain ⟨c, hc⟩ : ∃ c, c = moreC (gS s) s.size k0 n := ⟨_, rfl⟩
      rw [← hc] at HMN
      have HIS := Lib.hid (is_any c)
      have HPU := Lib.hid (put_any c)
      obtain ⟨ic, hic⟩ : ∃ ic, ic = isC c := ⟨_, rfl⟩
      rw [← hic] at HIS
      have HIC := Lib.hid hic
      have HC := Lib.hid hc
      clear hic hc
      cases ic with
      | false =>
        have hh : hitC (gS s) s.size k0 n = false := by unfold hitC; rw [← HC.out, ← HIC.out]; rfl
        have HH := Lib.hid hh
        clear hh
        go_upto_region 2 with (go_at_call 76; refine HMN.out.mono ?_; rintro e w2 ⟨rfl, hw2⟩; rw [hw2]; clear hw2)
        go_quiet ((go_at_call 77; exact Calls.quiet_of_same (HIS.out _)))
        go_wp2_with fail
        go_roundw
        case rel => exact ⟨n + 1, by omega, by omega, by go_num, fun m h1 h2 => by
                      by_cases e : m = n
                      · rw [e]; exact HH.out
                      · exact HNO.out m h1 (by omega), below_drewN HB.out _⟩
        case measure => simp [intOf]; omega
      | true =>
        go_upto_region 2 with (go_at_call 76; refine HMN.out.mono ?_; rintro e w2 ⟨rfl, hw2⟩; rw [hw2]; clear hw2)
        have hin := more_short (s := s) (k0 := k0) (n := n) (by rw [← HC.out, ← HIC.out])
        have hhit := hit_of (s := s) (k0 := k0) (n := n) (c := c) HC.out (by rw [← HIC.out])
        obtain ⟨ps, hps⟩ : ∃ ps, ps = putS c := ⟨_, rfl⟩
        rw [← hps] at HPU hhit
        obtain ⟨ex, hex⟩ : ∃ ex, ex = s.extract k0 (k0 + n) := ⟨_, rfl⟩
        rw [← hex] at hhit
        have hsl := fun W => T12.slice_piece s k0 n hin W
        rw [← hex] at hsl
        have HH := Lib.hid hhit
        clear hps hex hhit
        obtain ⟨eqb, heqb⟩ : ∃ eqb, eqb = (ps.toList == ex.toList) := ⟨_, rfl⟩
        have HEQ := Lib.hid (show eqb = true ↔ ps = ex by
          rw [heqb]
          constructor
          · intro h; apply Classical.byContradiction; intro h2; rw [T12.eqB_false h2] at h; cases h
          · intro h; exact T12.eqB_true h)
        have heqs := heqb.symm
        clear heqb
        have z1 : IntKind.i64.wrap ((k0 : Int) + (n : Int)) = (k0 : Int) + (n : Int) := IntWalk.i64_in _ (by omega)
        go_region_held3 (fun w' => Below wr.heap.size wr w')
          (first
            | assumption
            | exact (Below.refl _ _).drew
            | exact Below.trans (by assumption) (hb9.mono (Below.size (by assumption))))
          (first
            | (go_at_call 77; refine (HIS.out _).mono ?_; rintro e w9 ⟨rfl, hw9⟩; rw [hw9]; clear hw9)
            | (go_at_call 43; refine (HPU.out _).mono ?_; rintro e w9 ⟨rfl, hb9⟩))
        cases eqb with
        | true =>
          have hy := HH.out.2 (HEQ.out.1 (by simp))
          have hn := next_hit hn1 hlt HNO.out hy
          rw [← HC.out, ← HNC.out] at hn
          have HN := Lib.hid hn
          clear hn hy
          go_wp2_with fail
          go_ret3
          rw [HN.out, HNB.out, nextB_yes hn1 hlt (HH.out.2 (HEQ.out.1 (by simp)))]
          refine ⟨by first | rfl | simp, ?_⟩
          first
            | exact HB.out.trans ((by assumption : Below wr.heap.size wr _).mono HB.out.size)
            | exact HB.out
        | false =>
          go_wp2_with fail
          go_roundw
          case rel => exact ⟨n + 1, by omega, by omega, by go_num, fun m h1 h2 => by
                        by_cases e : m = n
                        · rw [e, Bool.eq_false_iff]
                          intro h3
                          have := HEQ.out.2 (HH.out.1 h3)
                          cases this
                        · exact HNO.out m h1 (by omega), HB.out.trans ((by assumption : Below wr.heap.size wr _).mono HB.out.size)⟩
          case measure => simp [intOf]; omega
    · obtain rfl : n = 5 := by omega
      have dt : decide (((5 : Nat) : Int) ≤ 4) = false := by simp
      have hn := next_none HNO.out
      rw [← HNC.out] at hn
      have HN := Lib.hid hn
      clear hn
      go_wp2_with fail
      go_ret3
      rw [HN.out, HNB.out, nextB_no HNO.out]
      exact ⟨by first | rfl | simp, HB.out⟩
end Go.Proofs.Ytfjgfabochiflaa
