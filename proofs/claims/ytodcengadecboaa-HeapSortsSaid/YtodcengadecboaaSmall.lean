/- cmp.Compare, Rising, Often: what they return. -/
import Derived.Test.YtodcengadecboaaChecked
import Derived.Test.YtodcengadecboaaBox
import Derived.Test.YtodcengadecboaaHeapPlain
namespace Go.Proofs.Ytodcengadecboaa
open Go.RowKit

def cmp (x y : Int) : Int := if x < y then -1 else if y < x then 1 else 0
set_option maxHeartbeats 2000000 in
theorem compare_any (x y : Int) (w : World) : Calls Try.prog 7 #[.int .i64 x, .int .i64 y] w fun e w' => e = .returned (.int .i64 (cmp x y)) ∧ w' = w := by
  have hx : (x != x) = false := by simp
  have hy : (y != y) = false := by simp
  unfold cmp
  by_cases h1 : x < y
  · go_enter Try.func7, Try.ntmps7
    go_wp2
    go_ret
    exact ⟨by first | rfl | simp, rfl⟩
  · by_cases h2 : y < x
    · go_enter Try.func7, Try.ntmps7
      go_wp2
      go_ret
      exact ⟨by first | rfl | simp, rfl⟩
    · go_enter Try.func7, Try.ntmps7
      go_wp2
      go_ret
      exact ⟨by first | rfl | simp, rfl⟩

set_option maxHeartbeats 2000000 in
theorem often_any (A : Option Addr) (n c : Nat) (xs : List Int) (x : Int) (w : World) (hl : xs.length = n) (hn : n ≤ 300) (h : Arr w w.heap.size 1 A n (NumC .i64 xs)) :
    Calls Try.prog 6 #[.slice A n c, .int .i64 x] w fun e w' => e = .returned (.int .i64 (xs.count x)) ∧ w' = w := by
  have H := Lib.hid h
  clear h
  go_enter Try.func6, Try.ntmps6
  go_wp2
  go_loop [5, 10] (fun m i => ∃ k : Nat, k ≤ n ∧ i = .int .i64 k ∧ m = .int .i64 ((xs.take k).count x)) (fun _ i => n - (intOf i).toNat)
  case atStart => exact ⟨0, by omega, rfl, by simp⟩
  case round =>
    obtain ⟨k, hk, rfl, rfl⟩ := hrel
    have hmb : (xs.take k).count x ≤ k := Nat.le_trans List.count_le_length (by simp; omega)
    obtain ⟨m, hm⟩ : ∃ m, m = (xs.take k).count x := ⟨_, rfl⟩
    rw [← hm] at hmb ⊢
    have HM := Lib.hid hm
    clear hm
    by_cases hlt : k < n
    · obtain ⟨b, o, rfl, _, hc⟩ := H.out.one hlt
      unfold NumC at hc
      have hst : (xs.take (k + 1)).count x = m + if xs.getD k 0 = x then 1 else 0 := by
        rw [HM.out, List.take_succ_eq_append_getElem (by omega), List.count_append]
        simp [(by omega : k < xs.length), List.count_singleton]
      obtain ⟨y, hy⟩ : ∃ y, y = xs.getD k 0 := ⟨_, rfl⟩
      rw [← hy] at hc hst
      have HST := Lib.hid hst
      clear hy hst
      by_cases hxy : x = y
      · have hb : (x == y) = true := by simpa using hxy
        have HXY := Lib.hid hxy
        clear hxy
        go_wp2
        go_round
        case rel => exact ⟨k + 1, by omega, by go_num, by rw [HST.out, if_pos HXY.out.symm]; go_num⟩
        case measure => simp [intOf]; omega
      · have hb : (x == y) = false := by simpa using hxy
        have HXY := Lib.hid hxy
        clear hxy
        go_wp2
        go_round
        case rel => exact ⟨k + 1, by omega, by go_num, by rw [HST.out, if_neg (fun e => HXY.out e.symm)]; go_num⟩
        case measure => simp [intOf]; omega
    · go_wp2
      go_ret
      refine ⟨ret_int ?_, rfl⟩
      rw [HM.out, List.take_of_length_le (by omega)]

set_option maxHeartbeats 2000000 in
theorem rising_any (A : Option Addr) (n c : Nat) (xs : List Int) (w : World) (hl : xs.length = n) (hn : n ≤ 300) (hr : Rises xs) (h : Arr w w.heap.size 1 A n (NumC .i64 xs)) :
    Calls Try.prog 5 #[.slice A n c] w fun e w' => e = .returned (.bool true) ∧ ∃ m, w' = w.drewN m := by
  have H := Lib.hid h
  have HR := Lib.hid hr
  clear h hr
  go_enter Try.func5, Try.ntmps5
  go_wp2
  go_loopw [6] (fun i wr => ∃ k m : Nat, k ≤ n ∧ i = .int .i64 k ∧ wr = w.drewN m) (fun i _ => n - (intOf i).toNat)
  case atStart => exact ⟨0, 0, by omega, rfl, rfl⟩
  case round =>
    obtain ⟨k, m, hk, rfl, rfl⟩ := hrel
    by_cases hlt : k < n
    · obtain ⟨b, o, rfl, _, hc⟩ := H.out.one hlt
      by_cases h0 : 0 < k
      · obtain ⟨b', o', e', _, hc'⟩ := H.out.one (show k - 1 < n by omega)
        have e2 : b' = b ∧ o' = o := by injection e' with e'; injection e' with e1 e2; exact ⟨e1.symm, e2.symm⟩
        obtain ⟨rfl, rfl⟩ := e2
        unfold NumC at hc hc'
        have hle := HR.out k h0 (by omega)
        obtain ⟨x, hx⟩ : ∃ x, x = xs.getD k 0 := ⟨_, rfl⟩
        obtain ⟨y, hy⟩ : ∃ y, y = xs.getD (k - 1) 0 := ⟨_, rfl⟩
        rw [← hx, ← hy] at hle
        rw [← hx] at hc
        rw [← hy] at hc'
        clear hx hy e'
        obtain ⟨j, rfl⟩ : ∃ j, k = j + 1 := ⟨k - 1, by omega⟩
        simp only [Nat.add_sub_cancel] at hc'
        have d1 : decide ((0 : Int) < ((j + 1 : Nat) : Int)) = true := by simp
        have d2 : decide (x < y) = false := by simp; omega
        go_wp2_with fail
        go_quiet (fail)
        go_wp2_with fail
        go_roundw
        case rel => exact ⟨j + 2, _, by omega, by go_num, rfl⟩
        case measure => simp [intOf]; omega
      · obtain rfl : k = 0 := by omega
        go_wp2_with fail
        go_quiet (fail)
        go_wp2_with fail
        go_roundw
        case rel => exact ⟨1, _, by omega, by go_num, rfl⟩
        case measure => simp [intOf]; omega
    · go_wp2_with fail
      go_ret
      exact ⟨rfl, _, rfl⟩
end Go.Proofs.Ytodcengadecboaa
