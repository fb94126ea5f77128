/- slices.ContainsFunc at the closures of trans.Right. -/
import Derived.Test.YtfjgfabochiflaaChecked
import Derived.Test.YtfjgfabochiflaaBase
import Derived.Handy
namespace Go.Proofs.Ytfjgfabochiflaa.T12
open Go.RowKit

def NumC (q : IntKind) (xs : List Int) : Nat → Nat → Value := fun k _ => .int q (xs.getD k 0)
def StrC (xs : List ByteArray) : Nat → Nat → Value := fun k _ => .string (xs.getD k ⟨#[]⟩)
/-- is any number out of the range from 0 to N? -/
def AnyOut (xs : List Int) (N : Int) (k : Nat) : Prop := ∃ j, j < k ∧ (xs.getD j 0 < 0 ∨ N ≤ xs.getD j 0)

open Classical in
noncomputable def anyB (xs : List Int) (N : Int) (k : Nat) : Bool := if AnyOut xs N k then true else false
theorem anyB_yes {xs : List Int} {N : Int} {k : Nat} (h : AnyOut xs N k) : anyB xs N k = true := by unfold anyB; rw [if_pos h]
theorem anyB_no {xs : List Int} {N : Int} {k : Nat} (h : ¬ AnyOut xs N k) : anyB xs N k = false := by unfold anyB; rw [if_neg h]
/-- is any text too long? -/
def AnyLong (xs : List ByteArray) (k : Nat) : Prop := ∃ j, j < k ∧ 4096 < (xs.getD j ⟨#[]⟩).size
open Classical in
noncomputable def longB (xs : List ByteArray) (k : Nat) : Bool := if AnyLong xs k then true else false
theorem longB_yes {xs : List ByteArray} {k : Nat} (h : AnyLong xs k) : longB xs k = true := by unfold longB; rw [if_pos h]
theorem longB_no {xs : List ByteArray} {k : Nat} (h : ¬ AnyLong xs k) : longB xs k = false := by unfold longB; rw [if_neg h]

set_option maxHeartbeats 4000000 in
theorem idx44 (A : Option Addr) (n c p : Nat) (xs : List Int) (N : Int) (w : World) (hn : n ≤ 140737488355328) (h : Arr w w.heap.size 1 A n (NumC .i64 xs)) (hp : w.cell? ⟨p, 0, none⟩ = some (.int .i64 N)) :
    Calls Try.prog 69 #[.slice A n c, .func (.func 110) #[] #[.pointer (some ⟨p, 0, none⟩)]] w fun e w' => e = .returned (.bool (anyB xs N n)) ∧ w' = w := by
  have H := Lib.hid h
  clear h
  obtain ⟨bq, hbq⟩ : ∃ bq, bq = anyB xs N n := ⟨_, rfl⟩
  rw [← hbq]
  have HBQ := Lib.hid hbq
  clear hbq
  go_enter Try.func69, Try.ntmps69
  go_wp2
  go_loop [8] (fun i => ∃ k : Nat, k ≤ n ∧ i = .int .i64 k ∧ ¬ AnyOut xs N k) (fun i => n - (intOf i).toNat)
  case atStart => exact ⟨0, by omega, rfl, fun ⟨j, hj, _⟩ => absurd hj (by omega)⟩
  case round =>
    obtain ⟨k, hk, rfl, hno⟩ := hrel
    have HNO := Lib.hid hno
    clear hno
    by_cases hlt : k < n
    · obtain ⟨b, o, rfl, _, hc⟩ := H.out.one hlt
      unfold NumC at hc
      obtain ⟨x, hx⟩ : ∃ x, x = xs.getD k 0 := ⟨_, rfl⟩
      rw [← hx] at hc
      have HX := Lib.hid hx
      clear hx
      by_cases h1 : x < 0
      · have d1 : decide (x < 0) = true := by simpa using h1
        have hb : bq = true := by rw [HBQ.out]; exact anyB_yes ⟨k, by omega, .inl (by rw [← HX.out]; omega)⟩
        subst hb
        go_wp2
        go_returns
        exact ⟨by first | rfl | (simp; done) | (simp; omega), rfl⟩
      · have d1 : decide (x < 0) = false := by simpa using h1
        by_cases h2 : N ≤ x
        · have d2 : decide (N ≤ x) = true := by simpa using h2
          have hb : bq = true := by rw [HBQ.out]; exact anyB_yes ⟨k, by omega, .inr (by rw [← HX.out]; omega)⟩
          subst hb
          go_wp2
          go_returns
          exact ⟨by first | rfl | (simp; done) | (simp; omega), rfl⟩
        · have d2 : decide (N ≤ x) = false := by simpa using h2
          go_wp2
          go_round
          case rel => exact ⟨k + 1, by omega, by go_num, fun ⟨j, hj, h5⟩ => by
                        by_cases e : j = k
                        · rw [e, ← HX.out] at h5; omega
                        · exact HNO.out ⟨j, by omega, h5⟩⟩
          case measure => simp [intOf]; omega
    · obtain rfl : k = n := by omega
      have hb : bq = false := by rw [HBQ.out]; exact anyB_no HNO.out
      subst hb
      go_wp2
      go_returns
      exact ⟨by first | rfl | simp, rfl⟩

set_option maxHeartbeats 4000000 in
theorem idx45 (A : Option Addr) (n c p : Nat) (xs : List Int) (A3 : Option Addr) (n3 c3 : Nat) (w : World) (hn : n ≤ 140737488355328) (h : Arr w w.heap.size 1 A n (NumC .i64 xs)) (hp : w.cell? ⟨p, 3, none⟩ = some (.slice A3 n3 c3)) (hn3 : n3 ≤ 4096) :
    Calls Try.prog 69 #[.slice A n c, .func (.func 111) #[] #[.pointer (some ⟨p, 0, none⟩)]] w fun e w' => e = .returned (.bool (anyB xs (2 * (n3 : Int)) n)) ∧ w' = w := by
  have H := Lib.hid h
  clear h
  obtain ⟨bq, hbq⟩ : ∃ bq, bq = anyB xs (2 * (n3 : Int)) n := ⟨_, rfl⟩
  rw [← hbq]
  have HBQ := Lib.hid hbq
  clear hbq
  have hwr : IntKind.i64.wrap (2 * (n3 : Int)) = 2 * (n3 : Int) := IntWalk.i64_in _ (by omega)
  go_enter Try.func69, Try.ntmps69
  go_wp2
  go_loop [8] (fun i => ∃ k : Nat, k ≤ n ∧ i = .int .i64 k ∧ ¬ AnyOut xs (2 * (n3 : Int)) k) (fun i => n - (intOf i).toNat)
  case atStart => exact ⟨0, by omega, rfl, fun ⟨j, hj, _⟩ => absurd hj (by omega)⟩
  case round =>
    obtain ⟨k, hk, rfl, hno⟩ := hrel
    have HNO := Lib.hid hno
    clear hno
    by_cases hlt : k < n
    · obtain ⟨b, o, rfl, _, hc⟩ := H.out.one hlt
      unfold NumC at hc
      obtain ⟨x, hx⟩ : ∃ x, x = xs.getD k 0 := ⟨_, rfl⟩
      rw [← hx] at hc
      have HX := Lib.hid hx
      clear hx
      by_cases h1 : x < 0
      · have d1 : decide (x < 0) = true := by simpa using h1
        have hb : bq = true := by rw [HBQ.out]; exact anyB_yes ⟨k, by omega, .inl (by rw [← HX.out]; omega)⟩
        subst hb
        go_wp2
        go_returns
        exact ⟨by first | rfl | (simp; done) | (simp; omega), rfl⟩
      · have d1 : decide (x < 0) = false := by simpa using h1
        by_cases h2 : (2 * (n3 : Int)) ≤ x
        · have d2 : decide ((2 * (n3 : Int)) ≤ x) = true := by simpa using h2
          have hb : bq = true := by rw [HBQ.out]; exact anyB_yes ⟨k, by omega, .inr (by rw [← HX.out]; omega)⟩
          subst hb
          go_wp2
          go_returns
          exact ⟨by first | rfl | (simp; done) | (simp; omega), rfl⟩
        · have d2 : decide ((2 * (n3 : Int)) ≤ x) = false := by simpa using h2
          go_wp2
          go_round
          case rel => exact ⟨k + 1, by omega, by go_num, fun ⟨j, hj, h5⟩ => by
                        by_cases e : j = k
                        · rw [e, ← HX.out] at h5; omega
                        · exact HNO.out ⟨j, by omega, h5⟩⟩
          case measure => simp [intOf]; omega
    · obtain rfl : k = n := by omega
      have hb : bq = false := by rw [HBQ.out]; exact anyB_no HNO.out
      subst hb
      go_wp2
      go_returns
      exact ⟨by first | rfl | simp, rfl⟩

set_option maxHeartbeats 4000000 in
theorem idx47 (A : Option Addr) (n c : Nat) (xs : List ByteArray) (w : World) (hn : n ≤ 140737488355328) (h : Arr w w.heap.size 1 A n (StrC xs)) :
    Calls Try.prog 112 #[.slice A n c, .func (.func 113) #[] #[]] w fun e w' => e = .returned (.bool (longB xs n)) ∧ w' = w := by
  have H := Lib.hid h
  clear h
  obtain ⟨bq, hbq⟩ : ∃ bq, bq = longB xs n := ⟨_, rfl⟩
  rw [← hbq]
  have HBQ := Lib.hid hbq
  clear hbq
  go_enter Try.func112, Try.ntmps112
  go_wp2
  go_loop [8] (fun i => ∃ k : Nat, k ≤ n ∧ i = .int .i64 k ∧ ¬ AnyLong xs k) (fun i => n - (intOf i).toNat)
  case atStart => exact ⟨0, by omega, rfl, fun ⟨j, hj, _⟩ => absurd hj (by omega)⟩
  case round =>
    obtain ⟨k, hk, rfl, hno⟩ := hrel
    have HNO := Lib.hid hno
    clear hno
    by_cases hlt : k < n
    · obtain ⟨b, o, rfl, _, hc⟩ := H.out.one hlt
      unfold StrC at hc
      obtain ⟨x, hx⟩ : ∃ x, x = xs.getD k ⟨#[]⟩ := ⟨_, rfl⟩
      rw [← hx] at hc
      have HX := Lib.hid hx
      clear hx
      by_cases h1 : 4096 < x.size
      · have d1 : decide ((4096 : Int) < (x.size : Int)) = true := by simp; omega
        have hb : bq = true := by rw [HBQ.out]; exact longB_yes ⟨k, by omega, by rw [← HX.out]; omega⟩
        subst hb
        go_wp2
        go_returns
        exact ⟨by first | rfl | (simp; done) | (simp; omega), rfl⟩
      · have d1 : decide ((4096 : Int) < (x.size : Int)) = false := by simp; omega
        go_wp2
        go_round
        case rel => exact ⟨k + 1, by omega, by go_num, fun ⟨j, hj, h5⟩ => by
                      by_cases e : j = k
                      · rw [e, ← HX.out] at h5; omega
                      · exact HNO.out ⟨j, by omega, h5⟩⟩
        case measure => simp [intOf]; omega
    · obtain rfl : k = n := by omega
      have hb : bq = false := by rw [HBQ.out]; exact longB_no HNO.out
      subst hb
      go_wp2
      go_returns
      exact ⟨by first | rfl | simp, rfl⟩
end Go.Proofs.Ytfjgfabochiflaa.T12
