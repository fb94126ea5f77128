/- Which of two pairs comes first. -/
import Derived.Test.YtfjgfabochiflaaHMergeQTc
import Derived.Test.YtfjgfabochiflaaHFlat
import Derived.Deep.RegionHeld3
import Derived.Test.YtfjgfabochiflaaHTakeCall
namespace Go.Proofs.Ytfjgfabochiflaa.H14
open Go.RowKit

def or2 (x y : Int) : Int := if x = 0 then y else x
set_option maxHeartbeats 2000000 in
theorem or_any (b : Nat) (x y : Int) (w : World) (h0 : w.cell? ⟨b, 0, none⟩ = some (.int .i64 x)) (h1 : w.cell? ⟨b, 1, none⟩ = some (.int .i64 y)) : Calls Try.prog 95 #[.slice (some ⟨b, 0, none⟩) 2 2] w fun e w' => e = .returned (.int .i64 (or2 x y)) ∧ w' = w := by
  unfold or2
  by_cases hx : x = 0
  · have b0 : (x != 0) = false := by simp [hx]
    rw [if_pos hx]
    clear hx
    by_cases hy : y = 0
    · have b1 : (y != 0) = false := by simp [hy]
      have HY := Lib.hid hy
      clear hy
      go_enter Try.func95, Try.ntmps95
      go_wp2
      go_loop [8] (fun i => ∃ k : Nat, k ≤ 2 ∧ i = .int .i64 k) (fun i => 2 - (intOf i).toNat)
      case atStart => exact ⟨0, by omega, rfl⟩
      case round =>
        obtain ⟨k, hk, rfl⟩ := hrel
        rcases (by omega : k = 0 ∨ k = 1 ∨ k = 2) with rfl | rfl | rfl
        · go_wp2
          go_round
          case rel => exact ⟨1, by omega, by go_num⟩
          case measure => simp [intOf]
        · go_wp2
          go_round
          case rel => exact ⟨2, by omega, by go_num⟩
          case measure => simp [intOf]
        · go_wp2
          go_ret
          exact ⟨by rw [HY.out]; rfl, rfl⟩
    · have b1 : (y != 0) = true := by simp [hy]
      clear hy
      go_enter Try.func95, Try.ntmps95
      go_wp2
      go_loop [8] (fun i => ∃ k : Nat, k ≤ 1 ∧ i = .int .i64 k) (fun i => 2 - (intOf i).toNat)
      case atStart => exact ⟨0, by omega, rfl⟩
      case round =>
        obtain ⟨k, hk, rfl⟩ := hrel
        rcases (by omega : k = 0 ∨ k = 1) with rfl | rfl
        · go_wp2
          go_round
          case rel => exact ⟨1, by omega, by go_num⟩
          case measure => simp [intOf]
        · go_wp2
          go_ret
          exact ⟨rfl, rfl⟩
  · have b0 : (x != 0) = true := by simp [hx]
    rw [if_neg hx]
    clear hx
    go_enter Try.func95, Try.ntmps95
    go_wp2
    go_loop [8] (fun i => i = .int .i64 0) (fun _ => 0)
    case atStart => rfl
    case round =>
      subst hrel
      go_wp2
      go_ret
      exact ⟨rfl, rfl⟩
def prF (p : Pr) : Nat → Value
  | 0 => .int .i64 p.rank
  | 1 => .int .i64 p.left
  | 2 => .int .i64 p.first
  | _ => .int .i64 p.second
def prV (p : Pr) : Value := .agg #[.int .i64 p.rank, .int .i64 p.left, .int .i64 p.first, .int .i64 p.second]
/-- the order of two pairs is that of their numbers -/
def SmallP (p : Pr) : Prop := 0 ≤ p.rank ∧ p.rank < 4294967296 ∧ 0 ≤ p.left ∧ p.left < 4294967296
def cmpP (p q : Pr) : Int := or2 (p.rank - q.rank) (p.left - q.left)
theorem cmp_le {p q : Pr} (hp : SmallP p) (hq : SmallP q) : decide (cmpP p q ≤ 0) = decide (prKey p ≤ prKey q) := by
  obtain ⟨_, _, _, _⟩ := hp
  obtain ⟨_, _, _, _⟩ := hq
  unfold cmpP or2 prKey
  congr 1
  apply propext
  split <;> omega
theorem cmp_lt {p q : Pr} (hp : SmallP p) (hq : SmallP q) : decide (cmpP p q < 0) = decide (prKey p < prKey q) := by
  obtain ⟨_, _, _, _⟩ := hp
  obtain ⟨_, _, _, _⟩ := hq
  unfold cmpP or2 prKey
  congr 1
  apply propext
  split <;> omega
set_option maxRecDepth 100000 in
set_option maxHeartbeats 4000000 in
theorem less_any (p q : Pr) (hp : SmallP p) (hq : SmallP q) (w : World) : Calls Try.prog 94 #[prV p, prV q] w fun e w' => e = .returned (.int .i64 (cmpP p q)) ∧ Below w.heap.size w w' := by
  obtain ⟨x, hx⟩ : ∃ x, x = p.rank - q.rank := ⟨_, rfl⟩
  obtain ⟨y, hy⟩ : ∃ y, y = p.left - q.left := ⟨_, rfl⟩
  have w1 : IntKind.i64.wrap (p.rank - q.rank) = x := by
    obtain ⟨_, _, _, _⟩ := hp
    obtain ⟨_, _, _, _⟩ := hq
    rw [IntWalk.i64_in _ ⟨by omega, by omega⟩, hx]
  have w2 : IntKind.i64.wrap (p.left - q.left) = y := by
    obtain ⟨_, _, _, _⟩ := hp
    obtain ⟨_, _, _, _⟩ := hq
    rw [IntWalk.i64_in _ ⟨by omega, by omega⟩, hy]
  have w3 : wrap64 (p.rank - q.rank) = x := by
    obtain ⟨_, _, _, _⟩ := hp
    obtain ⟨_, _, _, _⟩ := hq
    rw [IntWalk.wrap64_in _ ⟨by omega, by omega⟩, hx]
  have w4 : wrap64 (p.left - q.left) = y := by
    obtain ⟨_, _, _, _⟩ := hp
    obtain ⟨_, _, _, _⟩ := hq
    rw [IntWalk.wrap64_in _ ⟨by omega, by omega⟩, hy]
  have HE := Lib.hid (show or2 x y = cmpP p q by rw [hx, hy]; rfl)
  have HO := Lib.hid (or_any (w.heap.size + 2) x y)
  have HB := Lib.hid (((((Below.refl w.heap.size w).alloc (Nat.le_refl _) (.cells #[.int .i64 p.rank, .int .i64 p.left, .int .i64 p.first, .int .i64 p.second] 178)).alloc (by simp) (.cells #[.int .i64 q.rank, .int .i64 q.left, .int .i64 q.first, .int .i64 q.second] 178)).alloc (by simp; omega) (.cells #[.int .i64 x, .int .i64 y] 3)))
  clear hx hy hp hq
  unfold prV
  go_enter Try.func94, Try.ntmps94
  go_wp2_with (go_at_call 95; refine (HO.out _ (by go_simp) (by go_simp)).mono ?_; rintro e w2 ⟨rfl, rfl⟩)
  go_returns
  exact ⟨by rw [← HE.out]; first | rfl | simp, by first | exact HB.out | simpa using HB.out⟩
end Go.Proofs.Ytfjgfabochiflaa.H14
