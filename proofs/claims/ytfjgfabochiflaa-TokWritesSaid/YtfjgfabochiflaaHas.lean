/- set.Has and the reference's Has. -/
import Derived.Test.YtfjgfabochiflaaNfa
import Derived.Laws.BitsLemmas
import Derived.Laws.Bits64
namespace Go.Proofs.Ytfjgfabochiflaa
open Go.RowKit

def wordAt (s0 s1 s2 s3 : Int) (c : Nat) : Int := if c / 64 = 0 then s0 else if c / 64 = 1 then s1 else if c / 64 = 2 then s2 else s3
theorem word_cell (s0 s1 s2 s3 : Int) (c : Nat) (hc : c < 256) (w : World) :
    (w.alloc (.cells #[.int .u64 s0, .int .u64 s1, .int .u64 s2, .int .u64 s3] 26)).cell? ⟨w.heap.size, c / 64, none⟩ = some (.int .u64 (wordAt s0 s1 s2 s3 c)) := by
  have h := Blk.cell (Blk.new w 26 [.int .u64 s0, .int .u64 s1, .int .u64 s2, .int .u64 s3]) (c / 64)
  have h2 : ([.int .u64 s0, .int .u64 s1, .int .u64 s2, .int .u64 s3] : List Value)[c / 64]? = some (.int .u64 (wordAt s0 s1 s2 s3 c)) := by
    unfold wordAt
    rcases (by omega : c / 64 = 0 ∨ c / 64 = 1 ∨ c / 64 = 2 ∨ c / 64 = 3) with h | h | h | h <;> rw [h] <;> rfl
  rw [h2] at h
  exact h
theorem ret_bool {a b : Bool} (h : a = b) : Ending.returned (.bool a) = .returned (.bool b) := by rw [h]
def U64w (x : Int) : Prop := 0 ≤ x ∧ x < 18446744073709551616
def hasB (s0 s1 s2 s3 : Int) (c : Nat) : Bool := ((wordAt s0 s1 s2 s3 c / 2 ^ (c % 64)) % 2 == 1)
theorem word_ok {s0 s1 s2 s3 : Int} (c : Nat) (h0 : U64w s0) (h1 : U64w s1) (h2 : U64w s2) (h3 : U64w s3) : U64w (wordAt s0 s1 s2 s3 c) := by
  unfold wordAt
  repeat first | assumption | split
theorem shr_ok {x : Int} (h : U64w x) (k : Nat) : 0 ≤ x / 2 ^ k ∧ x / 2 ^ k < 18446744073709551616 := by
  obtain ⟨a, rfl⟩ := Int.eq_ofNat_of_zero_le h.1
  have h2 := h.2
  have e : ((a : Int) / 2 ^ k) = ((a / 2 ^ k : Nat) : Int) := by simp
  have := Nat.div_le_self a (2 ^ k)
  obtain ⟨b, hb⟩ : ∃ b, b = a / 2 ^ k := ⟨_, rfl⟩
  rw [e, ← hb]
  rw [← hb] at this
  omega
theorem wraps_u64 (n : Int) (h₀ : 0 ≤ n) (h₁ : n < 2 ^ 64) : IntKind.u64.wrap n = n := by rw [IntKind.wrap_u64]; omega
theorem and_one {x : Int} (h0 : 0 ≤ x) (h1 : x < 18446744073709551616) : bits .and .u64 x 1 = x % 2 := bits_mask .u64 64 (by decide) wraps_u64 1 (by decide) x h0 h1
set_option maxRecDepth 100000 in
theorem has_any (s0 s1 s2 s3 : Int) (h0 : U64w s0) (h1 : U64w s1) (h2 : U64w s2) (h3 : U64w s3) (c : Nat) (hc : c < 256) (w : World) :
    Calls Try.prog 126 #[.agg #[.int .u64 s0, .int .u64 s1, .int .u64 s2, .int .u64 s3], .int .u8 (c : Int)] w fun e w' => e = .returned (.bool (hasB s0 s1 s2 s3 c)) ∧ w' = w.alloc (.cells #[.int .u64 s0, .int .u64 s1, .int .u64 s2, .int .u64 s3] 26) := by
  have hcl := word_cell s0 s1 s2 s3 c hc w
  have hw := shr_ok (word_ok c h0 h1 h2 h3) (c % 64)
  have ha := and_one hw.1 hw.2
  obtain ⟨hb, hhb⟩ : ∃ hb, hb = hasB s0 s1 s2 s3 c := ⟨_, rfl⟩
  have HB := Lib.hid hhb
  unfold hasB at hhb
  rw [← HB.out]
  obtain ⟨x, hx⟩ : ∃ x, x = wordAt s0 s1 s2 s3 c := ⟨_, rfl⟩
  rw [← hx] at hcl hw ha hhb
  rw [← ha] at hhb
  have HHB := Lib.hid hhb
  clear hx h0 h1 h2 h3 hw hhb ha
  go_enter Try.func126, Try.ntmps126
  go_wp2_with fail
  go_returns
  exact ⟨ret_bool HHB.out.symm, by first | rfl | trivial⟩
end Go.Proofs.Ytfjgfabochiflaa
