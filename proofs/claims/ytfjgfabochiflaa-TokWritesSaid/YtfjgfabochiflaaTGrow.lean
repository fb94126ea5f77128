/- Apply where it refuses; how much a text may grow, program and reference. -/
import Derived.Test.YtfjgfabochiflaaTTells
namespace Go.Proofs.Ytfjgfabochiflaa.T12
open Go.RowKit Go.Maps Go.WideMaps

theorem rightE_cases (l : List SR) : rightE l = 0 ∨ rightE l = 2 ∨ rightE l = 110 := by
  unfold rightE
  split
  · simp
  · split <;> simp

set_option maxRecDepth 100000 in
set_option maxHeartbeats 4000000 in
theorem apply_no (A : Option Addr) (n c : Nat) (l : List SR) (s : ByteArray) (w : World) (hl : l.length = n) (hn : n ≤ 140737488355328) (h : Arr w w.heap.size 2 A n (RuleC l)) (hz : ∀ k, k < n → (l.getD k noRule).1.size ≤ maxLen)
    (hbad : rightE l ≠ 0) :
    Calls Try.prog 29 #[.slice A n c, .string s] w fun e w' => e = .returned (.tuple #[.string ⟨#[]⟩, .int .i64 (rightE l)]) ∧ Below w.heap.size w w' := by
  have HR := Lib.hid (right_any A n c l w hl hn h hz)
  obtain ⟨x, hx⟩ : ∃ x, x = rightE l := ⟨_, rfl⟩
  rw [← hx] at HR hbad ⊢
  clear h hz hx
  have hne : (x != 0) = true := by simpa using hbad
  go_enter Try.func29, Try.ntmps29
  go_wp2_with fail
  refine HR.out.mono ?_
  rintro e w1 ⟨rfl, hb1⟩
  have HB1 := Lib.hid hb1
  clear hb1
  go_wp2_with fail
  go_ret2
  exact ⟨rfl, HB1.out⟩
set_option maxRecDepth 100000 in
set_option maxHeartbeats 4000000 in
theorem apply_long (A : Option Addr) (n c : Nat) (l : List SR) (s : ByteArray) (w : World) (hl : l.length = n) (hn : n ≤ 140737488355328) (h : Arr w w.heap.size 2 A n (RuleC l)) (hz : ∀ k, k < n → (l.getD k noRule).1.size ≤ maxLen)
    (hok : rightE l = 0) (hs : 262144 < s.size) :
    Calls Try.prog 29 #[.slice A n c, .string s] w fun e w' => e = .returned (.tuple #[.string ⟨#[]⟩, .int .i64 2]) ∧ Below w.heap.size w w' := by
  have HR := Lib.hid (right_any A n c l w hl hn h hz)
  rw [hok] at HR
  clear h hz hok
  have d0 : decide ((262144 : Int) < (s.size : Int)) = true := by simp; omega
  go_enter Try.func29, Try.ntmps29
  go_wp2_with fail
  refine HR.out.mono ?_
  rintro e w1 ⟨rfl, hb1⟩
  have HB1 := Lib.hid hb1
  clear hb1
  go_wp2_with fail
  go_ret2
  exact ⟨rfl, HB1.out⟩

/-- how many bytes one byte may become -/
def growN (l : List SR) : Nat → Nat
  | 0 => 1
  | k + 1 => max (growN l k) (((l.getD k noRule).2.size + (l.getD k noRule).1.size - 1) / (l.getD k noRule).1.size)
theorem growN_pos (l : List SR) : ∀ k, 1 ≤ growN l k
  | 0 => Nat.le_refl _
  | k + 1 => by have := growN_pos l k; unfold growN; omega
theorem ceil_le {t f : Nat} (hf : 0 < f) : t ≤ ((t + f - 1) / f) * f := by
  have h1 := Nat.div_add_mod (t + f - 1) f
  have h2 := Nat.mod_lt (t + f - 1) hf
  rw [Nat.mul_comm] at h1
  omega
theorem ceil_min {t f n : Nat} (hf : 0 < f) (h : t ≤ n * f) : (t + f - 1) / f ≤ n := by
  have : (t + f - 1) / f < n + 1 := by
    rw [Nat.div_lt_iff_lt_mul hf, Nat.add_mul]
    omega
  omega
theorem ceil_small {t f : Nat} (hf : 0 < f) (ht : t ≤ 32) : (t + f - 1) / f ≤ 32 := ceil_min hf (by
  have : 32 * 1 ≤ 32 * f := Nat.mul_le_mul_left 32 hf
  omega)
theorem growN_le {l : List SR} (h : AllOk l) : ∀ k, k ≤ l.length → growN l k ≤ 32
  | 0, _ => by simp [growN]
  | k + 1, hk => by
    have h1 := growN_le h k (by omega)
    have h2 := h.2 k (by omega)
    have h3 := ceil_small (t := (l.getD k noRule).2.size) (f := (l.getD k noRule).1.size) h2.some h2.few2
    unfold growN
    omega
theorem growN_rule {l : List SR} (h : AllOk l) : ∀ k, k ≤ l.length → ∀ j, j < k → (l.getD j noRule).2.size ≤ growN l k * (l.getD j noRule).1.size
  | 0, _, j, hj => absurd hj (by omega)
  | k + 1, hk, j, hj => by
    have hle : growN l k ≤ growN l (k + 1) := Nat.le_max_left _ _
    by_cases e : j = k
    · subst e
      have h1 := ceil_le (t := (l.getD j noRule).2.size) (h.2 j (by omega)).some
      have h2 : ((l.getD j noRule).2.size + (l.getD j noRule).1.size - 1) / (l.getD j noRule).1.size ≤ growN l (j + 1) := Nat.le_max_right _ _
      exact Nat.le_trans h1 (Nat.mul_le_mul_right _ h2)
    · exact Nat.le_trans (growN_rule h k (by omega) j (by omega)) (Nat.mul_le_mul_right _ hle)
theorem rules_grow {l : List SR} (h : AllOk l) : ∀ r ∈ rulesOf l, r.2.length ≤ growN l l.length * r.1.length := fun r hr => by
  obtain ⟨k, hk, rfl⟩ := mem_rulesOf.mp hr
  simp only [size_data]
  exact growN_rule h l.length (Nat.le_refl _) k hk

set_option maxRecDepth 100000 in
set_option maxHeartbeats 4000000 in
theorem grow_no (A : Option Addr) (n c : Nat) (l : List SR) (w : World) (hl : l.length = n) (hn : n ≤ 140737488355328) (h : Arr w w.heap.size 2 A n (RuleC l)) (hz : ∀ k, k < n → (l.getD k noRule).1.size ≤ maxLen) (hbad : rightE l ≠ 0) :
    Calls Try.prog 64 #[.slice A n c] w fun e w' => e = .returned (.tuple #[.int .i64 0, .int .i64 (rightE l)]) ∧ Below w.heap.size w w' := by
  have HR := Lib.hid (right_any A n c l w hl hn h hz)
  obtain ⟨x, hx⟩ : ∃ x, x = rightE l := ⟨_, rfl⟩
  rw [← hx] at HR hbad ⊢
  clear h hz hx
  have hne : (x != 0) = true := by simpa using hbad
  go_enter Try.func64, Try.ntmps64
  go_wp2_with fail
  refine HR.out.mono ?_
  rintro e w1 ⟨rfl, hb1⟩
  have HB1 := Lib.hid hb1
  clear hb1
  go_wp2_with fail
  go_ret2
  exact ⟨rfl, HB1.out⟩

theorem quo_nat (a b : Nat) : ((a : Int)).tdiv (b : Int) = ((a / b : Nat) : Int) := by
  rw [Int.tdiv_eq_ediv_of_nonneg (by omega)]
  rfl
set_option maxRecDepth 100000 in
set_option maxHeartbeats 4000000 in
theorem grow_ok (A : Option Addr) (n c : Nat) (l : List SR) (w : World) (hl : l.length = n) (h : Arr w w.heap.size 2 A n (RuleC l)) (hz : ∀ k, k < n → (l.getD k noRule).1.size ≤ maxLen) (hok : AllOk l) :
    Calls Try.prog 64 #[.slice A n c] w fun e w' => e = .returned (.tuple #[.int .i64 (growN l n), .int .i64 0]) ∧ Below w.heap.size w w' := by
  have H := Lib.hid h
  have hn := hok.1
  have HR := Lib.hid (right_any A n c l w hl (by omega) h hz)
  have HOK := Lib.hid hok
  have hr0 : rightE l = 0 := rightE_ok (by omega) hok.2
  rw [hr0] at HR
  clear h hz hok hr0
  go_enter Try.func64, Try.ntmps64
  go_wp2_with fail
  refine HR.out.mono ?_
  rintro e w1 ⟨rfl, hb1⟩
  have HB1 := Lib.hid hb1
  have hs1 := hb1.size
  clear hb1 HR
  go_wp2_with fail
  go_loopw [5, 15] (fun m i wr => ∃ k : Nat, k ≤ n ∧ i = .int .i64 k ∧ m = .int .i64 (growN l k) ∧ Below w.heap.size w wr) (fun _ i _ => n - (intOf i).toNat)
  case atStart => exact ⟨0, by omega, rfl, rfl, HB1.out⟩
  case round =>
    obtain ⟨k, hk, rfl, rfl, hb⟩ := hrel
    have HB := Lib.hid hb
    have hbs := hb.size
    clear hb
    obtain ⟨w2, rfl⟩ : ∃ w2 : World, w2 = wr := ⟨_, rfl⟩
    have hgs : growN l (k + 1) = max (growN l k) (((l.getD k noRule).2.size + (l.getD k noRule).1.size - 1) / (l.getD k noRule).1.size) := rfl
    have hg32 := growN_le HOK.out k (by omega)
    obtain ⟨g, hg⟩ : ∃ g, g = growN l k := ⟨_, rfl⟩
    rw [← hg] at hgs hg32 ⊢
    have HG := Lib.hid hg
    clear hg
    by_cases hlt : k < n
    · obtain ⟨b, o, rfl, hbl, hc0, hc1⟩ := (H.out.below HB.out).two hlt
      simp only [RuleC, if_true, if_neg (show ¬ (1 : Nat) = 0 by omega)] at hc0 hc1
      have hf16 := (HOK.out.2 k (by omega)).few
      have hf1 := (HOK.out.2 k (by omega)).some
      have ht32 := (HOK.out.2 k (by omega)).few2
      obtain ⟨f, hf⟩ : ∃ f, f = (l.getD k noRule).1 := ⟨_, rfl⟩
      obtain ⟨t, ht⟩ : ∃ t, t = (l.getD k noRule).2 := ⟨_, rfl⟩
      rw [← hf] at hc0 hf16 hf1 hgs
      rw [← ht] at hc1 ht32 hgs
      clear hf ht
      have hq := quo_nat (t.size + f.size - 1) f.size
      have hcast : (((t.size + f.size - 1 : Nat)) : Int) = (t.size : Int) + (f.size : Int) - 1 := by omega
      rw [hcast] at hq
      have hc32 := ceil_small (t := t.size) (f := f.size) hf1 ht32
      obtain ⟨q, hqq⟩ : ∃ q, q = (t.size + f.size - 1) / f.size := ⟨_, rfl⟩
      rw [← hqq] at hq hgs hc32
      have HGS := Lib.hid hgs
      clear hgs hqq hcast
      have hfz : ((f.size : Int) == 0) = false := beq_eq_false_iff_ne.mpr (by omega)
      have hmx2 : (if g < q then (q : Int) else (g : Int)) = ((max g q : Nat) : Int) := by split <;> omega
      have HMX2 := Lib.hid hmx2
      clear hmx2
      go_wp2_with fail
      go_roundw
      case rel => exact ⟨k + 1, by omega, by go_num, by rw [HGS.out, ← HMX2.out], HB.out.alloc hbs _⟩
      case measure => simp [intOf]; omega
    · obtain rfl : k = n := by omega
      go_wp2_with fail
      go_ret2
      rw [HG.out]
      exact ⟨rfl, HB.out⟩
end Go.Proofs.Ytfjgfabochiflaa.T12
