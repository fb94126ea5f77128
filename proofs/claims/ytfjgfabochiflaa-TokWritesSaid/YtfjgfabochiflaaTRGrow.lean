/- The reference: how much a text may grow; does a text go on with another one? -/
import Derived.Test.YtfjgfabochiflaaTGrow
namespace Go.Proofs.Ytfjgfabochiflaa.T12
open Go.RowKit

theorem ceil_iff {t f n : Nat} (hf : 0 < f) : n * f < t ↔ n < (t + f - 1) / f := by
  constructor
  · intro h
    apply Classical.byContradiction
    intro h2
    have h3 := ceil_le (t := t) hf
    have h4 : (t + f - 1) / f * f ≤ n * f := Nat.mul_le_mul_right _ (by omega)
    omega
  · intro h
    apply Classical.byContradiction
    intro h2
    have := ceil_min (n := n) hf (by omega : t ≤ n * f)
    omega

set_option maxRecDepth 100000 in
set_option maxHeartbeats 4000000 in
theorem rgrow_ok (A : Option Addr) (n c : Nat) (l : List SR) (w : World) (hl : l.length = n) (h : Arr w w.heap.size 2 A n (RuleC l)) (hok : AllOk l) :
    Calls Try.prog 37 #[.slice A n c] w fun e w' => e = .returned (.int .i64 (growN l n)) ∧ Below w.heap.size w w' := by
  have H := Lib.hid h
  have hn := hok.1
  have HOK := Lib.hid hok
  clear h hok
  go_enter Try.func37, Try.ntmps37
  go_wp2_with fail
  go_loopw [3, 9] (fun m i wr => ∃ k : Nat, k ≤ n ∧ i = .int .i64 k ∧ m = .int .i64 (growN l k) ∧ Below w.heap.size w wr) (fun _ i _ => n - (intOf i).toNat)
  case atStart => exact ⟨0, by omega, rfl, rfl, Below.refl _ _⟩
  case round =>
    obtain ⟨k, hk, rfl, rfl, hb⟩ := hrel
    have HB := Lib.hid hb
    have hbs := hb.size
    clear hb
    obtain ⟨w2, rfl⟩ : ∃ w2 : World, w2 = wr := ⟨_, rfl⟩
    have hgs : growN l (k + 1) = max (growN l k) (((l.getD k noRule).2.size + (l.getD k noRule).1.size - 1) / (l.getD k noRule).1.size) := rfl
    have hg32 := growN_le HOK.out k (by omega)
    obtain ⟨g, hg⟩ : ∃ g, g = growN l k := ⟨_, rfl⟩
    rw [← hg] at hgs hg32 ⊢
    have HG := Lib.hid hg
    clear hg
    by_cases hlt : k < n
    · obtain ⟨b, o, rfl, hbl, hc0, hc1⟩ := (H.out.below HB.out).two hlt
      simp only [RuleC, if_true, if_neg (show ¬ (1 : Nat) = 0 by omega)] at hc0 hc1
      have hf16 := (HOK.out.2 k (by omega)).few
      have hf1 := (HOK.out.2 k (by omega)).some
      have ht32 := (HOK.out.2 k (by omega)).few2
      obtain ⟨f, hf⟩ : ∃ f, f = (l.getD k noRule).1 := ⟨_, rfl⟩
      obtain ⟨t, ht⟩ : ∃ t, t = (l.getD k noRule).2 := ⟨_, rfl⟩
      rw [← hf] at hc0 hf16 hf1 hgs
      rw [← ht] at hc1 ht32 hgs
      clear hf ht
      have hc32 := ceil_small (t := t.size) (f := f.size) hf1 ht32
      have HCI := Lib.hid (fun n => ceil_iff (t := t.size) (f := f.size) (n := n) hf1)
      obtain ⟨q, hqq⟩ : ∃ q, q = (t.size + f.size - 1) / f.size := ⟨_, rfl⟩
      rw [← hqq] at hgs hc32 HCI
      have HGS := Lib.hid hgs
      clear hgs hqq
      go_wp2_with fail
      have HB3 := Lib.hid (HB.out.alloc hbs (.cells #[.string f, .string t] 114))
      have r0 : (w2.alloc (.cells #[.string f, .string t] 114)).cell? ⟨w2.heap.size, 0, none⟩ = some (.string f) := by simp
      have r1 : (w2.alloc (.cells #[.string f, .string t] 114)).cell? ⟨w2.heap.size, 1, none⟩ = some (.string t) := by simp
      generalize w2.alloc (.cells #[.string f, .string t] 114) = w3 at HB3 r0 r1 ⊢
      go_loopw [6] (fun x wr => ∃ j : Nat, j ≤ q ∧ x = .int .i64 j ∧ wr = w3) (fun x _ => q - (intOf x).toNat)
      case atStart => exact ⟨0, by omega, rfl, rfl⟩
      case round =>
        obtain ⟨j, hj, rfl, rfl⟩ := hrel
        have hci := HCI.out j
        have hjf : j * f.size ≤ 32 * 16 := Nat.mul_le_mul (by omega) hf16
        have hcast : (j : Int) * (f.size : Int) = ((j * f.size : Nat) : Int) := by simp
        have hwr : IntKind.i64.wrap ((j : Int) * (f.size : Int)) = (j : Int) * (f.size : Int) := IntWalk.i64_in _ (by omega)
        by_cases hlt2 : j < q
        · have hd : decide ((j : Int) * (f.size : Int) < (t.size : Int)) = true := by rw [hcast]; simp only [decide_eq_true_eq]; have := hci.mpr hlt2; omega
          have hd2 : (j : Int) * (f.size : Int) < (t.size : Int) := by simpa using hd
          clear hci hcast
          go_wp2_with fail
          go_roundw
          case rel => exact ⟨j + 1, by omega, by go_num, by first | rfl | trivial⟩
          case measure => simp [intOf]; omega
        · obtain rfl : j = q := by omega
          have hd : decide ((j : Int) * (f.size : Int) < (t.size : Int)) = false := by
            rw [hcast]; simp only [decide_eq_false_iff_not]
            intro h; have := hci.mp (by omega); omega
          have hd2 : ¬ (j : Int) * (f.size : Int) < (t.size : Int) := by simpa using hd
          have HB4 := Lib.hid HB3.out
          clear hci hcast
          by_cases hgq : g < j
          · have e1 : decide ((g : Int) < (j : Int)) = true := by simp; omega
            go_wp2_with fail
            go_roundw
            case rel => exact ⟨k + 1, by omega, by go_num, by rw [HGS.out, Nat.max_eq_right (by omega)], HB4.out⟩
            case measure => simp [intOf]; omega
          · have e1 : decide ((g : Int) < (j : Int)) = false := by simp; omega
            go_wp2_with fail
            go_roundw
            case rel => exact ⟨k + 1, by omega, by go_num, by rw [HGS.out, Nat.max_eq_left (by omega)], HB4.out⟩
            case measure => simp [intOf]; omega
    · obtain rfl : k = n := by omega
      go_wp2_with fail
      go_returns
      rw [HG.out]
      exact ⟨rfl, HB.out⟩

end Go.Proofs.Ytfjgfabochiflaa.T12
