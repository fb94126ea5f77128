/- Where a key's hashPlace is: the program's and the reference's functions answer the same number. -/
import Derived.Test.YtgejpggbmgiocaaHMix
import Derived.Test.YtgejpggbmgiocaaHPl
namespace Go.Proofs.Ytgejpggbmgiocaa
open Go.RowKit

/-- a slice of numbers of a kind -/
def NumC (q : IntKind) (xs : List Int) (k _j : Nat) : Value := .int q (xs.getD k 0)
/-- numbers below a bound -/
def Under (b : Int) (xs : List Int) : Prop := ∀ i, 0 ≤ xs.getD i 0 ∧ xs.getD i 0 < b

theorem mod_idx (m : Int) (n : Nat) (hn : 0 < n) : 0 ≤ m % (n : Int) ∧ m % (n : Int) < n := ⟨Int.emod_nonneg _ (by omega), Int.emod_lt_of_pos _ (by omega)⟩

set_option maxHeartbeats 1000000 in
theorem place_any (A0 A1 : Option Addr) (x2 : Value) (n0 n1 c0 c1 : Nat) (S K : List Int) (key : Int) (w : World) (hS : S.length = n0) (hK : K.length = n1) (hn0 : n0 ≤ 140737488355328) (hn1 : n1 ≤ 140737488355328) (hpos : 0 < n1)
    (hu : Under 4294967296 S)
    (h0 : Arr w w.heap.size 1 A0 n0 (NumC .u32 S)) (h1 : Arr w w.heap.size 1 A1 n1 (NumC .u64 K)) :
    Calls Try.prog 24 #[.agg #[.slice A0 n0 c0, .slice A1 n1 c1, x2], .int .u64 key] w fun e w' => e = .returned (.int .i64 (hashPlace mix S K key)) ∧ Below w.heap.size w w' := by
  have H0 := Lib.hid (h0.below ((Below.refl w.heap.size w).alloc (Nat.le_refl _) (.cells #[.slice A0 n0 c0, .slice A1 n1 c1, x2] 25)))
  have H1 := Lib.hid (h1.below ((Below.refl w.heap.size w).alloc (Nat.le_refl _) (.cells #[.slice A0 n0 c0, .slice A1 n1 c1, x2] 25)))
  clear h0 h1
  by_cases hz : n0 = 0
  · subst hz
    have hpl : hashPlace mix S K key = bs K key n1 0 n1 := by unfold hashPlace; rw [if_pos hS, hK]
    rw [hpl]
    clear hpl
    go_enter Try.func24, Try.ntmps24
    go_wp2
    go_quiet (fail)
    go_wp2
    go_loop [5, 6] (fun lo hi => ∃ f l h : Nat, lo = .int .i64 l ∧ hi = .int .i64 h ∧ l ≤ h ∧ h ≤ n1 ∧ h - l ≤ f ∧ bs K key f l h = bs K key n1 0 n1) (fun lo hi => (intOf hi - intOf lo).toNat)
    case atStart => exact ⟨n1, 0, n1, rfl, rfl, by omega, by omega, by omega, rfl⟩
    case round =>
      obtain ⟨f, l, h, rfl, rfl, hlh, hhn, hf, hbs⟩ := hrel
      have HB := Lib.hid hbs
      clear hbs
      by_cases hlt : l < h
      · obtain ⟨b, o, rfl, _, hc⟩ := H1.out.one (k := (l + h) / 2) (by omega)
        unfold NumC at hc
        obtain ⟨x, hx⟩ : ∃ x, x = K.getD ((l + h) / 2) 0 := ⟨_, rfl⟩
        rw [← hx] at hc
        have HX := Lib.hid hx
        clear hx
        obtain ⟨f, rfl⟩ : ∃ f', f = f' + 1 := ⟨f - 1, by omega⟩
        by_cases hxk : x < key
        · go_wp2
          go_round
          case rel => exact ⟨f, (l + h) / 2 + 1, h, by go_num, rfl, by omega, by omega, by omega, by rw [← HB.out, bs_up K key f l h hlt (by rw [← HX.out]; exact hxk)]⟩
          case measure => simp [intOf]; omega
        · go_wp2
          go_round
          case rel => exact ⟨f, l, (l + h) / 2, rfl, by go_num, by omega, by omega, by omega, by rw [← HB.out, bs_down K key f l h hlt (by rw [← HX.out]; exact hxk)]⟩
          case measure => simp [intOf]; omega
      · go_wp2
        go_ret
        exact ⟨ret_int (by rw [← HB.out, bs_end K key f l h hlt]), below_drewN ((Below.refl _ _).alloc (Nat.le_refl _) _) _⟩
  · obtain ⟨m0, hm0⟩ : ∃ m, m = mix 0 key := ⟨_, rfl⟩
    obtain ⟨hb0, hb1⟩ := mix_bd 0 key
    rw [← hm0] at hb0 hb1
    have hi := mod_idx m0 n0 (by omega)
    obtain ⟨i, hi'⟩ := Int.eq_ofNat_of_zero_le hi.1
    have hin : i < n0 := by omega
    obtain ⟨b, o, rfl, _, hc⟩ := H0.out.one hin
    unfold NumC at hc
    obtain ⟨x, hx⟩ : ∃ x, x = S.getD i 0 := ⟨_, rfl⟩
    rw [← hx] at hc
    have hx0 := hu i
    rw [← hx] at hx0
    obtain ⟨m1, hm1⟩ : ∃ m, m = mix x key := ⟨_, rfl⟩
    obtain ⟨hb2, hb3⟩ := mix_bd x key
    rw [← hm1] at hb2 hb3
    have hpl : hashPlace mix S K key = m1 % n1 := by
      unfold hashPlace
      rw [if_neg (by omega), hS, hK, ← hm0, hi', Int.toNat_natCast, ← hx, ← hm1]
    have hj := mod_idx m1 n1 hpos
    rw [hpl]
    have HI := Lib.hid hi'
    have c1 : ∀ W, Calls Try.prog 37 #[.int .u32 0, .int .u64 key] W fun e w' => e = .returned (.int .u64 m0) ∧ w' = W := fun W => by
      rw [hm0]; exact mix_any 0 key W (by omega) (by omega)
    have c2 : ∀ W, Calls Try.prog 37 #[.int .u32 x, .int .u64 key] W fun e w' => e = .returned (.int .u64 m1) ∧ w' = W := fun W => by
      rw [hm1]; exact mix_any x key W hx0.1 hx0.2
    have C1 := Lib.hid c1
    have C2 := Lib.hid c2
    clear hpl hi' hm0 hm1 hx c1 c2 hu
    have hw0 : IntKind.u64.wrap (n0 : Int) = n0 := wrap_u64_in _ (by omega) (by omega)
    have hw1 : IntKind.u64.wrap (n1 : Int) = n1 := wrap_u64_in _ (by omega) (by omega)
    have hmod0 : m0.tmod (n0 : Int) = (i : Int) := by rw [Int.tmod_eq_emod_of_nonneg hb0]; exact HI.out
    have hwi : IntKind.u64.wrap (i : Int) = i := wrap_u64_in _ (by omega) (by omega)
    obtain ⟨j, hj'⟩ := Int.eq_ofNat_of_zero_le hj.1
    have hmod1 : m1.tmod (n1 : Int) = (j : Int) := by rw [Int.tmod_eq_emod_of_nonneg hb2]; exact hj'
    have hwj : IntKind.u64.wrap (j : Int) = j := wrap_u64_in _ (by omega) (by omega)
    have hjn : j < n1 := by omega
    have HJ := Lib.hid hj'
    clear hj' hj hi
    go_enter Try.func24, Try.ntmps24
    go_wp2
    go_quiet ((go_at_call 37; exact Calls.quiet_of_same (C1.out _)))
    go_wp2
    go_quiet ((go_at_call 37; exact quiet_add_same (C2.out _)))
    go_wp2
    go_ret
    exact ⟨ret_int HJ.out.symm, below_drewN (below_drewN ((Below.refl _ _).alloc (Nat.le_refl _) _) _) _⟩
set_option maxHeartbeats 1000000 in
theorem rplace_any (A0 A1 : Option Addr) (x2 : Value) (n0 n1 c0 c1 : Nat) (S K : List Int) (key : Int) (w : World) (hS : S.length = n0) (hK : K.length = n1) (hn0 : n0 ≤ 140737488355328) (hn1 : n1 ≤ 140737488355328) (hpos : 0 < n1)
    (hu : Under 4294967296 S)
    (h0 : Arr w w.heap.size 1 A0 n0 (NumC .u32 S)) (h1 : Arr w w.heap.size 1 A1 n1 (NumC .u64 K)) :
    Calls Try.prog 26 #[.agg #[.slice A0 n0 c0, .slice A1 n1 c1, x2], .int .u64 key] w fun e w' => e = .returned (.int .i64 (hashPlace mix S K key)) ∧ Below w.heap.size w w' := by
  have H0 := Lib.hid (h0.below ((Below.refl w.heap.size w).alloc (Nat.le_refl _) (.cells #[.slice A0 n0 c0, .slice A1 n1 c1, x2] 25)))
  have H1 := Lib.hid (h1.below ((Below.refl w.heap.size w).alloc (Nat.le_refl _) (.cells #[.slice A0 n0 c0, .slice A1 n1 c1, x2] 25)))
  clear h0 h1
  by_cases hz : n0 = 0
  · subst hz
    have hpl : hashPlace mix S K key = bs K key n1 0 n1 := by unfold hashPlace; rw [if_pos hS, hK]
    rw [hpl]
    clear hpl
    go_enter Try.func26, Try.ntmps26
    go_wp2
    go_loop [5, 6] (fun lo hi => ∃ f l h : Nat, lo = .int .i64 l ∧ hi = .int .i64 h ∧ l ≤ h ∧ h ≤ n1 ∧ h - l ≤ f ∧ bs K key f l h = bs K key n1 0 n1) (fun lo hi => (intOf hi - intOf lo).toNat)
    case atStart => exact ⟨n1, 0, n1, rfl, rfl, by omega, by omega, by omega, rfl⟩
    case round =>
      obtain ⟨f, l, h, rfl, rfl, hlh, hhn, hf, hbs⟩ := hrel
      have HB := Lib.hid hbs
      clear hbs
      by_cases hlt : l < h
      · obtain ⟨b, o, rfl, _, hc⟩ := H1.out.one (k := (l + h) / 2) (by omega)
        unfold NumC at hc
        obtain ⟨x, hx⟩ : ∃ x, x = K.getD ((l + h) / 2) 0 := ⟨_, rfl⟩
        rw [← hx] at hc
        have HX := Lib.hid hx
        clear hx
        obtain ⟨f, rfl⟩ : ∃ f', f = f' + 1 := ⟨f - 1, by omega⟩
        by_cases hxk : x < key
        · go_wp2
          go_round
          case rel => exact ⟨f, (l + h) / 2 + 1, h, by go_num, rfl, by omega, by omega, by omega, by rw [← HB.out, bs_up K key f l h hlt (by rw [← HX.out]; exact hxk)]⟩
          case measure => simp [intOf]; omega
        · go_wp2
          go_round
          case rel => exact ⟨f, l, (l + h) / 2, rfl, by go_num, by omega, by omega, by omega, by rw [← HB.out, bs_down K key f l h hlt (by rw [← HX.out]; exact hxk)]⟩
          case measure => simp [intOf]; omega
      · go_wp2
        go_ret
        exact ⟨ret_int (by rw [← HB.out, bs_end K key f l h hlt]), (Below.refl _ _).alloc (Nat.le_refl _) _⟩
  · obtain ⟨m0, hm0⟩ : ∃ m, m = mix 0 key := ⟨_, rfl⟩
    obtain ⟨hb0, hb1⟩ := mix_bd 0 key
    rw [← hm0] at hb0 hb1
    have hi := mod_idx m0 n0 (by omega)
    obtain ⟨i, hi'⟩ := Int.eq_ofNat_of_zero_le hi.1
    have hin : i < n0 := by omega
    obtain ⟨b, o, rfl, _, hc⟩ := H0.out.one hin
    unfold NumC at hc
    obtain ⟨x, hx⟩ : ∃ x, x = S.getD i 0 := ⟨_, rfl⟩
    rw [← hx] at hc
    have hx0 := hu i
    rw [← hx] at hx0
    obtain ⟨m1, hm1⟩ : ∃ m, m = mix x key := ⟨_, rfl⟩
    obtain ⟨hb2, hb3⟩ := mix_bd x key
    rw [← hm1] at hb2 hb3
    have hpl : hashPlace mix S K key = m1 % n1 := by
      unfold hashPlace
      rw [if_neg (by omega), hS, hK, ← hm0, hi', Int.toNat_natCast, ← hx, ← hm1]
    have hj := mod_idx m1 n1 hpos
    rw [hpl]
    have HI := Lib.hid hi'
    have c1 : ∀ W, Calls Try.prog 40 #[.int .u32 0, .int .u64 key] W fun e w' => e = .returned (.int .u64 m0) ∧ w' = W := fun W => by
      rw [hm0]; exact rmix_any 0 key W (by omega) (by omega)
    have c2 : ∀ W, Calls Try.prog 40 #[.int .u32 x, .int .u64 key] W fun e w' => e = .returned (.int .u64 m1) ∧ w' = W := fun W => by
      rw [hm1]; exact rmix_any x key W hx0.1 hx0.2
    have C1 := Lib.hid c1
    have C2 := Lib.hid c2
    clear hpl hi' hm0 hm1 hx c1 c2 hu
    have hw0 : IntKind.u64.wrap (n0 : Int) = n0 := wrap_u64_in _ (by omega) (by omega)
    have hw1 : IntKind.u64.wrap (n1 : Int) = n1 := wrap_u64_in _ (by omega) (by omega)
    have hmod0 : m0.tmod (n0 : Int) = (i : Int) := by rw [Int.tmod_eq_emod_of_nonneg hb0]; exact HI.out
    have hwi : IntKind.u64.wrap (i : Int) = i := wrap_u64_in _ (by omega) (by omega)
    obtain ⟨j, hj'⟩ := Int.eq_ofNat_of_zero_le hj.1
    have hmod1 : m1.tmod (n1 : Int) = (j : Int) := by rw [Int.tmod_eq_emod_of_nonneg hb2]; exact hj'
    have hwj : IntKind.u64.wrap (j : Int) = j := wrap_u64_in _ (by omega) (by omega)
    have hjn : j < n1 := by omega
    have HJ := Lib.hid hj'
    clear hj' hj hi
    go_enter Try.func26, Try.ntmps26
    go_wp2
    go_quiet ((go_at_call 40; exact Calls.quiet_of_same (C1.out _)))
    go_wp2
    go_quiet ((go_at_call 40; exact quiet_add_same (C2.out _)))
    go_wp2
    go_ret
    exact ⟨ret_int HJ.out.symm, below_drewN (below_drewN ((Below.refl _ _).alloc (Nat.le_refl _) _) _) _⟩
end Go.Proofs.Ytgejpggbmgiocaa
