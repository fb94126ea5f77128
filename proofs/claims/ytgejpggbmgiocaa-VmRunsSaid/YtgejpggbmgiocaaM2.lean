/- HPl, HPlace, HGet of this seat, in one text. -/
import Derived.Test.YtgejpggbmgiocaaM1
/- Plain functions: how a key's hashPlace is found, which hash may be, what it tells. No program in sight. -/
namespace Go.Proofs.Ytgejpggbmgiocaa

/-- by halves -/
def bs (K : List Int) (key : Int) : Nat → Nat → Nat → Nat
  | 0, lo, _ => lo
  | f + 1, lo, hi => if lo < hi then (if K.getD ((lo + hi) / 2) 0 < key then bs K key f ((lo + hi) / 2 + 1) hi else bs K key f lo ((lo + hi) / 2)) else lo

theorem bs_end (K : List Int) (key : Int) (f lo hi : Nat) (h : ¬ lo < hi) : bs K key f lo hi = lo := by
  cases f <;> simp [bs, h]
theorem bs_up (K : List Int) (key : Int) (f lo hi : Nat) (h : lo < hi) (hk : K.getD ((lo + hi) / 2) 0 < key) : bs K key (f + 1) lo hi = bs K key f ((lo + hi) / 2 + 1) hi := by
  rw [bs, if_pos h, if_pos hk]
theorem bs_down (K : List Int) (key : Int) (f lo hi : Nat) (h : lo < hi) (hk : ¬ K.getD ((lo + hi) / 2) 0 < key) : bs K key (f + 1) lo hi = bs K key f lo ((lo + hi) / 2) := by
  rw [bs, if_pos h, if_neg hk]

/-- a key's hashPlace; mix: how numbers are mixed -/
def hashPlace (mix : Int → Int → Int) (S K : List Int) (key : Int) : Int :=
  if S.length = 0 then (bs K key K.length 0 K.length : Int)
  else mix (S.getD (mix 0 key % S.length).toNat 0) key % K.length

/-- the key number k stands at its hashPlace (and rises, where there are no seeds) -/
def okAt (mix : Int → Int → Int) (S K : List Int) (k : Nat) : Bool :=
  (hashPlace mix S K (K.getD k 0) == k) && !(S.length == 0 && decide (0 < k) && decide (K.getD k 0 ≤ K.getD (k - 1) 0))

def hashRight (mix : Int → Int → Int) (S K V : List Int) : Bool :=
  !(decide (4096 < K.length) || V.length != K.length || decide (4096 < S.length) || K.length == 0 && decide (0 < S.length)) && (List.range K.length).all (okAt mix S K)

theorem right_no (mix : Int → Int → Int) (S K V : List Int) (h : 4096 < K.length ∨ V.length ≠ K.length ∨ 4096 < S.length ∨ (K.length = 0 ∧ 0 < S.length)) : hashRight mix S K V = false := by
  unfold hashRight
  rcases h with h | h | h | ⟨h, h'⟩ <;> simp [h]
  intro h1; omega
theorem right_bad (mix : Int → Int → Int) (S K V : List Int) (k : Nat) (hk : k < K.length) (h : okAt mix S K k = false) : hashRight mix S K V = false := by
  unfold hashRight
  have : (List.range K.length).all (okAt mix S K) = false := by
    rw [List.all_eq_false]
    exact ⟨k, by simpa using hk, by simp [h]⟩
  rw [this, Bool.and_false]
theorem right_yes (mix : Int → Int → Int) (S K V : List Int) (h1 : K.length ≤ 4096) (h2 : V.length = K.length) (h3 : S.length ≤ 4096) (h4 : K.length = 0 → S.length = 0) (h : ∀ k, k < K.length → okAt mix S K k = true) : hashRight mix S K V = true := by
  unfold hashRight
  have : (List.range K.length).all (okAt mix S K) = true := by
    rw [List.all_eq_true]
    intro k hk
    exact h k (by simpa using hk)
  have e1 : decide (4096 < K.length) = false := decide_eq_false (by omega)
  have e3 : decide (4096 < S.length) = false := decide_eq_false (by omega)
  have e4 : (K.length == 0 && decide (0 < S.length)) = false := by
    by_cases hz : K.length = 0
    · simp [h4 hz]
    · simp [hz]
  rw [this, e1, e3, e4, h2]
  simp
theorem okAt_place {mix : Int → Int → Int} {S K : List Int} {k : Nat} {p : Nat} (h : hashPlace mix S K (K.getD k 0) = p) (hp : p ≠ k) : okAt mix S K k = false := by
  unfold okAt
  rw [h]
  have : ((p : Int) == (k : Int)) = false := by rw [beq_eq_false_iff_ne]; omega
  simp [this]
theorem okAt_low {mix : Int → Int → Int} {S K : List Int} {k : Nat} (hS : S.length = 0) (hk : 0 < k) (h : K.getD k 0 ≤ K.getD (k - 1) 0) : okAt mix S K k = false := by
  unfold okAt
  rw [hS]
  simp only [beq_self_eq_true, Bool.true_and, decide_eq_true hk, decide_eq_true h, Bool.not_true, Bool.and_false]
theorem okAt_yes {mix : Int → Int → Int} {S K : List Int} {k : Nat} (h : hashPlace mix S K (K.getD k 0) = k) (h2 : S.length ≠ 0 ∨ k = 0 ∨ K.getD (k - 1) 0 < K.getD k 0) : okAt mix S K k = true := by
  unfold okAt
  rw [h]
  rcases h2 with h | h | h
  · simp [h]
  · simp [h]
  · have : ¬ (K.getD k 0 ≤ K.getD (k - 1) 0) := by omega
    rw [decide_eq_false this]
    simp

def hashGet (mix : Int → Int → Int) (S K V : List Int) (key : Int) : Int × Bool :=
  if K.length = 0 ∨ V.length ≠ K.length then (0, false)
  else if K.length ≤ hashPlace mix S K key ∨ K.getD (hashPlace mix S K key).toNat 0 ≠ key then (0, false)
  else (V.getD (hashPlace mix S K key).toNat 0, true)

theorem place_nat (mix : Int → Int → Int) (S K : List Int) (key : Int) (h : 0 < K.length) : ∃ p : Nat, hashPlace mix S K key = p := by
  unfold hashPlace
  split
  · exact ⟨_, rfl⟩
  · exact ⟨(mix (S.getD (mix 0 key % S.length).toNat 0) key % K.length).toNat, (Int.toNat_of_nonneg (Int.emod_nonneg _ (by omega))).symm⟩

theorem get_none (mix : Int → Int → Int) (S K V : List Int) (key : Int) (h : K.length = 0 ∨ V.length ≠ K.length) : hashGet mix S K V key = (0, false) := by
  unfold hashGet; rw [if_pos h]
theorem get_off (mix : Int → Int → Int) (S K V : List Int) (key : Int) (p : Nat) (h : hashPlace mix S K key = p) (hp : K.length ≤ p) : hashGet mix S K V key = (0, false) := by
  unfold hashGet
  split
  · rfl
  · rw [if_pos]; rw [h]; omega
theorem get_other (mix : Int → Int → Int) (S K V : List Int) (key : Int) (p : Nat) (h : hashPlace mix S K key = p) (hp : K.getD p 0 ≠ key) : hashGet mix S K V key = (0, false) := by
  unfold hashGet
  split
  · rfl
  · rw [if_pos]; rw [h]; exact .inr (by simpa using hp)
theorem get_hit (mix : Int → Int → Int) (S K V : List Int) (key : Int) (p : Nat) (h : hashPlace mix S K key = p) (h0 : V.length = K.length) (h1 : p < K.length) (hp : K.getD p 0 = key) : hashGet mix S K V key = (V.getD p 0, true) := by
  unfold hashGet
  rw [if_neg (by omega), if_neg]
  · rw [h]; simp
  · rw [h]; rintro (h | h)
    · omega
    · exact h (by simpa using hp)
end Go.Proofs.Ytgejpggbmgiocaa
/- Where a key's hashPlace is: the program's and the reference's functions answer the same number. -/
namespace Go.Proofs.Ytgejpggbmgiocaa
open Go.RowKit

/-- a slice of numbers of a kind -/
def NumC (q : IntKind) (xs : List Int) (k _j : Nat) : Value := .int q (xs.getD k 0)
/-- numbers below a bound -/
def Under (b : Int) (xs : List Int) : Prop := ∀ i, 0 ≤ xs.getD i 0 ∧ xs.getD i 0 < b

theorem mod_idx (m : Int) (n : Nat) (hn : 0 < n) : 0 ≤ m % (n : Int) ∧ m % (n : Int) < n := ⟨Int.emod_nonneg _ (by omega), Int.emod_lt_of_pos _ (by omega)⟩

set_option maxHeartbeats 1000000 in
theorem place_any (A0 A1 : Option Addr) (x2 : Value) (n0 n1 c0 c1 : Nat) (S K : List Int) (key : Int) (w : World) (hS : S.length = n0) (hK : K.length = n1) (hn0 : n0 ≤ 140737488355328) (hn1 : n1 ≤ 140737488355328) (hpos : 0 < n1)
    (hu : Under 4294967296 S)
    (h0 : Arr w w.heap.size 1 A0 n0 (NumC .u32 S)) (h1 : Arr w w.heap.size 1 A1 n1 (NumC .u64 K)) :
    Calls Try.prog 24 #[.agg #[.slice A0 n0 c0, .slice A1 n1 c1, x2], .int .u64 key] w fun e w' => e = .returned (.int .i64 (hashPlace mix S K key)) ∧ Below w.heap.size w w' := by
  have H0 := Lib.hid (h0.below ((Below.refl w.heap.size w).alloc (Nat.le_refl _) (.cells #[.slice A0 n0 c0, .slice A1 n1 c1, x2] 25)))
  have H1 := Lib.hid (h1.below ((Below.refl w.heap.size w).alloc (Nat.le_refl _) (.cells #[.slice A0 n0 c0, .slice A1 n1 c1, x2] 25)))
  clear h0 h1
  by_cases hz : n0 = 0
  · subst hz
    have hpl : hashPlace mix S K key = bs K key n1 0 n1 := by unfold hashPlace; rw [if_pos hS, hK]
    rw [hpl]
    clear hpl
    go_enter Try.func24, Try.ntmps24
    go_wp2
    go_quiet (fail)
    go_wp2
    go_loop [5, 6] (fun lo hi => ∃ f l h : Nat, lo = .int .i64 l ∧ hi = .int .i64 h ∧ l ≤ h ∧ h ≤ n1 ∧ h - l ≤ f ∧ bs K key f l h = bs K key n1 0 n1) (fun lo hi => (intOf hi - intOf lo).toNat)
    case atStart => exact ⟨n1, 0, n1, rfl, rfl, by omega, by omega, by omega, rfl⟩
    case round =>
      obtain ⟨f, l, h, rfl, rfl, hlh, hhn, hf, hbs⟩ := hrel
      have HB := Lib.hid hbs
      clear hbs
      by_cases hlt : l < h
      · obtain ⟨b, o, rfl, _, hc⟩ := H1.out.one (k := (l + h) / 2) (by omega)
        unfold NumC at hc
        obtain ⟨x, hx⟩ : ∃ x, x = K.getD ((l + h) / 2) 0 := ⟨_, rfl⟩
        rw [← hx] at hc
        have HX := Lib.hid hx
        clear hx
        obtain ⟨f, rfl⟩ : ∃ f', f = f' + 1 := ⟨f - 1, by omega⟩
        by_cases hxk : x < key
        · go_wp2
          go_round
          case rel => exact ⟨f, (l + h) / 2 + 1, h, by go_num, rfl, by omega, by omega, by omega, by rw [← HB.out, bs_up K key f l h hlt (by rw [← HX.out]; exact hxk)]⟩
          case measure => simp [intOf]; omega
        · go_wp2
          go_round
          case rel => exact ⟨f, l, (l + h) / 2, rfl, by go_num, by omega, by omega, by omega, by rw [← HB.out, bs_down K key f l h hlt (by rw [← HX.out]; exact hxk)]⟩
          case measure => simp [intOf]; omega
      · go_wp2
        go_ret
        exact ⟨ret_int (by rw [← HB.out, bs_end K key f l h hlt]), below_drewN ((Below.refl _ _).alloc (Nat.le_refl _) _) _⟩
  · obtain ⟨m0, hm0⟩ : ∃ m, m = mix 0 key := ⟨_, rfl⟩
    obtain ⟨hb0, hb1⟩ := mix_bd 0 key
    rw [← hm0] at hb0 hb1
    have hi := mod_idx m0 n0 (by omega)
    obtain ⟨i, hi'⟩ := Int.eq_ofNat_of_zero_le hi.1
    have hin : i < n0 := by omega
    obtain ⟨b, o, rfl, _, hc⟩ := H0.out.one hin
    unfold NumC at hc
    obtain ⟨x, hx⟩ : ∃ x, x = S.getD i 0 := ⟨_, rfl⟩
    rw [← hx] at hc
    have hx0 := hu i
    rw [← hx] at hx0
    obtain ⟨m1, hm1⟩ : ∃ m, m = mix x key := ⟨_, rfl⟩
    obtain ⟨hb2, hb3⟩ := mix_bd x key
    rw [← hm1] at hb2 hb3
    have hpl : hashPlace mix S K key = m1 % n1 := by
      unfold hashPlace
      rw [if_neg (by omega), hS, hK, ← hm0, hi', Int.toNat_natCast, ← hx, ← hm1]
    have hj := mod_idx m1 n1 hpos
    rw [hpl]
    have HI := Lib.hid hi'
    have c1 : ∀ W, Calls Try.prog 37 #[.int .u32 0, .int .u64 key] W fun e w' => e = .returned (.int .u64 m0) ∧ w' = W := fun W => by
      rw [hm0]; exact mix_any 0 key W (by omega) (by omega)
    have c2 : ∀ W, Calls Try.prog 37 #[.int .u32 x, .int .u64 key] W fun e w' => e = .returned (.int .u64 m1) ∧ w' = W := fun W => by
      rw [hm1]; exact mix_any x key W hx0.1 hx0.2
    have C1 := Lib.hid c1
    have C2 := Lib.hid c2
    clear hpl hi' hm0 hm1 hx c1 c2 hu
    have hw0 : IntKind.u64.wrap (n0 : Int) = n0 := wrap_u64_in _ (by omega) (by omega)
    have hw1 : IntKind.u64.wrap (n1 : Int) = n1 := wrap_u64_in _ (by omega) (by omega)
    have hmod0 : m0.tmod (n0 : Int) = (i : Int) := by rw [Int.tmod_eq_emod_of_nonneg hb0]; exact HI.out
    have hwi : IntKind.u64.wrap (i : Int) = i := wrap_u64_in _ (by omega) (by omega)
    obtain ⟨j, hj'⟩ := Int.eq_ofNat_of_zero_le hj.1
    have hmod1 : m1.tmod (n1 : Int) = (j : Int) := by rw [Int.tmod_eq_emod_of_nonneg hb2]; exact hj'
    have hwj : IntKind.u64.wrap (j : Int) = j := wrap_u64_in _ (by omega) (by omega)
    have hjn : j < n1 := by omega
    have HJ := Lib.hid hj'
    clear hj' hj hi
    go_enter Try.func24, Try.ntmps24
    go_wp2
    go_quiet ((go_at_call 37; exact Calls.quiet_of_same (C1.out _)))
    go_wp2
    go_quiet ((go_at_call 37; exact quiet_add_same (C2.out _)))
    go_wp2
    go_ret
    exact ⟨ret_int HJ.out.symm, below_drewN (below_drewN ((Below.refl _ _).alloc (Nat.le_refl _) _) _) _⟩
set_option maxHeartbeats 1000000 in
theorem rplace_any (A0 A1 : Option Addr) (x2 : Value) (n0 n1 c0 c1 : Nat) (S K : List Int) (key : Int) (w : World) (hS : S.length = n0) (hK : K.length = n1) (hn0 : n0 ≤ 140737488355328) (hn1 : n1 ≤ 140737488355328) (hpos : 0 < n1)
    (hu : Under 4294967296 S)
    (h0 : Arr w w.heap.size 1 A0 n0 (NumC .u32 S)) (h1 : Arr w w.heap.size 1 A1 n1 (NumC .u64 K)) :
    Calls Try.prog 26 #[.agg #[.slice A0 n0 c0, .slice A1 n1 c1, x2], .int .u64 key] w fun e w' => e = .returned (.int .i64 (hashPlace mix S K key)) ∧ Below w.heap.size w w' := by
  have H0 := Lib.hid (h0.below ((Below.refl w.heap.size w).alloc (Nat.le_refl _) (.cells #[.slice A0 n0 c0, .slice A1 n1 c1, x2] 25)))
  have H1 := Lib.hid (h1.below ((Below.refl w.heap.size w).alloc (Nat.le_refl _) (.cells #[.slice A0 n0 c0, .slice A1 n1 c1, x2] 25)))
  clear h0 h1
  by_cases hz : n0 = 0
  · subst hz
    have hpl : hashPlace mix S K key = bs K key n1 0 n1 := by unfold hashPlace; rw [if_pos hS, hK]
    rw [hpl]
    clear hpl
    go_enter Try.func26, Try.ntmps26
    go_wp2
    go_loop [5, 6] (fun lo hi => ∃ f l h : Nat, lo = .int .i64 l ∧ hi = .int .i64 h ∧ l ≤ h ∧ h ≤ n1 ∧ h - l ≤ f ∧ bs K key f l h = bs K key n1 0 n1) (fun lo hi => (intOf hi - intOf lo).toNat)
    case atStart => exact ⟨n1, 0, n1, rfl, rfl, by omega, by omega, by omega, rfl⟩
    case round =>
      obtain ⟨f, l, h, rfl, rfl, hlh, hhn, hf, hbs⟩ := hrel
      have HB := Lib.hid hbs
      clear hbs
      by_cases hlt : l < h
      · obtain ⟨b, o, rfl, _, hc⟩ := H1.out.one (k := (l + h) / 2) (by omega)
        unfold NumC at hc
        obtain ⟨x, hx⟩ : ∃ x, x = K.getD ((l + h) / 2) 0 := ⟨_, rfl⟩
        rw [← hx] at hc
        have HX := Lib.hid hx
        clear hx
        obtain ⟨f, rfl⟩ : ∃ f', f = f' + 1 := ⟨f - 1, by omega⟩
        by_cases hxk : x < key
        · go_wp2
          go_round
          case rel => exact ⟨f, (l + h) / 2 + 1, h, by go_num, rfl, by omega, by omega, by omega, by rw [← HB.out, bs_up K key f l h hlt (by rw [← HX.out]; exact hxk)]⟩
          case measure => simp [intOf]; omega
        · go_wp2
          go_round
          case rel => exact ⟨f, l, (l + h) / 2, rfl, by go_num, by omega, by omega, by omega, by rw [← HB.out, bs_down K key f l h hlt (by rw [← HX.out]; exact hxk)]⟩
          case measure => simp [intOf]; omega
      · go_wp2
        go_ret
        exact ⟨ret_int (by rw [← HB.out, bs_end K key f l h hlt]), (Below.refl _ _).alloc (Nat.le_refl _) _⟩
  · obtain ⟨m0, hm0⟩ : ∃ m, m = mix 0 key := ⟨_, rfl⟩
    obtain ⟨hb0, hb1⟩ := mix_bd 0 key
    rw [← hm0] at hb0 hb1
    have hi := mod_idx m0 n0 (by omega)
    obtain ⟨i, hi'⟩ := Int.eq_ofNat_of_zero_le hi.1
    have hin : i < n0 := by omega
    obtain ⟨b, o, rfl, _, hc⟩ := H0.out.one hin
    unfold NumC at hc
    obtain ⟨x, hx⟩ : ∃ x, x = S.getD i 0 := ⟨_, rfl⟩
    rw [← hx] at hc
    have hx0 := hu i
    rw [← hx] at hx0
    obtain ⟨m1, hm1⟩ : ∃ m, m = mix x key := ⟨_, rfl⟩
    obtain ⟨hb2, hb3⟩ := mix_bd x key
    rw [← hm1] at hb2 hb3
    have hpl : hashPlace mix S K key = m1 % n1 := by
      unfold hashPlace
      rw [if_neg (by omega), hS, hK, ← hm0, hi', Int.toNat_natCast, ← hx, ← hm1]
    have hj := mod_idx m1 n1 hpos
    rw [hpl]
    have HI := Lib.hid hi'
    have c1 : ∀ W, Calls Try.prog 40 #[.int .u32 0, .int .u64 key] W fun e w' => e = .returned (.int .u64 m0) ∧ w' = W := fun W => by
      rw [hm0]; exact rmix_any 0 key W (by omega) (by omega)
    have c2 : ∀ W, Calls Try.prog 40 #[.int .u32 x, .int .u64 key] W fun e w' => e = .returned (.int .u64 m1) ∧ w' = W := fun W => by
      rw [hm1]; exact rmix_any x key W hx0.1 hx0.2
    have C1 := Lib.hid c1
    have C2 := Lib.hid c2
    clear hpl hi' hm0 hm1 hx c1 c2 hu
    have hw0 : IntKind.u64.wrap (n0 : Int) = n0 := wrap_u64_in _ (by omega) (by omega)
    have hw1 : IntKind.u64.wrap (n1 : Int) = n1 := wrap_u64_in _ (by omega) (by omega)
    have hmod0 : m0.tmod (n0 : Int) = (i : Int) := by rw [Int.tmod_eq_emod_of_nonneg hb0]; exact HI.out
    have hwi : IntKind.u64.wrap (i : Int) = i := wrap_u64_in _ (by omega) (by omega)
    obtain ⟨j, hj'⟩ := Int.eq_ofNat_of_zero_le hj.1
    have hmod1 : m1.tmod (n1 : Int) = (j : Int) := by rw [Int.tmod_eq_emod_of_nonneg hb2]; exact hj'
    have hwj : IntKind.u64.wrap (j : Int) = j := wrap_u64_in _ (by omega) (by omega)
    have hjn : j < n1 := by omega
    have HJ := Lib.hid hj'
    clear hj' hj hi
    go_enter Try.func26, Try.ntmps26
    go_wp2
    go_quiet ((go_at_call 40; exact Calls.quiet_of_same (C1.out _)))
    go_wp2
    go_quiet ((go_at_call 40; exact quiet_add_same (C2.out _)))
    go_wp2
    go_ret
    exact ⟨ret_int HJ.out.symm, below_drewN (below_drewN ((Below.refl _ _).alloc (Nat.le_refl _) _) _) _⟩
end Go.Proofs.Ytgejpggbmgiocaa
/- What a hash tells of a key: the program's and the reference's functions answer the same. -/
namespace Go.Proofs.Ytgejpggbmgiocaa
open Go.RowKit

set_option maxHeartbeats 1000000 in
theorem get_any (A0 A1 A2 : Option Addr) (n0 n1 n2 c0 c1 c2 : Nat) (S K V : List Int) (key : Int) (w : World) (hS : S.length = n0) (hK : K.length = n1) (hV : V.length = n2) (hn0 : n0 ≤ 140737488355328) (hn1 : n1 ≤ 140737488355328) (hn2 : n2 ≤ 140737488355328)
    (hu : Under 4294967296 S)
    (h0 : Arr w w.heap.size 1 A0 n0 (NumC .u32 S)) (h1 : Arr w w.heap.size 1 A1 n1 (NumC .u64 K)) (h2 : Arr w w.heap.size 1 A2 n2 (NumC .u64 V)) :
    Calls Try.prog 15 #[.agg #[.slice A0 n0 c0, .slice A1 n1 c1, .slice A2 n2 c2], .int .u64 key] w fun e w' => e = .returned (.tuple #[.int .u64 (hashGet mix S K V key).1, .bool (hashGet mix S K V key).2]) ∧ Below w.heap.size w w' := by
  have hbox : ∀ o, Below w.heap.size w (w.alloc o) := fun o => (Below.refl w.heap.size w).alloc (Nat.le_refl _) o
  by_cases hz : n1 = 0
  · rw [get_none mix S K V key (.inl (by omega))]
    subst hz
    go_enter Try.func15, Try.ntmps15
    go_wp2
    go_ret2
    exact ⟨rfl, hbox _⟩
  by_cases hne : n2 = n1
  · obtain rfl : n1 = n2 := hne.symm
    obtain ⟨p, hp⟩ := place_nat mix S K key (by omega)
    have hpl := fun W => place_any A0 A1 (.slice A2 n1 c2) n0 n1 c0 c1 S K key W hS hK hn0 hn1 (by omega) hu
    rw [hp] at hpl
    have hb1 := hbox (.cells #[.slice A0 n0 c0, .slice A1 n1 c1, .slice A2 n1 c2] 25)
    have h0' := (h0.below hb1).more hb1.size
    have h1' := (h1.below hb1).more hb1.size
    have HP := Lib.hid hpl
    have HQ := Lib.hid hp
    have HA1 := Lib.hid h1
    have HA2 := Lib.hid h2
    clear hpl hp h1 h2 h0
    go_enter Try.func15, Try.ntmps15
    go_wp2_with fail
    refine (HP.out _ h0' h1').mono ?_
    rintro e w1 ⟨rfl, hb2⟩
    have hsz := size_new hb2
    have q0 := kept_new hb2 0
    have q1 := kept_new hb2 1
    have q2 := kept_new hb2 2
    have hB := below_new (Below.refl w.heap.size w) (Nat.le_refl _) hb2
    simp only [List.getElem?_toArray, List.getElem?_cons_zero, List.getElem?_cons_succ] at q0 q1 q2
    by_cases hpn : p < n1
    · obtain ⟨b1, o1, rfl, _, hc1⟩ := (HA1.out.below hB).one hpn
      obtain ⟨b2, o2, rfl, _, hc2⟩ := (HA2.out.below hB).one hpn
      unfold NumC at hc1 hc2
      obtain ⟨x, hx⟩ : ∃ x, x = K.getD p 0 := ⟨_, rfl⟩
      obtain ⟨y, hy⟩ : ∃ y, y = V.getD p 0 := ⟨_, rfl⟩
      rw [← hx] at hc1
      rw [← hy] at hc2
      by_cases hxk : x = key
      · subst hxk
        have HG := Lib.hid (get_hit mix S K V x p HQ.out (by omega) (by omega) hx.symm)
        rw [← hy] at HG
        clear hx hy
        go_wp2
        go_ret2
        rw [HG.out]
        exact ⟨rfl, hB⟩
      · have HG := Lib.hid (get_other mix S K V key p HQ.out (by rw [← hx]; exact hxk))
        clear hx hy
        have hbe : (x == key) = false := by simpa using hxk
        have hbe' : (x != key) = true := by simpa using hxk
        go_wp2
        go_ret2
        rw [HG.out]
        exact ⟨rfl, hB⟩
    · have HG := Lib.hid (get_off mix S K V key p HQ.out (by omega))
      go_wp2
      go_ret2
      rw [HG.out]
      exact ⟨rfl, hB⟩
  · rw [get_none mix S K V key (.inr (by omega))]
    have hbe : ((n2 : Int) == (n1 : Int)) = false := by rw [beq_eq_false_iff_ne]; omega
    have hbe' : ((n2 : Int) != (n1 : Int)) = true := by rw [bne_iff_ne]; omega
    go_enter Try.func15, Try.ntmps15
    go_wp2
    go_ret2
    exact ⟨rfl, hbox _⟩
set_option maxHeartbeats 1000000 in
theorem rget_any (A0 A1 A2 : Option Addr) (n0 n1 n2 c0 c1 c2 : Nat) (S K V : List Int) (key : Int) (w : World) (hS : S.length = n0) (hK : K.length = n1) (hV : V.length = n2) (hn0 : n0 ≤ 140737488355328) (hn1 : n1 ≤ 140737488355328) (hn2 : n2 ≤ 140737488355328)
    (hu : Under 4294967296 S)
    (h0 : Arr w w.heap.size 1 A0 n0 (NumC .u32 S)) (h1 : Arr w w.heap.size 1 A1 n1 (NumC .u64 K)) (h2 : Arr w w.heap.size 1 A2 n2 (NumC .u64 V)) :
    Calls Try.prog 18 #[.agg #[.slice A0 n0 c0, .slice A1 n1 c1, .slice A2 n2 c2], .int .u64 key] w fun e w' => e = .returned (.tuple #[.int .u64 (hashGet mix S K V key).1, .bool (hashGet mix S K V key).2]) ∧ Below w.heap.size w w' := by
  have hbox : ∀ o, Below w.heap.size w (w.alloc o) := fun o => (Below.refl w.heap.size w).alloc (Nat.le_refl _) o
  by_cases hz : n1 = 0
  · rw [get_none mix S K V key (.inl (by omega))]
    subst hz
    go_enter Try.func18, Try.ntmps18
    go_wp2
    go_ret2
    exact ⟨rfl, hbox _⟩
  by_cases hne : n2 = n1
  · obtain rfl : n1 = n2 := hne.symm
    obtain ⟨p, hp⟩ := place_nat mix S K key (by omega)
    have hpl := fun W => rplace_any A0 A1 (.slice A2 n1 c2) n0 n1 c0 c1 S K key W hS hK hn0 hn1 (by omega) hu
    rw [hp] at hpl
    have hb1 := hbox (.cells #[.slice A0 n0 c0, .slice A1 n1 c1, .slice A2 n1 c2] 25)
    have h0' := (h0.below hb1).more hb1.size
    have h1' := (h1.below hb1).more hb1.size
    have HP := Lib.hid hpl
    have HQ := Lib.hid hp
    have HA1 := Lib.hid h1
    have HA2 := Lib.hid h2
    clear hpl hp h1 h2 h0
    go_enter Try.func18, Try.ntmps18
    go_wp2_with fail
    refine (HP.out _ h0' h1').mono ?_
    rintro e w1 ⟨rfl, hb2⟩
    have hsz := size_new hb2
    have q0 := kept_new hb2 0
    have q1 := kept_new hb2 1
    have q2 := kept_new hb2 2
    have hB := below_new (Below.refl w.heap.size w) (Nat.le_refl _) hb2
    simp only [List.getElem?_toArray, List.getElem?_cons_zero, List.getElem?_cons_succ] at q0 q1 q2
    by_cases hpn : p < n1
    · obtain ⟨b1, o1, rfl, _, hc1⟩ := (HA1.out.below hB).one hpn
      obtain ⟨b2, o2, rfl, _, hc2⟩ := (HA2.out.below hB).one hpn
      unfold NumC at hc1 hc2
      obtain ⟨x, hx⟩ : ∃ x, x = K.getD p 0 := ⟨_, rfl⟩
      obtain ⟨y, hy⟩ : ∃ y, y = V.getD p 0 := ⟨_, rfl⟩
      rw [← hx] at hc1
      rw [← hy] at hc2
      by_cases hxk : x = key
      · subst hxk
        have HG := Lib.hid (get_hit mix S K V x p HQ.out (by omega) (by omega) hx.symm)
        rw [← hy] at HG
        clear hx hy
        go_wp2
        go_ret2
        rw [HG.out]
        exact ⟨rfl, hB⟩
      · have HG := Lib.hid (get_other mix S K V key p HQ.out (by rw [← hx]; exact hxk))
        clear hx hy
        have hbe : (x == key) = false := by simpa using hxk
        have hbe' : (x != key) = true := by simpa using hxk
        go_wp2
        go_ret2
        rw [HG.out]
        exact ⟨rfl, hB⟩
    · have HG := Lib.hid (get_off mix S K V key p HQ.out (by omega))
      go_wp2
      go_ret2
      rw [HG.out]
      exact ⟨rfl, hB⟩
  · rw [get_none mix S K V key (.inr (by omega))]
    have hbe : ((n2 : Int) == (n1 : Int)) = false := by rw [beq_eq_false_iff_ne]; omega
    have hbe' : ((n2 : Int) != (n1 : Int)) = true := by rw [bne_iff_ne]; omega
    go_enter Try.func18, Try.ntmps18
    go_wp2
    go_ret2
    exact ⟨rfl, hbox _⟩
end Go.Proofs.Ytgejpggbmgiocaa
