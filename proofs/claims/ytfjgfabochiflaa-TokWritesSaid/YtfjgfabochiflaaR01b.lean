/- The reference's more, Next, Fix. -/
import Derived.Test.YtfjgfabochiflaaR01a
import Derived.Test.YtfjgfabochiflaaFix1
import Derived.Lib.AppendStr
namespace Go.Proofs.Ytfjgfabochiflaa
open Go.RowKit

def gS (s : ByteArray) : Nat → Nat := fun k => (s.get! k).toNat
theorem gS_lt (s : ByteArray) (k : Nat) : gS s k < 256 := (s.get! k).toNat_lt
theorem gS_index (s : ByteArray) (k : Nat) (h : k < s.size) (W : World) : (Instr.index 9 (.string s) (.int .i64 (k : Int))).run Try.prog W = .ok (.int .u8 (gS s k : Int)) W := by
  obtain ⟨c, t, h1, _, h3⟩ := T12.index_byte s k h
  rw [h3 W]
  have h4 : s.data.toList[k]? = some c := by rw [← List.head?_drop, h1]; rfl
  have h5 : s.get! k = c := by
    unfold ByteArray.get!
    have h6 : s.data[k]? = some c := by simpa using h4
    simp [getElem!_def, h6]
  unfold gS
  rw [h5]
theorem more_end (g : Nat → Nat) (k0 n i : Nat) (c : Int) (h : n ≤ i) : moreF g k0 (n - i) i c = c := by
  rw [show n - i = 0 by omega]; rfl
theorem more_bad (g : Nat → Nat) (k0 n i : Nat) (c : Int) (h : i < n) (hb : g (k0 + i) < 128 ∨ 191 < g (k0 + i)) : moreF g k0 (n - i) i c = -1 := by
  obtain ⟨k, hk⟩ : ∃ k, n - i = k + 1 := ⟨n - i - 1, by omega⟩
  rw [hk, moreF, if_pos hb]
theorem more_go (g : Nat → Nat) (k0 n i : Nat) (c : Int) (h : i < n) (hb : ¬ (g (k0 + i) < 128 ∨ 191 < g (k0 + i))) : moreF g k0 (n - i) i c = moreF g k0 (n - (i + 1)) (i + 1) (c * 64 + (g (k0 + i) : Int) - 128) := by
  obtain ⟨k, hk⟩ : ∃ k, n - i = k + 1 := ⟨n - i - 1, by omega⟩
  rw [hk, show n - (i + 1) = k by omega, moreF, if_neg hb]

set_option maxHeartbeats 4000000 in
theorem more_any (s : ByteArray) (k0 n : Nat) (w : World) (hk : k0 < s.size) (hs : s.size ≤ 35184372088832) (hn1 : 1 ≤ n) (hn4 : n ≤ 4) :
    Calls Try.prog 76 #[.string s, .int .i64 (k0 : Int), .int .i64 (n : Int)] w fun e w' => e = .returned (.int .i64 (moreC (gS s) s.size k0 n)) ∧ w' = w := by
  by_cases hlong : s.size < k0 + n
  · have d1 : decide ((s.size : Int) < (k0 : Int) + (n : Int)) = true := by simp; omega
    have hr : moreC (gS s) s.size k0 n = -1 := by unfold moreC; rw [if_pos hlong]
    rw [hr]
    go_enter Try.func76, Try.ntmps76
    go_wp2
    go_returns
    exact ⟨by first | rfl | simp, rfl⟩
  · have d1 : decide ((s.size : Int) < (k0 : Int) + (n : Int)) = false := by simp; omega
    obtain ⟨g, hg⟩ : ∃ g, g = gS s := ⟨_, rfl⟩
    have hI := fun (k : Nat) (h : k < s.size) (W : World) => gS_index s k h W
    have hgl := fun k => gS_lt s k
    rw [← hg] at hI hgl ⊢
    have HI := Lib.hid hI
    have HGL := Lib.hid hgl
    obtain ⟨b, hb⟩ : ∃ b, b = g k0 := ⟨_, rfl⟩
    have hb256 := hgl k0
    have hi0 := HI.out k0 hk
    rw [← hb] at hb256 hi0
    obtain ⟨res, hres⟩ : ∃ res, res = moreC g s.size k0 n := ⟨_, rfl⟩
    have hr2 : res = moreF g k0 (n - 1) 1 (headC (b : Int) n) := by rw [hres, hb]; unfold moreC; rw [if_neg hlong]
    rw [← hres]
    clear hres hI hgl hg hb
    rcases (by omega : n = 1 ∨ n = 2 ∨ n = 3 ∨ n = 4) with h9 | h9 | h9 | h9
    · have hhd : headC (b : Int) n = (b : Int) := by rw [h9]; rfl
      have e2 : ((n : Int) == 2) = false := by simp; omega
      have e3 : ((n : Int) == 3) = false := by simp; omega
      have e4 : ((n : Int) == 4) = false := by simp; omega
      clear h9
      go_enter Try.func76, Try.ntmps76
      go_wp2
      go_loop [8, 9] (fun c i => ∃ (ci : Int) (k : Nat), 1 ≤ k ∧ k ≤ n ∧ i = .int .i64 (k : Int) ∧ c = .int .i64 ci ∧ res = moreF g k0 (n - k) k ci ∧ ((k = 1 ∧ -300 ≤ ci ∧ ci ≤ 300) ∨ (k = 2 ∧ -30000 ≤ ci ∧ ci ≤ 30000) ∨ (k = 3 ∧ -3000000 ≤ ci ∧ ci ≤ 3000000) ∨ (k = 4 ∧ -300000000 ≤ ci ∧ ci ≤ 300000000))) (fun _ i => n - (intOf i).toNat)
      case atStart => exact ⟨(b : Int), 1, by omega, by omega, rfl, rfl, by rw [hr2, hhd], .inl ⟨rfl, by omega, by omega⟩⟩
      case round =>
        obtain ⟨ci, k, hk1, hkn, rfl, rfl, hrk, hbd⟩ := hrel
        have HRK := Lib.hid hrk
        have hci : -300000000 ≤ ci ∧ ci ≤ 300000000 := by omega
        have HBD := Lib.hid hbd
        clear hrk hbd
        by_cases hlt : k < n
        · have dt : decide ((k : Int) < (n : Int)) = true := by simp; omega
          have hik := HI.out (k0 + k) (by omega)
          have hx := HGL.out (k0 + k)
          rw [show ((k0 + k : Nat) : Int) = (k0 : Int) + (k : Int) by omega] at hik
          obtain ⟨x, hxd⟩ : ∃ x, x = g (k0 + k) := ⟨_, rfl⟩
          rw [← hxd] at hik hx
          have HX := Lib.hid hxd
          clear hxd
          by_cases h1 : x < 128
          · have d3 : decide ((x : Int) < 128) = true := by simp; omega
            obtain rfl : res = -1 := by rw [HRK.out, more_bad g k0 n k ci hlt (.inl (by rw [← HX.out]; exact h1))]
            go_wp2
            go_returns
            exact ⟨by first | rfl | simp, rfl⟩
          · have d3 : decide ((x : Int) < 128) = false := by simp; omega
            by_cases h2 : 191 < x
            · have d4 : decide ((191 : Int) < (x : Int)) = true := by simp; omega
              obtain rfl : res = -1 := by rw [HRK.out, more_bad g k0 n k ci hlt (.inr (by rw [← HX.out]; exact h2))]
              go_wp2
              go_returns
              exact ⟨by first | rfl | simp, rfl⟩
            · have d4 : decide ((191 : Int) < (x : Int)) = false := by simp; omega
              go_wp2
              go_round
              case rel =>
                refine ⟨ci * 64 + (x : Int) - 128, k + 1, by omega, by omega, by go_num, by go_num, ?_, ?_⟩
                · rw [HRK.out, more_go g k0 n k ci hlt (by rw [← HX.out]; omega), ← HX.out]
                · have := HBD.out
                  omega
              case measure => simp [intOf]; omega
        · obtain rfl : k = n := by omega
          have dt : decide ((k : Int) < (k : Int)) = false := by simp
          obtain rfl : res = ci := by rw [HRK.out, more_end g k0 k k ci (Nat.le_refl _)]
          go_wp2
          go_returns
          exact ⟨by first | rfl | simp, rfl⟩
    · have hhd : headC (b : Int) n = (b : Int) - 192 := by rw [h9]; rfl
      have e2 : ((n : Int) == 2) = true := by simp; omega
      clear h9
      go_enter Try.func76, Try.ntmps76
      go_wp2
      go_loop [8, 9] (fun c i => ∃ (ci : Int) (k : Nat), 1 ≤ k ∧ k ≤ n ∧ i = .int .i64 (k : Int) ∧ c = .int .i64 ci ∧ res = moreF g k0 (n - k) k ci ∧ ((k = 1 ∧ -300 ≤ ci ∧ ci ≤ 300) ∨ (k = 2 ∧ -30000 ≤ ci ∧ ci ≤ 30000) ∨ (k = 3 ∧ -3000000 ≤ ci ∧ ci ≤ 3000000) ∨ (k = 4 ∧ -300000000 ≤ ci ∧ ci ≤ 300000000))) (fun _ i => n - (intOf i).toNat)
      case atStart => exact ⟨(b : Int) - 192, 1, by omega, by omega, rfl, rfl, by rw [hr2, hhd], .inl ⟨rfl, by omega, by omega⟩⟩
      case round =>
        obtain ⟨ci, k, hk1, hkn, rfl, rfl, hrk, hbd⟩ := hrel
        have HRK := Lib.hid hrk
        have hci : -300000000 ≤ ci ∧ ci ≤ 300000000 := by omega
        have HBD := Lib.hid hbd
        clear hrk hbd
        by_cases hlt : k < n
        · have dt : decide ((k : Int) < (n : Int)) = true := by simp; omega
          have hik := HI.out (k0 + k) (by omega)
          have hx := HGL.out (k0 + k)
          rw [show ((k0 + k : Nat) : Int) = (k0 : Int) + (k : Int) by omega] at hik
          obtain ⟨x, hxd⟩ : ∃ x, x = g (k0 + k) := ⟨_, rfl⟩
          rw [← hxd] at hik hx
          have HX := Lib.hid hxd
          clear hxd
          by_cases h1 : x < 128
          · have d3 : decide ((x : Int) < 128) = true := by simp; omega
            obtain rfl : res = -1 := by rw [HRK.out, more_bad g k0 n k ci hlt (.inl (by rw [← HX.out]; exact h1))]
            go_wp2
            go_returns
            exact ⟨by first | rfl | simp, rfl⟩
          · have d3 : decide ((x : Int) < 128) = false := by simp; omega
            by_cases h2 : 191 < x
            · have d4 : decide ((191 : Int) < (x : Int)) = true := by simp; omega
              obtain rfl : res = -1 := by rw [HRK.out, more_bad g k0 n k ci hlt (.inr (by rw [← HX.out]; exact h2))]
              go_wp2
              go_returns
              exact ⟨by first | rfl | simp, rfl⟩
            · have d4 : decide ((191 : Int) < (x : Int)) = false := by simp; omega
              go_wp2
              go_round
              case rel =>
                refine ⟨ci * 64 + (x : Int) - 128, k + 1, by omega, by omega, by go_num, by go_num, ?_, ?_⟩
                · rw [HRK.out, more_go g k0 n k ci hlt (by rw [← HX.out]; omega), ← HX.out]
                · have := HBD.out
                  omega
              case measure => simp [intOf]; omega
        · obtain rfl : k = n := by omega
          have dt : decide ((k : Int) < (k : Int)) = false := by simp
          obtain rfl : res = ci := by rw [HRK.out, more_end g k0 k k ci (Nat.le_refl _)]
          go_wp2
          go_returns
          exact ⟨by first | rfl | simp, rfl⟩
    · have hhd : headC (b : Int) n = (b : Int) - 224 := by rw [h9]; rfl
      have e2 : ((n : Int) == 2) = false := by simp; omega
      have e3 : ((n : Int) == 3) = true := by simp; omega
      clear h9
      go_enter Try.func76, Try.ntmps76
      go_wp2
      go_loop [8, 9] (fun c i => ∃ (ci : Int) (k : Nat), 1 ≤ k ∧ k ≤ n ∧ i = .int .i64 (k : Int) ∧ c = .int .i64 ci ∧ res = moreF g k0 (n - k) k ci ∧ ((k = 1 ∧ -300 ≤ ci ∧ ci ≤ 300) ∨ (k = 2 ∧ -30000 ≤ ci ∧ ci ≤ 30000) ∨ (k = 3 ∧ -3000000 ≤ ci ∧ ci ≤ 3000000) ∨ (k = 4 ∧ -300000000 ≤ ci ∧ ci ≤ 300000000))) (fun _ i => n - (intOf i).toNat)
      case atStart => exact ⟨(b : Int) - 224, 1, by omega, by omega, rfl, rfl, by rw [hr2, hhd], .inl ⟨rfl, by omega, by omega⟩⟩
      case round =>
        obtain ⟨ci, k, hk1, hkn, rfl, rfl, hrk, hbd⟩ := hrel
        have HRK := Lib.hid hrk
        have hci : -300000000 ≤ ci ∧ ci ≤ 300000000 := by omega
        have HBD := Lib.hid hbd
        clear hrk hbd
        by_cases hlt : k < n
        · have dt : decide ((k : Int) < (n : Int)) = true := by simp; omega
          have hik := HI.out (k0 + k) (by omega)
          have hx := HGL.out (k0 + k)
          rw [show ((k0 + k : Nat) : Int) = (k0 : Int) + (k : Int) by omega] at hik
          obtain ⟨x, hxd⟩ : ∃ x, x = g (k0 + k) := ⟨_, rfl⟩
          rw [← hxd] at hik hx
          have HX := Lib.hid hxd
          clear hxd
          by_cases h1 : x < 128
          · have d3 : decide ((x : Int) < 128) = true := by simp; omega
            obtain rfl : res = -1 := by rw [HRK.out, more_bad g k0 n k ci hlt (.inl (by rw [← HX.out]; exact h1))]
            go_wp2
            go_returns
            exact ⟨by first | rfl | simp, rfl⟩
          · have d3 : decide ((x : Int) < 128) = false := by simp; omega
            by_cases h2 : 191 < x
            · have d4 : decide ((191 : Int) < (x : Int)) = true := by simp; omega
              obtain rfl : res = -1 := by rw [HRK.out, more_bad g k0 n k ci hlt (.inr (by rw [← HX.out]; exact h2))]
              go_wp2
              go_returns
              exact ⟨by first | rfl | simp, rfl⟩
            · have d4 : decide ((191 : Int) < (x : Int)) = false := by simp; omega
              go_wp2
              go_round
              case rel =>
                refine ⟨ci * 64 + (x : Int) - 128, k + 1, by omega, by omega, by go_num, by go_num, ?_, ?_⟩
                · rw [HRK.out, more_go g k0 n k ci hlt (by rw [← HX.out]; omega), ← HX.out]
                · have := HBD.out
                  omega
              case measure => simp [intOf]; omega
        · obtain rfl : k = n := by omega
          have dt : decide ((k : Int) < (k : Int)) = false := by simp
          obtain rfl : res = ci := by rw [HRK.out, more_end g k0 k k ci (Nat.le_refl _)]
          go_wp2
          go_returns
          exact ⟨by first | rfl | simp, rfl⟩
    · have hhd : headC (b : Int) n = (b : Int) - 240 := by rw [h9]; rfl
      have e2 : ((n : Int) == 2) = false := by simp; omega
      have e3 : ((n : Int) == 3) = false := by simp; omega
      have e4 : ((n : Int) == 4) = true := by simp; omega
      clear h9
      go_enter Try.func76, Try.ntmps76
      go_wp2
      go_loop [8, 9] (fun c i => ∃ (ci : Int) (k : Nat), 1 ≤ k ∧ k ≤ n ∧ i = .int .i64 (k : Int) ∧ c = .int .i64 ci ∧ res = moreF g k0 (n - k) k ci ∧ ((k = 1 ∧ -300 ≤ ci ∧ ci ≤ 300) ∨ (k = 2 ∧ -30000 ≤ ci ∧ ci ≤ 30000) ∨ (k = 3 ∧ -3000000 ≤ ci ∧ ci ≤ 3000000) ∨ (k = 4 ∧ -300000000 ≤ ci ∧ ci ≤ 300000000))) (fun _ i => n - (intOf i).toNat)
      case atStart => exact ⟨(b : Int) - 240, 1, by omega, by omega, rfl, rfl, by rw [hr2, hhd], .inl ⟨rfl, by omega, by omega⟩⟩
      case round =>
        obtain ⟨ci, k, hk1, hkn, rfl, rfl, hrk, hbd⟩ := hrel
        have HRK := Lib.hid hrk
        have hci : -300000000 ≤ ci ∧ ci ≤ 300000000 := by omega
        have HBD := Lib.hid hbd
        clear hrk hbd
        by_cases hlt : k < n
        · have dt : decide ((k : Int) < (n : Int)) = true := by simp; omega
          have hik := HI.out (k0 + k) (by omega)
          have hx := HGL.out (k0 + k)
          rw [show ((k0 + k : Nat) : Int) = (k0 : Int) + (k : Int) by omega] at hik
          obtain ⟨x, hxd⟩ : ∃ x, x = g (k0 + k) := ⟨_, rfl⟩
          rw [← hxd] at hik hx
          have HX := Lib.hid hxd
          clear hxd
          by_cases h1 : x < 128
          · have d3 : decide ((x : Int) < 128) = true := by simp; omega
            obtain rfl : res = -1 := by rw [HRK.out, more_bad g k0 n k ci hlt (.inl (by rw [← HX.out]; exact h1))]
            go_wp2
            go_returns
            exact ⟨by first | rfl | simp, rfl⟩
          · have d3 : decide ((x : Int) < 128) = false := by simp; omega
            by_cases h2 : 191 < x
            · have d4 : decide ((191 : Int) < (x : Int)) = true := by simp; omega
              obtain rfl : res = -1 := by rw [HRK.out, more_bad g k0 n k ci hlt (.inr (by rw [← HX.out]; exact h2))]
              go_wp2
              go_returns
              exact ⟨by first | rfl | simp, rfl⟩
            · have d4 : decide ((191 : Int) < (x : Int)) = false := by simp; omega
              go_wp2
              go_round
              case rel =>
                refine ⟨ci * 64 + (x : Int) - 128, k + 1, by omega, by omega, by go_num, by go_num, ?_, ?_⟩
                · rw [HRK.out, more_go g k0 n k ci hlt (by rw [← HX.out]; omega), ← HX.out]
                · have := HBD.out
                  omega
              case measure => simp [intOf]; omega
        · obtain rfl : k = n := by omega
          have dt : decide ((k : Int) < (k : Int)) = false := by simp
          obtain rfl : res = ci := by rw [HRK.out, more_end g k0 k k ci (Nat.le_refl _)]
          go_wp2
          go_returns
          exact ⟨by first | rfl | simp, rfl⟩

theorem next_hit {g : Nat → Nat} {N k0 n : Nat} (h1 : 1 ≤ n) (h4 : n ≤ 4) (hno : ∀ m, 1 ≤ m → m < n → hitC g N k0 m = false) (hy : hitC g N k0 n = true) : nextC g N k0 = (moreC g N k0 n, n) := by
  unfold nextC
  rcases (by omega : n = 1 ∨ n = 2 ∨ n = 3 ∨ n = 4) with rfl | rfl | rfl | rfl
  · rw [if_pos hy]
  · rw [if_neg (by rw [hno 1 (by omega) (by omega)]; simp), if_pos hy]
  · rw [if_neg (by rw [hno 1 (by omega) (by omega)]; simp), if_neg (by rw [hno 2 (by omega) (by omega)]; simp), if_pos hy]
  · rw [if_neg (by rw [hno 1 (by omega) (by omega)]; simp), if_neg (by rw [hno 2 (by omega) (by omega)]; simp), if_neg (by rw [hno 3 (by omega) (by omega)]; simp), if_pos hy]
theorem next_none {g : Nat → Nat} {N k0 : Nat} (hno : ∀ m, 1 ≤ m → m < 5 → hitC g N k0 m = false) : nextC g N k0 = (65533, 1) := by
  unfold nextC
  rw [if_neg (by rw [hno 1 (by omega) (by omega)]; simp), if_neg (by rw [hno 2 (by omega) (by omega)]; simp), if_neg (by rw [hno 3 (by omega) (by omega)]; simp), if_neg (by rw [hno 4 (by omega) (by omega)]; simp)]
theorem next_is {g : Nat → Nat} {N k0 : Nat} : isC (nextC g N k0).1 = true := by
  have h : ∀ m, hitC g N k0 m = true → isC (moreC g N k0 m) = true := fun m h => by
    unfold hitC at h
    rw [Bool.and_eq_true] at h
    exact h.1
  unfold nextC
  split
  · rename_i h1; exact h 1 h1
  · split
    · rename_i h1; exact h 2 h1
    · split
      · rename_i h1; exact h 3 h1
      · split
        · rename_i h1; exact h 4 h1
        · decide
theorem rowZ_data (s : ByteArray) : ∀ n k0, k0 + n ≤ s.size → rowZ (gS s) k0 n = ((s.data.toList.drop k0).take n).map fun b => (b.toNat : Int)
  | 0, _, _ => by simp [rowZ]
  | n + 1, k0, h => by
    obtain ⟨c, t, h1, h2, h3⟩ := T12.index_byte s k0 (by omega)
    have hg := gS_index s k0 (by omega) default
    rw [h3 default] at hg
    have hc : (c.toNat : Int) = (gS s k0 : Int) := by injection hg with h _; injection h
    rw [rowZ, rowZ_data s n (k0 + 1) (by omega), h1, h2, List.take_succ_cons, List.map_cons, hc]
theorem bytes_inj : ∀ {l m : List Int}, (∀ x ∈ l, 0 ≤ x ∧ x ≤ 255) → (∀ x ∈ m, 0 ≤ x ∧ x ≤ 255) → (l.map fun x => UInt8.ofNat x.toNat) = (m.map fun x => UInt8.ofNat x.toNat) → l = m
  | [], [], _, _, _ => rfl
  | [], _ :: _, _, _, h => by simp at h
  | _ :: _, [], _, _, h => by simp at h
  | a :: l, b :: m, hl, hm, h => by
    simp only [List.map_cons, List.cons.injEq] at h
    have h1 := hl a (by simp)
    have h2 := hm b (by simp)
    have h3 : (UInt8.ofNat a.toNat).toNat = (UInt8.ofNat b.toNat).toNat := by rw [h.1]
    simp at h3
    have : a = b := by omega
    rw [this, bytes_inj (fun x hx => hl x (by simp [hx])) (fun x hx => hm x (by simp [hx])) h.2]
theorem putZ_range {c : Int} : ∀ x ∈ putZ c, 0 ≤ x ∧ x ≤ 255 := fun x hx => by
  by_cases h : isC c = true
  · obtain ⟨h0, h1, h2⟩ := (isC_iff c).1 h
    by_cases a : c ≤ 127
    · rw [putZ_one h0 a] at hx; simp at hx; omega
    · by_cases b : c ≤ 2047
      · rw [putZ_two (by omega) b] at hx; simp at hx; omega
      · by_cases d : c ≤ 65535
        · rw [putZ_three (by omega)] at hx; simp at hx; omega
        · rw [putZ_four (by omega) h1] at hx; simp at hx; omega
  · unfold putZ at hx; rw [if_neg h] at hx; cases hx
/-- does what a character writes stand there? -/
theorem put_stands {s : ByteArray} {k0 n : Nat} {c : Int} (h : k0 + n ≤ s.size) : putS c = s.extract k0 (k0 + n) ↔ putZ c = rowZ (gS s) k0 n := by
  have hrow := rowZ_data s n k0 h
  have hr : ∀ x ∈ rowZ (gS s) k0 n, 0 ≤ x ∧ x ≤ 255 := fun x hx => by
    rw [hrow, List.mem_map] at hx
    obtain ⟨b, _, rfl⟩ := hx
    have := b.toNat_lt
    omega
  have hl := T12.piece_list s k0 n
  have hm : ((rowZ (gS s) k0 n).map fun x => UInt8.ofNat x.toNat) = (s.data.toList.drop k0).take n := by
    rw [hrow, List.map_map]
    conv => rhs; rw [← List.map_id ((s.data.toList.drop k0).take n)]
    refine List.map_congr_left fun b _ => ?_
    simp
  constructor
  · intro e
    refine bytes_inj putZ_range hr ?_
    rw [hm, ← hl, ← e]
    rfl
  · intro e
    refine T12.str_ext ?_
    rw [hl, ← hm, ← e]
    rfl
end Go.Proofs.Ytfjgfabochiflaa
