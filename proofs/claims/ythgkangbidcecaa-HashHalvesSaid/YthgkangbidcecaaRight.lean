/- Which hash may be: the program's and the reference's functions answer the same. -/
import Derived.Test.YthgkangbidcecaaPlace
namespace Go.Proofs.Ythgkangbidcecaa
open Go.RowKit

theorem ret_bool {a b : Bool} (h : a = b) : Ending.returned (.bool a) = .returned (.bool b) := by rw [h]
/-- three slices in one block, behind calls -/
theorem box3 {w wr : World} {v0 v1 v2 : Value} (hb : Below (w.alloc (.cells #[v0, v1, v2] 25)).heap.size (w.alloc (.cells #[v0, v1, v2] 25)) wr) :
    wr.cell? ⟨w.heap.size, 0, none⟩ = some v0 ∧ wr.cell? ⟨w.heap.size, 1, none⟩ = some v1 ∧ wr.cell? ⟨w.heap.size, 2, none⟩ = some v2 :=
  ⟨kept_new hb 0, kept_new hb 1, kept_new hb 2⟩

set_option maxHeartbeats 2000000 in
theorem right_any (A0 A1 A2 : Option Addr) (n0 n1 n2 c0 c1 c2 : Nat) (S K V : List Int) (w : World) (hS : S.length = n0) (hK : K.length = n1) (hV : V.length = n2) (hn0 : n0 ≤ 140737488355328) (hn1 : n1 ≤ 140737488355328) (hn2 : n2 ≤ 140737488355328)
    (hu : Under 4294967296 S)
    (h0 : Arr w w.heap.size 1 A0 n0 (NumC .u32 S)) (h1 : Arr w w.heap.size 1 A1 n1 (NumC .u64 K)) :
    Calls Try.prog 11 #[.agg #[.slice A0 n0 c0, .slice A1 n1 c1, .slice A2 n2 c2]] w fun e w' => e = .returned (.bool (right mix S K V)) ∧ Below w.heap.size w w' := by
  have hbox : ∀ o, Below w.heap.size w (w.alloc o) := fun o => (Below.refl w.heap.size w).alloc (Nat.le_refl _) o
  have hpart : 4096 < n1 ∨ (n1 ≤ 4096 ∧ n2 ≠ n1) ∨ (n1 ≤ 4096 ∧ n2 = n1 ∧ 4096 < n0) ∨ (n1 ≤ 4096 ∧ n2 = n1 ∧ n0 ≤ 4096 ∧ n1 = 0 ∧ 0 < n0) ∨ (n1 ≤ 4096 ∧ n2 = n1 ∧ n0 ≤ 4096 ∧ (n1 = 0 → n0 = 0)) := by omega
  have HN : Hid (4096 < n1 ∨ n2 ≠ n1 ∨ 4096 < n0 ∨ (n1 = 0 ∧ 0 < n0) → right mix S K V = false) := fun h => right_no mix S K V (by rw [hS, hK, hV]; exact h)
  rcases hpart with hp | ⟨hp, hp2⟩ | ⟨hp, rfl, hp2⟩ | ⟨hp, rfl, hp2, rfl, hp3⟩ | ⟨hp, rfl, hp2, hp3⟩
  · go_enter Try.func11, Try.ntmps11
    go_wp2
    go_ret
    exact ⟨ret_bool (HN.out (by omega)).symm, hbox _⟩
  · have hbe' : ((n2 : Int) != (n1 : Int)) = true := by rw [bne_iff_ne]; omega
    go_enter Try.func11, Try.ntmps11
    go_wp2
    go_ret
    exact ⟨ret_bool (HN.out (by omega)).symm, hbox _⟩
  · go_enter Try.func11, Try.ntmps11
    go_wp2
    go_ret
    exact ⟨ret_bool (HN.out (by omega)).symm, hbox _⟩
  · go_enter Try.func11, Try.ntmps11
    go_wp2
    go_ret
    exact ⟨ret_bool (HN.out (.inr (.inr (.inr ⟨trivial, hp3⟩)))).symm, hbox _⟩
  · have HP := Lib.hid fun (k : Nat) (W : World) (hk : k < n2) (hB : Below (w.alloc (.cells #[.slice A0 n0 c0, .slice A1 n2 c1, .slice A2 n2 c2] 25)).heap.size (w.alloc (.cells #[.slice A0 n0 c0, .slice A1 n2 c1, .slice A2 n2 c2] 25)) W) =>
      place_any A0 A1 (.slice A2 n2 c2) n0 n2 c0 c1 S K (K.getD k 0) W hS hK hn0 hn1 (by omega) hu ((h0.below (below_new (Below.refl _ _) (Nat.le_refl _) hB)).more (Nat.le_of_lt (size_new hB))) ((h1.below (below_new (Below.refl _ _) (Nat.le_refl _) hB)).more (Nat.le_of_lt (size_new hB)))
    have HR := Lib.hid (right_yes mix S K V (by omega) (by omega) (by omega) (by omega))
    have HB := Lib.hid (right_bad mix S K V)
    have HA1 := Lib.hid h1
    have hdec : n2 = 0 ∨ 0 < n2 := by omega
    clear h0 h1 hu HN
    rcases hdec with rfl | hpos
    · obtain rfl : n0 = 0 := hp3 rfl
      go_enter Try.func11, Try.ntmps11
      go_wp2
      refine wp_loop_rounds 1 ?_
      rw [rounds_succ]
      go_wp2
      go_ret
      exact ⟨ret_bool (HR.out (fun k hk => absurd hk (by omega))).symm, hbox _⟩
    · clear hp3
      have hz : ((n2 : Int) == 0) = false := by rw [beq_eq_false_iff_ne]; omega
      go_enter Try.func11, Try.ntmps11
      go_wp2
      go_loopw [37] (fun i wr => ∃ k : Nat, k ≤ n2 ∧ i = .int .i64 k ∧ (∀ j, j < k → okAt mix S K j = true) ∧ Below (w.alloc (.cells #[.slice A0 n0 c0, .slice A1 n2 c1, .slice A2 n2 c2] 25)).heap.size (w.alloc (.cells #[.slice A0 n0 c0, .slice A1 n2 c1, .slice A2 n2 c2] 25)) wr) (fun i _ => n2 - (intOf i).toNat)
      case atStart => exact ⟨0, by omega, rfl, fun j hj => absurd hj (by omega), Below.refl _ _⟩
      case round =>
        obtain ⟨k, hk, rfl, hok, hB⟩ := hrel
        obtain ⟨q0, q1, q2⟩ := box3 hB
        have hsz := size_new hB
        have HO := Lib.hid hok
        clear hok
        by_cases hlt : k < n2
        · obtain ⟨b1, o1, rfl, _, hc1⟩ := (HA1.out.below (below_new (Below.refl _ _) (Nat.le_refl _) hB)).one hlt
          unfold NumC at hc1
          obtain ⟨p, hp⟩ := place_nat mix S K (K.getD k 0) (by omega)
          have hcall := HP.out k wr hlt hB
          rw [hp] at hcall
          obtain ⟨x, hx⟩ : ∃ x, x = K.getD k 0 := ⟨_, rfl⟩
          rw [← hx] at hc1 hcall
          have HX := Lib.hid hx
          have HQ := Lib.hid hp
          have HC := Lib.hid hcall
          clear hx hp hcall
          by_cases hpk : p = k
          · subst hpk
            have hcas : n0 ≠ 0 ∨ (n0 = 0 ∧ p = 0) ∨ (n0 = 0 ∧ 0 < p) := by omega
            rcases hcas with hc | ⟨hc, rfl⟩ | ⟨hc, hpos2⟩
            · have hz0 : ((n0 : Int) == 0) = false := by rw [beq_eq_false_iff_ne]; omega
              go_wp2_with fail
              refine HC.out.mono ?_
              rintro e w1 ⟨rfl, hB1⟩
              have hB2 := hB.trans (hB1.mono hB.size)
              obtain ⟨r0, r1, r2⟩ := box3 hB2
              clear q0 q1 q2
              go_wp2_with fail
              go_roundw
              case rel => exact ⟨p + 1, by omega, by go_num, fun j hj => by
                            by_cases h : j < p
                            · exact HO.out j h
                            · obtain rfl : j = p := by omega
                              exact okAt_yes HQ.out (.inl (by omega)), hB2⟩
              case measure => simp [intOf]; omega
            · have hz0 : ((n0 : Int) == 0) = true := by rw [beq_iff_eq]; omega
              clear hc
              simp only [Nat.add_zero] at hc1
              go_wp2_with fail
              refine HC.out.mono ?_
              rintro e w1 ⟨rfl, hB1⟩
              have hB2 := hB.trans (hB1.mono hB.size)
              obtain ⟨r0, r1, r2⟩ := box3 hB2
              clear q0 q1 q2
              go_wp2_with fail
              go_roundw
              case rel => exact ⟨1, by omega, by go_num, fun j hj => by
                            obtain rfl : j = 0 := by omega
                            exact okAt_yes HQ.out (.inr (.inl rfl)), hB2⟩
              case measure => simp [intOf]; omega
            · obtain ⟨b1', o1', hb1', _, hc2⟩ := (HA1.out.below (below_new (Below.refl _ _) (Nat.le_refl _) hB)).one (k := p - 1) (by omega)
              obtain ⟨rfl, rfl⟩ : b1 = b1' ∧ o1 = o1' := by simpa using hb1'
              clear hb1'
              unfold NumC at hc2
              obtain ⟨y, hy⟩ : ∃ y, y = K.getD (p - 1) 0 := ⟨_, rfl⟩
              rw [← hy] at hc2
              obtain ⟨q, rfl⟩ : ∃ q, p = q + 1 := ⟨p - 1, by omega⟩
              simp only [Nat.add_sub_cancel] at hc2 hy
              have HY := Lib.hid hy
              clear hy
              have hz0 : ((n0 : Int) == 0) = true := by rw [beq_iff_eq]; omega
              have HC0 := Lib.hid hc
              clear hc
              by_cases hxy : x ≤ y
              · go_wp2_with fail
                refine HC.out.mono ?_
                rintro e w1 ⟨rfl, hB1⟩
                have hB2 := hB.trans (hB1.mono hB.size)
                obtain ⟨r0, r1, r2⟩ := box3 hB2
                have hc3 := (hB1.cell (p := ⟨b1, o1 + q, none⟩) (World.block_lt_of_cell? _ _ hc2)).trans hc2
                clear q0 q1 q2 hc1 hc2
                go_wp2_with fail
                go_ret
                exact ⟨ret_bool (HB.out (q + 1) (by omega) (okAt_low (hS.trans HC0.out) (by omega) (by rw [← HX.out]; simp only [Nat.add_sub_cancel]; rw [← HY.out]; exact hxy))).symm, below_new (Below.refl _ _) (Nat.le_refl _) hB2⟩
              · go_wp2_with fail
                refine HC.out.mono ?_
                rintro e w1 ⟨rfl, hB1⟩
                have hB2 := hB.trans (hB1.mono hB.size)
                obtain ⟨r0, r1, r2⟩ := box3 hB2
                have hc3 := (hB1.cell (p := ⟨b1, o1 + q, none⟩) (World.block_lt_of_cell? _ _ hc2)).trans hc2
                clear q0 q1 q2 hc1 hc2
                go_wp2_with fail
                go_roundw
                case rel => exact ⟨q + 1 + 1, by omega, by go_num, fun j hj => by
                              by_cases h : j < q + 1
                              · exact HO.out j h
                              · obtain rfl : j = q + 1 := by omega
                                exact okAt_yes HQ.out (.inr (.inr (by rw [← HX.out]; simp only [Nat.add_sub_cancel]; rw [← HY.out]; omega))), hB2⟩
                case measure => simp [intOf]; omega
          · have hbe : ((p : Int) != (k : Int)) = true := by rw [bne_iff_ne]; omega
            go_wp2_with fail
            refine HC.out.mono ?_
            rintro e w1 ⟨rfl, hB1⟩
            have hB2 := hB.trans (hB1.mono hB.size)
            obtain ⟨r0, r1, r2⟩ := box3 hB2
            clear q0 q1 q2
            go_wp2_with fail
            go_ret
            exact ⟨ret_bool (HB.out k (by omega) (okAt_place HQ.out hpk)).symm, below_new (Below.refl _ _) (Nat.le_refl _) hB2⟩
        · go_wp2
          go_ret
          exact ⟨ret_bool (HR.out (fun j hj => HO.out j (by omega))).symm, below_new (Below.refl _ _) (Nat.le_refl _) hB⟩
set_option maxHeartbeats 2000000 in
theorem rright_any (A0 A1 A2 : Option Addr) (n0 n1 n2 c0 c1 c2 : Nat) (S K V : List Int) (w : World) (hS : S.length = n0) (hK : K.length = n1) (hV : V.length = n2) (hn0 : n0 ≤ 140737488355328) (hn1 : n1 ≤ 140737488355328) (hn2 : n2 ≤ 140737488355328)
    (hu : Under 4294967296 S)
    (h0 : Arr w w.heap.size 1 A0 n0 (NumC .u32 S)) (h1 : Arr w w.heap.size 1 A1 n1 (NumC .u64 K)) :
    Calls Try.prog 12 #[.agg #[.slice A0 n0 c0, .slice A1 n1 c1, .slice A2 n2 c2]] w fun e w' => e = .returned (.bool (right mix S K V)) ∧ Below w.heap.size w w' := by
  have hbox : ∀ o, Below w.heap.size w (w.alloc o) := fun o => (Below.refl w.heap.size w).alloc (Nat.le_refl _) o
  have hpart : 4096 < n1 ∨ (n1 ≤ 4096 ∧ n2 ≠ n1) ∨ (n1 ≤ 4096 ∧ n2 = n1 ∧ 4096 < n0) ∨ (n1 ≤ 4096 ∧ n2 = n1 ∧ n0 ≤ 4096 ∧ n1 = 0 ∧ 0 < n0) ∨ (n1 ≤ 4096 ∧ n2 = n1 ∧ n0 ≤ 4096 ∧ (n1 = 0 → n0 = 0)) := by omega
  have HN : Hid (4096 < n1 ∨ n2 ≠ n1 ∨ 4096 < n0 ∨ (n1 = 0 ∧ 0 < n0) → right mix S K V = false) := fun h => right_no mix S K V (by rw [hS, hK, hV]; exact h)
  rcases hpart with hp | ⟨hp, hp2⟩ | ⟨hp, rfl, hp2⟩ | ⟨hp, rfl, hp2, rfl, hp3⟩ | ⟨hp, rfl, hp2, hp3⟩
  · go_enter Try.func12, Try.ntmps12
    go_wp2
    go_ret
    exact ⟨ret_bool (HN.out (by omega)).symm, hbox _⟩
  · have hbe' : ((n2 : Int) != (n1 : Int)) = true := by rw [bne_iff_ne]; omega
    go_enter Try.func12, Try.ntmps12
    go_wp2
    go_ret
    exact ⟨ret_bool (HN.out (by omega)).symm, hbox _⟩
  · go_enter Try.func12, Try.ntmps12
    go_wp2
    go_ret
    exact ⟨ret_bool (HN.out (by omega)).symm, hbox _⟩
  · have hz0 : ((n0 : Int) == 0) = false := by rw [beq_eq_false_iff_ne]; omega
    go_enter Try.func12, Try.ntmps12
    go_wp2
    go_ret
    exact ⟨ret_bool (HN.out (.inr (.inr (.inr ⟨trivial, hp3⟩)))).symm, hbox _⟩
  · have HP := Lib.hid fun (k : Nat) (W : World) (hk : k < n2) (hB : Below (w.alloc (.cells #[.slice A0 n0 c0, .slice A1 n2 c1, .slice A2 n2 c2] 25)).heap.size (w.alloc (.cells #[.slice A0 n0 c0, .slice A1 n2 c1, .slice A2 n2 c2] 25)) W) =>
      rplace_any A0 A1 (.slice A2 n2 c2) n0 n2 c0 c1 S K (K.getD k 0) W hS hK hn0 hn1 (by omega) hu ((h0.below (below_new (Below.refl _ _) (Nat.le_refl _) hB)).more (Nat.le_of_lt (size_new hB))) ((h1.below (below_new (Below.refl _ _) (Nat.le_refl _) hB)).more (Nat.le_of_lt (size_new hB)))
    have HR := Lib.hid (right_yes mix S K V (by omega) (by omega) (by omega) (by omega))
    have HB := Lib.hid (right_bad mix S K V)
    have HA1 := Lib.hid h1
    have hdec : n2 = 0 ∨ 0 < n2 := by omega
    clear h0 h1 hu HN
    rcases hdec with rfl | hpos
    · obtain rfl : n0 = 0 := hp3 rfl
      go_enter Try.func12, Try.ntmps12
      go_wp2
      go_ret
      exact ⟨ret_bool (HR.out (fun k hk => absurd hk (by omega))).symm, hbox _⟩
    · clear hp3
      have hz : ((n2 : Int) == 0) = false := by rw [beq_eq_false_iff_ne]; omega
      go_enter Try.func12, Try.ntmps12
      go_wp2
      go_loopw [33] (fun i wr => ∃ k : Nat, k ≤ n2 ∧ i = .int .i64 k ∧ (∀ j, j < k → okAt mix S K j = true) ∧ Below (w.alloc (.cells #[.slice A0 n0 c0, .slice A1 n2 c1, .slice A2 n2 c2] 25)).heap.size (w.alloc (.cells #[.slice A0 n0 c0, .slice A1 n2 c1, .slice A2 n2 c2] 25)) wr) (fun i _ => n2 - (intOf i).toNat)
      case atStart => exact ⟨0, by omega, rfl, fun j hj => absurd hj (by omega), Below.refl _ _⟩
      case round =>
        obtain ⟨k, hk, rfl, hok, hB⟩ := hrel
        obtain ⟨q0, q1, q2⟩ := box3 hB
        have hsz := size_new hB
        have HO := Lib.hid hok
        clear hok
        by_cases hlt : k < n2
        · obtain ⟨b1, o1, rfl, _, hc1⟩ := (HA1.out.below (below_new (Below.refl _ _) (Nat.le_refl _) hB)).one hlt
          unfold NumC at hc1
          obtain ⟨p, hp⟩ := place_nat mix S K (K.getD k 0) (by omega)
          have hcall := HP.out k wr hlt hB
          rw [hp] at hcall
          obtain ⟨x, hx⟩ : ∃ x, x = K.getD k 0 := ⟨_, rfl⟩
          rw [← hx] at hc1 hcall
          have HX := Lib.hid hx
          have HQ := Lib.hid hp
          have HC := Lib.hid hcall
          clear hx hp hcall
          by_cases hpk : p = k
          · subst hpk
            have hcas : n0 ≠ 0 ∨ (n0 = 0 ∧ p = 0) ∨ (n0 = 0 ∧ 0 < p) := by omega
            rcases hcas with hc | ⟨hc, rfl⟩ | ⟨hc, hpos2⟩
            · have hz0 : ((n0 : Int) == 0) = false := by rw [beq_eq_false_iff_ne]; omega
              go_wp2_with fail
              refine HC.out.mono ?_
              rintro e w1 ⟨rfl, hB1⟩
              have hB2 := hB.trans (hB1.mono hB.size)
              obtain ⟨r0, r1, r2⟩ := box3 hB2
              clear q0 q1 q2
              go_wp2_with fail
              go_roundw
              case rel => exact ⟨p + 1, by omega, by go_num, fun j hj => by
                            by_cases h : j < p
                            · exact HO.out j h
                            · obtain rfl : j = p := by omega
                              exact okAt_yes HQ.out (.inl (by omega)), hB2⟩
              case measure => simp [intOf]; omega
            · have hz0 : ((n0 : Int) == 0) = true := by rw [beq_iff_eq]; omega
              clear hc
              simp only [Nat.add_zero] at hc1
              go_wp2_with fail
              refine HC.out.mono ?_
              rintro e w1 ⟨rfl, hB1⟩
              have hB2 := hB.trans (hB1.mono hB.size)
              obtain ⟨r0, r1, r2⟩ := box3 hB2
              clear q0 q1 q2
              go_wp2_with fail
              go_roundw
              case rel => exact ⟨1, by omega, by go_num, fun j hj => by
                            obtain rfl : j = 0 := by omega
                            exact okAt_yes HQ.out (.inr (.inl rfl)), hB2⟩
              case measure => simp [intOf]; omega
            · obtain ⟨b1', o1', hb1', _, hc2⟩ := (HA1.out.below (below_new (Below.refl _ _) (Nat.le_refl _) hB)).one (k := p - 1) (by omega)
              obtain ⟨rfl, rfl⟩ : b1 = b1' ∧ o1 = o1' := by simpa using hb1'
              clear hb1'
              unfold NumC at hc2
              obtain ⟨y, hy⟩ : ∃ y, y = K.getD (p - 1) 0 := ⟨_, rfl⟩
              rw [← hy] at hc2
              obtain ⟨q, rfl⟩ : ∃ q, p = q + 1 := ⟨p - 1, by omega⟩
              simp only [Nat.add_sub_cancel] at hc2 hy
              have HY := Lib.hid hy
              clear hy
              have hz0 : ((n0 : Int) == 0) = true := by rw [beq_iff_eq]; omega
              have HC0 := Lib.hid hc
              clear hc
              by_cases hxy : x ≤ y
              · go_wp2_with fail
                refine HC.out.mono ?_
                rintro e w1 ⟨rfl, hB1⟩
                have hB2 := hB.trans (hB1.mono hB.size)
                obtain ⟨r0, r1, r2⟩ := box3 hB2
                have hc3 := (hB1.cell (p := ⟨b1, o1 + q, none⟩) (World.block_lt_of_cell? _ _ hc2)).trans hc2
                clear q0 q1 q2 hc1 hc2
                go_wp2_with fail
                go_ret
                exact ⟨ret_bool (HB.out (q + 1) (by omega) (okAt_low (hS.trans HC0.out) (by omega) (by rw [← HX.out]; simp only [Nat.add_sub_cancel]; rw [← HY.out]; exact hxy))).symm, below_new (Below.refl _ _) (Nat.le_refl _) hB2⟩
              · go_wp2_with fail
                refine HC.out.mono ?_
                rintro e w1 ⟨rfl, hB1⟩
                have hB2 := hB.trans (hB1.mono hB.size)
                obtain ⟨r0, r1, r2⟩ := box3 hB2
                have hc3 := (hB1.cell (p := ⟨b1, o1 + q, none⟩) (World.block_lt_of_cell? _ _ hc2)).trans hc2
                clear q0 q1 q2 hc1 hc2
                go_wp2_with fail
                go_roundw
                case rel => exact ⟨q + 1 + 1, by omega, by go_num, fun j hj => by
                              by_cases h : j < q + 1
                              · exact HO.out j h
                              · obtain rfl : j = q + 1 := by omega
                                exact okAt_yes HQ.out (.inr (.inr (by rw [← HX.out]; simp only [Nat.add_sub_cancel]; rw [← HY.out]; omega))), hB2⟩
                case measure => simp [intOf]; omega
          · have hbe : ((p : Int) != (k : Int)) = true := by rw [bne_iff_ne]; omega
            go_wp2_with fail
            refine HC.out.mono ?_
            rintro e w1 ⟨rfl, hB1⟩
            have hB2 := hB.trans (hB1.mono hB.size)
            obtain ⟨r0, r1, r2⟩ := box3 hB2
            clear q0 q1 q2
            go_wp2_with fail
            go_ret
            exact ⟨ret_bool (HB.out k (by omega) (okAt_place HQ.out hpk)).symm, below_new (Below.refl _ _) (Nat.le_refl _) hB2⟩
        · go_wp2
          go_ret
          exact ⟨ret_bool (HR.out (fun j hj => HO.out j (by omega))).symm, below_new (Below.refl _ _) (Nat.le_refl _) hB⟩
end Go.Proofs.Ythgkangbidcecaa
