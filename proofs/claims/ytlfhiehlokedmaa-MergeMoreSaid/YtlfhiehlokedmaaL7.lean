/- MergeMore returns true for all merges, one more, and ids. -/
import Derived.Test.YtlfhiehlokedmaaL7a
import Derived.Test.YtlfhiehlokedmaaMorePlain
import Derived.Deep.Cut
import Derived.Deep.RegionLaw
namespace Go.Proofs.Ytlfhiehlokedmaa
open Go.RowKit

theorem cell_new_drewN (w : World) (n : Nat) (u : Value) (t : TypeId) : ((w.drewN n).alloc (.cells #[u] t)).cell? ⟨w.heap.size, 0, none⟩ = some u :=
  cell_of_row _ _ _ _ _ _ (heap_alloc_new (w.drewN n) _)
theorem OwnB.made_at {base : Nat} {w0 w : World} {e : TypeId} {size g : Nat} (h : Below base w0 w) (hb : base ≤ w.heap.size) (hg : g = w.heap.size) : OwnB base w0 (w.alloc (.cells #[] e)) e size (.slice (some ⟨g, 0, none⟩) 0 0) 0 [] := by
  subst hg; exact OwnB.made h hb
theorem own_ne {g g' n c : Nat} (h : g ≠ g') : some g ≠ (Value.slice (some ⟨g', 0, none⟩) n c).ownBlock := fun e => h (Option.some.inj e)

set_option maxRecDepth 100000 in
set_option maxHeartbeats 4000000 in
theorem law_more (A1 A2 : Option Addr) (n1 n2 c1 c2 : Nat) (l : List (Int × Int)) (p : Int × Int) (ids0 : List Int) (w : World) (hl : l.length = n1) (hi0 : ids0.length = n2) (hn1 : n1 ≤ 8796093022207) (hn2 : n2 ≤ 17592186044416) (hc2 : n2 ≤ c2) (hA1 : A1 = none → n1 = 0 ∧ c1 = 0)
    (h1 : Arr w w.heap.size 2 A1 n1 (PairC l)) (h2 : Arr w w.heap.size 1 A2 n2 (IntC ids0)) :
    Calls Try.prog 7 #[.slice A1 n1 c1, .agg #[.int .i64 p.1, .int .i64 p.2], .slice A2 n2 c2] w fun e w' => e = .returned (.bool true) ∧ Below w.heap.size w w' := by
  obtain ⟨i43, hi43, hz43, hsz43, hbt43⟩ := info43_all
  obtain ⟨n3, hn3⟩ : ∃ n3, n3 = min n2 60 := ⟨_, rfl⟩
  have HS := Lib.hid fun W => short_any A2 n2 c2 W hc2 (by omega)
  rw [← hn3] at HS
  obtain ⟨ids, hids⟩ : ∃ ids, ids = ids0.take n3 := ⟨_, rfl⟩
  have hi : ids.length = n3 := by rw [hids, List.length_take, hi0]; omega
  have h3 := arr_take h2 (show n3 ≤ n2 by omega)
  rw [← hids] at h3
  have h36 : n3 ≤ 60 := by omega
  have H1 := Lib.hid h1
  have H3 := Lib.hid h3
  have HIL := Lib.hid hi
  have HA1 := Lib.hid hA1
  obtain ⟨a, ha⟩ : ∃ a, a = p.1 := ⟨_, rfl⟩
  obtain ⟨b, hb⟩ : ∃ b, b = p.2 := ⟨_, rfl⟩
  rw [← ha, ← hb]
  have HP1 := Lib.hid ha
  have HP2 := Lib.hid hb
  have hbox := (Below.refl w.heap.size w).alloc (Nat.le_refl _) (.cells #[.int .i64 a, .int .i64 b] 43)
  have HAL := Lib.hid fun W => alive_any W
  clear hids hi h1 h2 h3 hi0 hn3 hA1 ha hb
  go_enter Try.func7, Try.ntmps7
  go_wp2_with fail
  refine (HAL.out _).mono ?_
  rintro e w1 ⟨rfl, hb1⟩
  have hB1 := below_new (Below.refl w.heap.size w) (Nat.le_refl _) hb1
  have hs1 := size_new hb1
  have q0 := kept_new hb1 0
  have q1 := kept_new hb1 1
  simp only [List.getElem?_toArray, List.getElem?_cons_zero, List.getElem?_cons_succ] at q0 q1
  clear HAL hbox
  go_wp2_with fail
  refine (HS.out _).mono ?_
  rintro e w' ⟨rfl, rfl⟩
  obtain ⟨w1, rfl⟩ : ∃ w1 : World, w1 = w' := ⟨_, rfl⟩
  clear HS
  have H1w := Lib.hid ((H1.out.below hB1).more hB1.size)
  go_upto_region 4 with (fail)
  go_cut [7] from 18 (fun v w2 => OwnB w1.heap.size w1 w2 43 2 v (n1 + 1) (pairsV (l ++ [p])))
  case first =>
    have y1 : (pairsV l).length = n1 * 2 := by rw [length_pairsV, hl]
    have y2 : 0 + n1 ≤ maxLen := by unfold maxLen; omega
    have y3 : (0 + n1) * 16 ≤ 140737488355328 := by omega
    have y4 : (0 : Nat) < 2 := by omega
    have y5 : n1 + 1 ≤ maxLen := by unfold maxLen; omega
    have y6 : (n1 + 1) * 16 ≤ 140737488355328 := by omega
    have y7 : ∀ u ∈ [Value.int .i64 a, .int .i64 b], u.oneCell' = true := by intro u hu; simp at hu; rcases hu with rfl | rfl <;> rfl
    go_region_law (first
      | (refine step_app _ rfl (.tmp 18) (.tmp 19) 22 rfl w1.heap.size 43 i43 _ 2 16 Try.underlying22 hi43 hz43 hsz43 hbt43 rfl y4 w1 _ 0 [] rfl
          (by repeat first | exact OwnB.made (Below.refl _ _) (Nat.le_refl _) | exact OwnB.made_at ((Below.refl _ _).alloc (Nat.le_refl _) _) (by simp) (by simp) | refine OwnB.drew ?_ | refine OwnB.alloc ?_ _)
          A1 n1 c1 (pairsV l) rfl y1 HA1.out
          (pairs_news (B := w1.heap.size) (H1w.out.below (by repeat first | exact Below.refl _ _ | refine Below.drew ?_ | refine Below.alloc ?_ (by simp) _)) hl) (pairsV_one l) y2 y3 ?_; intro v1 w2 hown1 hg1; rw [Nat.zero_add, List.nil_append] at hown1; have q0' := (hown1.below.cell (p := ⟨w.heap.size, 0, none⟩) hs1).trans q0; have q1' := (hown1.below.cell (p := ⟨w.heap.size, 1, none⟩) hs1).trans q1)
      | (refine step_app _ rfl (.tmp 20) (.tmp 22) 22 rfl w1.heap.size 43 i43 _ 2 16 Try.underlying22 hi43 hz43 hsz43 hbt43 rfl y4 w1 _ n1 (pairsV l) rfl ?_ (some _) 1 1 [.int .i64 a, .int .i64 b] rfl rfl (fun h => nomatch h) (cells_news (a := .int .i64 a) (b := .int .i64 b) ?_ ?_) y7 y5 y6 ?_
         · repeat first | exact hown1 | refine OwnB.drew ?_ | refine OwnB.alloc ?_ _
         · first | (simp; done) | (rw [hg1.cell_far _ (by simp <;> omega) (own_ne (by simp <;> omega))]; simp; done)
         · first | (simp; done) | (rw [hg1.cell_far _ (by simp <;> omega) (own_ne (by simp <;> omega))]; simp; done)
         intro v2 w3 hown2 hg2))
    all_goals
      go_wp2_with fail
      go_meet
      rw [pairsV_snoc, ← HP1.out, ← HP2.out]
      exact hown2
  case rest =>
    obtain ⟨hown, hBw, hsw⟩ := hcut
    obtain ⟨hl5, A5, c5, rfl, ha5⟩ := own_pairs hown
    have hB5 := hB1.trans (hBw.mono hB1.size)
    have H5 := Lib.hid ha5
    have HL5 := Lib.hid hl5
    obtain ⟨e1, he1⟩ : ∃ e1, e1 = (apply l ids).2 := ⟨_, rfl⟩
    obtain ⟨g1, hg1⟩ : ∃ g1, g1 = (apply l ids).1 := ⟨_, rfl⟩
    obtain ⟨m, hm⟩ : ∃ m, m = g1.length := ⟨_, rfl⟩
    obtain ⟨e2, he2⟩ : ∃ e2, e2 = (apply (l ++ [p]) ids).2 := ⟨_, rfl⟩
    obtain ⟨g2, hg2⟩ : ∃ g2, g2 = (apply (l ++ [p]) ids).1 := ⟨_, rfl⟩
    obtain ⟨m2, hm2⟩ : ∃ m2, m2 = g2.length := ⟨_, rfl⟩
    have HE1 := Lib.hid he1
    have HG1 := Lib.hid hg1
    have HM := Lib.hid hm
    have HE2 := Lib.hid he2
    have HG2 := Lib.hid hg2
    have HM2 := Lib.hid hm2
    have hml : m ≤ n3 := by rw [hm, hg1, ← HIL.out]; exact apply_len l ids
    have hml2 : m2 ≤ n3 := by rw [hm2, hg2, ← HIL.out]; exact apply_len _ ids
    have hAp := apply_any A1 A2 n1 n3 c1 c2 l ids wc hl HIL.out (by omega) (by omega) ((H1.out.below hB5).more hB5.size) ((H3.out.below hB5).more hB5.size)
    rw [← he1, ← hg1, ← hm] at hAp
    have HAP := Lib.hid hAp
    clear hAp he1 hg1 hm he2 hg2 hm2 hown ha5 hl5
    go_wp2_with fail
    refine HAP.out.mono ?_
    rintro e w2 ⟨v, rfl, hown2, hb2⟩
    obtain ⟨-, A6, c6, rfl, ha6⟩ := own_ints hown2
    have hB6 := hB5.trans (hb2.mono hB5.size)
    have H6 := Lib.hid ha6
    have hAp := apply_any A5 A2 (n1 + 1) n3 c5 c2 (l ++ [p]) ids w2 HL5.out HIL.out (by omega) (by omega) ((H5.out.below hb2).more hb2.size) ((H3.out.below hB6).more hB6.size)
    rw [← HE2.out, ← HG2.out, ← HM2.out] at hAp
    have HAP2 := Lib.hid hAp
    clear hAp hown2 ha6 HAP
    go_wp2_with fail
    refine HAP2.out.mono ?_
    rintro e w3 ⟨v, rfl, hown3, hb3⟩
    obtain ⟨-, A7, c7, rfl, ha7⟩ := own_ints hown3
    have hB7 := hB6.trans (hb3.mono hB6.size)
    have hC7 := hBw.trans ((hb2.trans (hb3.mono hb2.size)).mono hsw)
    have H7 := Lib.hid ha7
    have H63 := Lib.hid ((H6.out.below hb3).more hb3.size)
    clear hown3 ha7 HAP2 H6 hBw
    by_cases hz1 : e1 = 0
    · subst hz1
      by_cases hz2 : e2 = 0
      · subst hz2
        have hmore := more HE1.out.symm HE2.out.symm
        rw [← HG1.out, ← HG2.out, ← HP1.out, ← HP2.out, hl] at hmore
        have HMO := Lib.hid hmore
        have hw0 : wantL a b (256 + (n1 : Int)) (g1.drop 0) = g2 := hmore.symm
        have HW0 := Lib.hid hw0
        have hq0 := (hC7.cell (p := ⟨w.heap.size, 0, none⟩) hs1).trans q0
        have hq1 := (hC7.cell (p := ⟨w.heap.size, 1, none⟩) hs1).trans q1
        obtain ⟨i3, hi3, hz3, hsz3, hbt3⟩ := info_parts info3
        clear hmore hw0 hb2 hb3
        go_wp2_with fail
        go_loopw [12, 13] (fun v i wr => ∃ (k q : Nat) (out : List Int), k ≤ m ∧ i = .int .i64 k ∧ q ≤ k ∧ wr.ownsRow w3.heap.size 3 1 v q (intsV out) ∧ out ++ wantL a b (256 + (n1 : Int)) (g1.drop k) = g2 ∧ Below w3.heap.size w3 wr) (fun _ i _ => m - (intOf i).toNat)
        case atStart => exact ⟨0, 0, [], by omega, rfl, by omega, World.ownsRow_nil _ _ _ _, HW0.out, Below.refl _ _⟩
        case round =>
          obtain ⟨k, q, out, hk, rfl, hqk, hown, hwant, hbw⟩ := hrel
          have HWT := Lib.hid hwant
          have hsw := hbw.size
          have hs3 : w.heap.size < w3.heap.size := Nat.lt_of_lt_of_le hs1 hC7.size
          have r0 := (hbw.cell (p := ⟨w.heap.size, 0, none⟩) hs3).trans hq0
          have r1 := (hbw.cell (p := ⟨w.heap.size, 1, none⟩) hs3).trans hq1
          clear hwant
          by_cases hlt : k < m
          · obtain ⟨b1, o1, rfl, _, hc0⟩ := (H63.out.below hbw).one hlt
            unfold IntC at hc0
            obtain ⟨x, hx⟩ : ∃ x, x = g1.getD k 0 := ⟨_, rfl⟩
            rw [← hx] at hc0
            have HX := Lib.hid hx
            clear hx
            have z1 : IntKind.i64.wrap ((k : Int) + 1) = (k : Int) + 1 := IntWalk.i64_in _ (by omega)
            have z2 : (0 : Int) ≤ (k : Int) ∧ (k : Int) < (m : Int) := by omega
            by_cases hlt2 : k + 1 < m
            · obtain ⟨b2, o2, he', _, hc1⟩ := (H63.out.below hbw).one hlt2
              obtain ⟨rfl, rfl⟩ : b1 = b2 ∧ o1 = o2 := by simpa using he'
              unfold IntC at hc1
              obtain ⟨y, hy⟩ : ∃ y, y = g1.getD (k + 1) 0 := ⟨_, rfl⟩
              rw [← hy] at hc1
              have HY := Lib.hid hy
              have z3 : (0 : Int) ≤ (k : Int) + 1 ∧ (k : Int) + 1 < (m : Int) := by omega
              have z4 : ((k : Int) + 1).toNat = k + 1 := by omega
              clear hy he'
              by_cases hxa : x = a
              · have hxb : (x == a) = true := by rw [beq_iff_eq]; exact hxa
                by_cases hyb : y = b
                · have hyy : (y == b) = true := by rw [beq_iff_eq]; exact hyb
                  have hnx : Hid (wantL a b (256 + (n1 : Int)) (g1.drop k) = (256 + (n1 : Int)) :: wantL a b (256 + (n1 : Int)) (g1.drop (k + 2))) :=
                    wantL_hit (by rw [← HM.out]; exact hlt2) (by rw [← HX.out]; exact hxa) (by rw [← HY.out]; exact hyb)
                  clear hxa hyb
                  go_wp2_with fail
                  go_quiet (fail)
                  go_wp2_with (first
                    | (at_builtin; refine wpList_app1 w3 _ rfl (.tmp 72) (.tmp 76) 30 rfl w3.heap.size 3 i3 _ 8 Try.underlying30 hi3 hz3 hsz3 hbt3 rfl _ q (intsV out) rfl ((own_drewN hown _).alloc _) ((below_drewN hbw _).alloc (by simp; omega) _) (.int .i64 (256 + (n1 : Int))) _ rfl (cell_new_drewN _ _ _ _) rfl (by omega) (by unfold maxLen; omega) (by simp; omega) ?_; intro v1 w4 hown1 hb4 hg4))
                  go_roundw
                  case rel => exact ⟨k + 2, q + 1, out ++ [256 + (n1 : Int)], by omega, by go_num, by omega, by rw [intsV_snoc]; exact hown1, by rw [List.append_assoc, List.singleton_append, ← hnx.out]; exact HWT.out, hb4⟩
                  case measure => simp [intOf]; omega
                · have hyy : (y == b) = false := by rw [beq_eq_false_iff_ne]; exact hyb
                  have hnx : Hid (wantL a b (256 + (n1 : Int)) (g1.drop k) = x :: wantL a b (256 + (n1 : Int)) (g1.drop (k + 1))) := by
                    show wantL a b (256 + (n1 : Int)) (g1.drop k) = x :: wantL a b (256 + (n1 : Int)) (g1.drop (k + 1))
                    rw [wantL_miss (by rw [← HM.out]; exact hlt) (fun _ _ e => hyb (by rw [HY.out]; exact e)), ← HX.out]
                  clear hxa hyb
                  go_wp2_with fail
                  go_quiet (fail)
                  go_wp2_with (first
                    | (at_builtin; refine wpList_app1 w3 _ rfl (.tmp 80) (.tmp 85) 30 rfl w3.heap.size 3 i3 _ 8 Try.underlying30 hi3 hz3 hsz3 hbt3 rfl _ q (intsV out) rfl ((own_drewN hown _).alloc _) ((below_drewN hbw _).alloc (by simp; omega) _) (.int .i64 x) _ rfl (cell_new_drewN _ _ _ _) rfl (by omega) (by unfold maxLen; omega) (by simp; omega) ?_; intro v1 w4 hown1 hb4 hg4))
                  go_roundw
                  case rel => exact ⟨k + 1, q + 1, out ++ [x], by omega, by go_num, by omega, by rw [intsV_snoc]; exact hown1, by rw [List.append_assoc, List.singleton_append, ← hnx.out]; exact HWT.out, hb4⟩
                  case measure => simp [intOf]; omega
              · have hxb : (x == a) = false := by rw [beq_eq_false_iff_ne]; exact hxa
                have hnx : Hid (wantL a b (256 + (n1 : Int)) (g1.drop k) = x :: wantL a b (256 + (n1 : Int)) (g1.drop (k + 1))) := by
                  show wantL a b (256 + (n1 : Int)) (g1.drop k) = x :: wantL a b (256 + (n1 : Int)) (g1.drop (k + 1))
                  rw [wantL_miss (by rw [← HM.out]; exact hlt) (fun _ e _ => hxa (by rw [HX.out]; exact e)), ← HX.out]
                clear hxa
                go_wp2_with fail
                go_quiet (fail)
                go_wp2_with (first
                  | (at_builtin; refine wpList_app1 w3 _ rfl (.tmp 80) (.tmp 85) 30 rfl w3.heap.size 3 i3 _ 8 Try.underlying30 hi3 hz3 hsz3 hbt3 rfl _ q (intsV out) rfl ((own_drewN hown _).alloc _) ((below_drewN hbw _).alloc (by simp; omega) _) (.int .i64 x) _ rfl (cell_new_drewN _ _ _ _) rfl (by omega) (by unfold maxLen; omega) (by simp; omega) ?_; intro v1 w4 hown1 hb4 hg4))
                go_roundw
                case rel => exact ⟨k + 1, q + 1, out ++ [x], by omega, by go_num, by omega, by rw [intsV_snoc]; exact hown1, by rw [List.append_assoc, List.singleton_append, ← hnx.out]; exact HWT.out, hb4⟩
                case measure => simp [intOf]; omega
            · have z3 : decide ((k : Int) + 1 < (m : Int)) = false := by simp; omega
              have hnx : Hid (wantL a b (256 + (n1 : Int)) (g1.drop k) = x :: wantL a b (256 + (n1 : Int)) (g1.drop (k + 1))) := by
                show wantL a b (256 + (n1 : Int)) (g1.drop k) = x :: wantL a b (256 + (n1 : Int)) (g1.drop (k + 1))
                rw [wantL_miss (by rw [← HM.out]; exact hlt) (fun e _ _ => absurd e (by rw [← HM.out]; exact hlt2)), ← HX.out]
              go_wp2_with fail
              go_quiet (fail)
              go_wp2_with (first
                | (at_builtin; refine wpList_app1 w3 _ rfl (.tmp 80) (.tmp 85) 30 rfl w3.heap.size 3 i3 _ 8 Try.underlying30 hi3 hz3 hsz3 hbt3 rfl _ q (intsV out) rfl ((own_drewN hown _).alloc _) ((below_drewN hbw _).alloc (by simp; omega) _) (.int .i64 x) _ rfl (cell_new_drewN _ _ _ _) rfl (by omega) (by unfold maxLen; omega) (by simp; omega) ?_; intro v1 w4 hown1 hb4 hg4))
              go_roundw
              case rel => exact ⟨k + 1, q + 1, out ++ [x], by omega, by go_num, by omega, by rw [intsV_snoc]; exact hown1, by rw [List.append_assoc, List.singleton_append, ← hnx.out]; exact HWT.out, hb4⟩
              case measure => simp [intOf]; omega
          · have hown0 : wr.ownsRow w3.heap.size 3 1 u12 q (intsV g2) := by
              have h := HWT.out
              rw [List.drop_of_length_le (by rw [← HM.out]; omega)] at h
              simp only [wantL, List.append_nil] at h
              rw [h] at hown
              exact hown
            obtain ⟨hlq, A8, c8, rfl, ha8⟩ := own_ints hown0
            have HC := Lib.hid (ints_any A7 A8 m2 q c7 c8 wr.heap.size g2 g2 wr HM2.out.symm hlq (by omega) (by omega) ((H7.out.below hbw).more hsw) ha8)
            have hBe := hB7.trans (hbw.mono hB7.size)
            clear hown hown0 hlq ha8
            go_wp2_with fail
            refine HC.out.mono ?_
            rintro e w4 ⟨rfl, qq, rfl⟩
            go_wp2_with fail
            go_ret
            exact ⟨ret_bool (by simp), below_drewN hBe _⟩
      · have hbe : (e2 != 0) = true := by rw [bne_iff_ne]; exact hz2
        clear hz2
        go_wp2_with fail
        go_ret
        exact ⟨rfl, hB7⟩
    · have hbe : (e1 != 0) = true := by rw [bne_iff_ne]; exact hz1
      clear hz1
      go_wp2_with fail
      go_ret
      exact ⟨rfl, hB7⟩
end Go.Proofs.Ytlfhiehlokedmaa
