/- MergeApplies returns true for all merges and ids. -/
import Derived.Test.YtlfhiehlokedmaaMA2
import Derived.Deep.Cut
import Derived.Deep.CutRange
import Derived.Deep.DeepCutAuto
namespace Go.Proofs.Ytlfhiehlokedmaa
open Go.RowKit

theorem arr_take {w : World} {B n n3 : Nat} {A : Option Addr} {ids : List Int} (h : Arr w B 1 A n (IntC ids)) (h3 : n3 ≤ n) : Arr w B 1 A n3 (IntC (ids.take n3)) := fun hn => by
  obtain ⟨b, off, e, hlt, hc⟩ := h (by omega)
  refine ⟨b, off, e, hlt, fun k j hk hj => ?_⟩
  rw [hc k j (by omega) hj, IntC, IntC]
  simp [hk]

theorem own_ints {w : World} {base : Nat} {v : Value} {n : Nat} {xs : List Int} {e : TypeId} (h : w.ownsRow base e 1 v n (intsV xs)) : xs.length = n ∧ ∃ A c, v = .slice A n c ∧ Arr w w.heap.size 1 A n (IntC xs) := by
  have hl : xs.length = n := by have := h.1; simpa [intsV] using this
  obtain ⟨A, c, rfl⟩ := own_form h
  refine ⟨hl, A, c, rfl, fun hn => ?_⟩
  obtain ⟨b, off, hA, hb, hc⟩ := Arr.of_own h hn
  refine ⟨b, off, hA, hb, fun k j hk hj => ?_⟩
  rw [hc k j hk hj, IntC]
  dsimp only
  rw [List.getD, intsV_get _ _ (by omega)]
  rfl

theorem apply_bad {l : List (Int × Int)} {ids : List Int} {er : Int} (h : (texts l).2 = er) (he : er ≠ 0) : apply l ids = ([], er) := by
  unfold apply; rw [if_pos (by rw [h]; exact he), h]
theorem apply_long {l : List (Int × Int)} {ids : List Int} (h : (texts l).2 = 0) (he : 4096 < ids.length) : apply l ids = ([], 2) := by
  unfold apply; rw [if_neg (by rw [h]; simp), if_pos he]
theorem apply_arg {l : List (Int × Int)} {ids : List Int} (h : (texts l).2 = 0) (he : ¬ 4096 < ids.length) (hb : ids.any (badId l.length) = true) : apply l ids = ([], 1) := by
  unfold apply; rw [if_neg (by rw [h]; simp), if_neg he, ← badId_any, hb]; rfl
theorem apply_good {l : List (Int × Int)} {ids : List Int} (h : (texts l).2 = 0) (he : ¬ 4096 < ids.length) (hb : ids.any (badId l.length) = false) : apply l ids = (mergeAll l ids, 0) := by
  unfold apply; rw [if_neg (by rw [h]; simp), if_neg he, ← badId_any, hb]; rfl

theorem apply_len (l : List (Int × Int)) (ids : List Int) : (apply l ids).1.length ≤ ids.length := by
  unfold apply
  split
  · simp
  · split
    · simp
    · split
      · simp
      · exact length_mergeF _ _

set_option maxRecDepth 100000 in
set_option maxHeartbeats 4000000 in
theorem law_applies (A1 A2 : Option Addr) (n1 n2 c1 c2 : Nat) (l : List (Int × Int)) (ids0 : List Int) (w : World) (hl : l.length = n1) (hi0 : ids0.length = n2) (hn1 : n1 ≤ 140737488355328) (hn2 : n2 ≤ 17592186044416) (hc2 : n2 ≤ c2)
    (h1 : Arr w w.heap.size 2 A1 n1 (PairC l)) (h2 : Arr w w.heap.size 1 A2 n2 (IntC ids0)) :
    Calls Try.prog 4 #[.slice A1 n1 c1, .slice A2 n2 c2] w fun e w' => e = .returned (.bool true) ∧ Below w.heap.size w w' := by
  have H1 := Lib.hid h1
  have H2 := Lib.hid h2
  have HI0 := Lib.hid hi0
  clear h1 h2 hi0
  go_enter Try.func4, Try.ntmps4
  obtain ⟨bq, hbq⟩ : ∃ bq, bq = (decide (60 < n2) && decide (n2 ≤ 4096)) := ⟨_, rfl⟩
  have HBQ := Lib.hid hbq
  clear hbq
  go_upto_region 1 with (fail)
  go_cut [18] from 11 (fun v wx => v = .bool bq ∧ wx = w)
  case first =>
    by_cases h : 60 < n2
    · by_cases h' : n2 ≤ 4096
      · go_wp2_with fail
        go_meet
        exact ⟨by rw [HBQ.out]; simp [h, h']; omega, rfl⟩
      · go_wp2_with fail
        go_meet
        exact ⟨by rw [HBQ.out]; simp [h, h']; omega, rfl⟩
    · go_wp2_with fail
      go_meet
      exact ⟨by rw [HBQ.out]; simp [h], rfl⟩
  case rest =>
  obtain ⟨rfl, rfl⟩ := hcut
  go_upto_if 18 with (fail)
  go_cut [1] from 11 (fun v wx => ∃ n3 c3, v = .slice A2 n3 c3 ∧ n3 ≤ n2 ∧ n3 ≤ c3 ∧ wx = wc)
  case first =>
    cases bq with
    | true =>
      have h := HBQ.out.symm
      rw [Bool.and_eq_true, decide_eq_true_eq, decide_eq_true_eq] at h
      have hd : decide (60 ≤ c2) = true := by simp; omega
      go_wp2_with fail
      go_meet
      exact ⟨60, _, rfl, by omega, by omega, rfl⟩
    | false =>
      go_wp2_with fail
      go_meet
      exact ⟨n2, c2, rfl, by omega, by omega, rfl⟩
  case rest =>
    obtain ⟨n3, c3, rfl, h32, h3c, rfl⟩ := hcut
    obtain ⟨ids, hids⟩ : ∃ ids, ids = ids0.take n3 := ⟨_, rfl⟩
    have hi : ids.length = n3 := by rw [hids, List.length_take, HI0.out]; omega
    have h2 := arr_take H2.out h32
    rw [← hids] at h2
    have H3 := Lib.hid h2
    have HIL := Lib.hid hi
    clear h2 hids hi
    obtain ⟨er, her⟩ : ∃ er, er = (texts l).2 := ⟨_, rfl⟩
    have HER := Lib.hid her
    clear her
    obtain ⟨ap, hap⟩ : ∃ ap, ap = apply l ids := ⟨_, rfl⟩
    obtain ⟨eo, heo⟩ : ∃ eo, eo = (apply l ids).2 := ⟨_, rfl⟩
    obtain ⟨lo, hlo⟩ : ∃ lo, lo = (apply l ids).1.length := ⟨_, rfl⟩
    have HEO := Lib.hid heo
    have HLO := Lib.hid hlo
    have hlo3 : lo ≤ n3 := by rw [hlo, ← HIL.out]; exact apply_len l ids
    have hA := apply_any A1 A2 n1 n3 c1 c3 l ids wc hl HIL.out hn1 (by omega) H1.out H3.out
    rw [← heo, ← hlo] at hA
    have HA := Lib.hid hA
    clear hap heo hlo hA
    go_wp2_with fail
    refine HA.out.mono ?_
    rintro e w1 ⟨v, rfl, hown, hb1⟩
    obtain ⟨-, A4, c4, rfl, ha4⟩ := own_ints hown
    have HA4 := Lib.hid ha4
    have hT := rtexts_any A1 n1 c1 l w1 hl hn1 ((H1.out.below hb1).more hb1.size)
    rw [← HER.out] at hT
    have HT := Lib.hid hT
    clear hT ha4 hown
    go_wp2_with fail
    refine HT.out.mono ?_
    rintro e w2 ⟨v, rfl, -, hb2⟩
    have hB2 := hb1.trans (hb2.mono hb1.size)
    have HA5 := Lib.hid ((HA4.out.below hb2).more hb2.size)
    clear HT HA HA4 hb1 hb2
    by_cases he : er = 0
    · subst he
      by_cases hbig : 4096 < n3
      · have h := apply_long (l := l) (ids := ids) HER.out.symm (by rw [HIL.out]; exact hbig)
        obtain rfl : eo = 2 := by rw [HEO.out, h]
        obtain rfl : lo = 0 := by rw [HLO.out, h]; rfl
        clear h
        go_wp2_with fail
        go_ret
        exact ⟨rfl, hB2⟩
      · cases hbad : ids.any (badId n1) with
        | true =>
          have h := apply_arg (l := l) (ids := ids) HER.out.symm (by rw [HIL.out]; exact hbig) (by rw [hl]; exact hbad)
          obtain rfl : eo = 1 := by rw [HEO.out, h]
          obtain rfl : lo = 0 := by rw [HLO.out, h]; rfl
          have HBAD := Lib.hid hbad
          clear h hbad
          go_wp2_with fail
          go_loop [54] (fun i => ∃ k : Nat, k ≤ n3 ∧ i = .int .i64 k ∧ (ids.take k).any (badId n1) = false) (fun i => n3 - (intOf i).toNat)
          case atStart => exact ⟨0, by omega, rfl, rfl⟩
          case round =>
            obtain ⟨k, hk, rfl, hno⟩ := hrel
            have HN := Lib.hid hno
            clear hno
            by_cases hlt : k < n3
            · obtain ⟨b1, o1, rfl, _, hc1⟩ := (H3.out.below hB2).one hlt
              unfold IntC at hc1
              obtain ⟨x, hx⟩ : ∃ x, x = ids.getD k 0 := ⟨_, rfl⟩
              rw [← hx] at hc1
              have HX := Lib.hid hx
              clear hx
              by_cases h : x < 0
              · go_wp2_with fail
                go_ret
                exact ⟨rfl, hB2⟩
              · by_cases h2 : 255 + (n1 : Int) < x
                · go_wp2_with fail
                  go_ret
                  exact ⟨rfl, hB2⟩
                · go_wp2_with fail
                  go_round
                  case rel => exact ⟨k + 1, by omega, by go_num, by
                    rw [any_take_succ _ _ _ (by rw [HIL.out]; exact hlt), HN.out, ← HX.out, badId, decide_eq_false h, decide_eq_false (by omega)]; rfl⟩
                  case measure => simp [intOf]; omega
            · have h1 := HN.out
              rw [List.take_of_length_le (by rw [HIL.out]; omega), HBAD.out] at h1
              cases h1
        | false =>
          have h := apply_good (l := l) (ids := ids) HER.out.symm (by rw [HIL.out]; exact hbig) (by rw [hl]; exact hbad)
          obtain rfl : eo = 0 := by rw [HEO.out, h]
          have hlm : lo = (mergeAll l ids).length := by rw [HLO.out, h]
          have hap : (apply l ids).1 = mergeAll l ids := by rw [h]
          have HLM := Lib.hid hlm
          have HAP := Lib.hid hap
          have HBAD := Lib.hid hbad
          have hR := rapply_any A1 A2 n1 n3 c1 c3 l ids w2 hl HIL.out hn1 (by omega) ((H1.out.below hB2).more hB2.size) ((H3.out.below hB2).more hB2.size)
          rw [← hlm] at hR
          have HR := Lib.hid hR
          clear h hbad hlm hap hR
          go_wp2_with fail
          go_loop [54] (fun i => ∃ k : Nat, k ≤ n3 ∧ i = .int .i64 k) (fun i => n3 - (intOf i).toNat)
          case atStart => exact ⟨0, by omega, rfl⟩
          case round =>
            obtain ⟨k, hk, rfl⟩ := hrel
            by_cases hlt : k < n3
            · obtain ⟨b1, o1, rfl, _, hc1⟩ := (H3.out.below hB2).one hlt
              unfold IntC at hc1
              obtain ⟨x, hx⟩ : ∃ x, x = ids.getD k 0 := ⟨_, rfl⟩
              have hok : 0 ≤ x ∧ x ≤ 255 + (n1 : Int) := by
                have h := List.any_eq_false.1 HBAD.out x (by rw [hx]; simp [show k < ids.length by rw [HIL.out]; exact hlt])
                rw [badId, Bool.or_eq_true, not_or, decide_eq_true_eq, decide_eq_true_eq] at h
                omega
              rw [← hx] at hc1
              clear hx
              go_wp2_with fail
              go_round
              case rel => exact ⟨k + 1, by omega, by go_num⟩
              case measure => simp [intOf]; omega
            · go_wp2_with fail
              refine HR.out.mono ?_
              rintro e w3 ⟨v3, rfl, hown3, hb3⟩
              obtain ⟨-, A6, c6, rfl, ha6⟩ := own_ints hown3
              have ha5 := (HA5.out.below hb3).more hb3.size
              rw [HAP.out] at ha5
              have HC := Lib.hid (ints_any A4 A6 lo lo c4 c6 w3.heap.size _ _ w3 HLM.out.symm HLM.out.symm (by omega) (by omega) ha5 ha6)
              have hB3 := hB2.trans (hb3.mono hB2.size)
              clear ha5 ha6 hown3
              go_wp2_with fail
              refine HC.out.mono ?_
              rintro e w4 ⟨rfl, q, rfl⟩
              go_wp2_with fail
              go_ret
              exact ⟨ret_bool (by simp), below_drewN hB3 _⟩
    · have h := apply_bad (l := l) (ids := ids) (er := er) HER.out.symm he
      obtain rfl : er = eo := by rw [HEO.out, h]
      obtain rfl : lo = 0 := by rw [HLO.out, h]; rfl
      have hbe : (er != 0) = true := by rw [bne_iff_ne]; exact he
      clear h he
      go_wp2_with fail
      go_ret
      exact ⟨rfl, hB2⟩
end Go.Proofs.Ytlfhiehlokedmaa
