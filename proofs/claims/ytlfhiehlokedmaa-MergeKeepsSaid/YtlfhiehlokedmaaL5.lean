/- MergeKeeps returns true for all merges and ids. -/
import Derived.Test.YtlfhiehlokedmaaKPlain
namespace Go.Proofs.Ytlfhiehlokedmaa
open Go.RowKit

theorem own_txts {w : World} {base : Nat} {v : Value} {n : Nat} {xs : List Txt} {e : TypeId} (h : w.ownsRow base e 1 v n (strs xs)) : xs.length = n ∧ ∃ A c, v = .slice A n c ∧ Arr w w.heap.size 1 A n (StrC xs) := by
  have hl : xs.length = n := by have := h.1; simpa [strs] using this
  obtain ⟨A, c, rfl⟩ := own_form h
  refine ⟨hl, A, c, rfl, fun hn => ?_⟩
  obtain ⟨b, off, hA, hb, hc⟩ := Arr.of_own h hn
  refine ⟨b, off, hA, hb, fun k j hk hj => ?_⟩
  rw [hc k j hk hj, StrC]
  dsimp only
  rw [List.getD, strs_get _ _ (by omega)]
  rfl

set_option maxRecDepth 100000 in
set_option maxHeartbeats 4000000 in
theorem law_keeps (A1 A2 : Option Addr) (n1 n2 c1 c2 : Nat) (l : List (Int × Int)) (ids0 : List Int) (w : World) (hl : l.length = n1) (hi0 : ids0.length = n2) (hn1 : n1 ≤ 140737488355328) (hn2 : n2 ≤ 17592186044416) (hc2 : n2 ≤ c2)
    (h1 : Arr w w.heap.size 2 A1 n1 (PairC l)) (h2 : Arr w w.heap.size 1 A2 n2 (IntC ids0)) :
    Calls Try.prog 5 #[.slice A1 n1 c1, .slice A2 n2 c2] w fun e w' => e = .returned (.bool true) ∧ Below w.heap.size w w' := by
  obtain ⟨n3, hn3⟩ : ∃ n3, n3 = min n2 60 := ⟨_, rfl⟩
  have hS := short_any A2 n2 c2 w hc2 (by omega)
  rw [← hn3] at hS
  have HS := Lib.hid hS
  obtain ⟨ids, hids⟩ : ∃ ids, ids = ids0.take n3 := ⟨_, rfl⟩
  have hi : ids.length = n3 := by rw [hids, List.length_take, hi0]; omega
  have h3 := arr_take h2 (show n3 ≤ n2 by omega)
  rw [← hids] at h3
  have h36 : n3 ≤ 60 := by omega
  have H1 := Lib.hid h1
  have H3 := Lib.hid h3
  have HIL := Lib.hid hi
  obtain ⟨er, her⟩ : ∃ er, er = (texts l).2 := ⟨_, rfl⟩
  have HER := Lib.hid her
  obtain ⟨T, hT⟩ : ∃ T, T = (texts l).1 := ⟨_, rfl⟩
  have HT := Lib.hid hT
  obtain ⟨nT, hnT⟩ : ∃ nT, nT = T.length := ⟨_, rfl⟩
  have HNT := Lib.hid hnT
  obtain ⟨eo, heo⟩ : ∃ eo, eo = (apply l ids).2 := ⟨_, rfl⟩
  have HEO := Lib.hid heo
  obtain ⟨got, hgot⟩ : ∃ got, got = (apply l ids).1 := ⟨_, rfl⟩
  have HG := Lib.hid hgot
  obtain ⟨lo, hlo⟩ : ∃ lo, lo = got.length := ⟨_, rfl⟩
  have HLO := Lib.hid hlo
  have hM := mtexts_any A1 n1 c1 l w hl hn1 h1
  rw [← her, ← hT, ← hnT] at hM
  have HM := Lib.hid hM
  clear hS hids hi h1 h2 h3 hi0 hn3 hM her hT hnT heo hgot hlo
  go_enter Try.func5, Try.ntmps5
  go_wp2_with fail
  refine HS.out.mono ?_
  rintro e w' ⟨rfl, rfl⟩
  obtain ⟨w, rfl⟩ : ∃ w : World, w = w' := ⟨_, rfl⟩
  go_wp2_with fail
  refine HM.out.mono ?_
  rintro e w1 ⟨v, rfl, hown1, hb1⟩
  obtain ⟨-, AT, cT, rfl, haT⟩ := own_txts hown1
  have HAT := Lib.hid haT
  have hA := apply_any A1 A2 n1 n3 c1 c2 l ids w1 hl HIL.out hn1 (by omega) ((H1.out.below hb1).more hb1.size) ((H3.out.below hb1).more hb1.size)
  rw [← HEO.out, ← HG.out, ← HLO.out] at hA
  have HA := Lib.hid hA
  clear hA haT hown1 HM HS
  go_wp2_with fail
  refine HA.out.mono ?_
  rintro e w2 ⟨v, rfl, hown2, hb2⟩
  obtain ⟨-, A4, c4, rfl, ha4⟩ := own_ints hown2
  have hB2 := hb1.trans (hb2.mono hb1.size)
  have HA4 := Lib.hid ha4
  have HAT2 := Lib.hid ((HAT.out.below hb2).more hb2.size)
  clear hown2 HA HAT ha4
  by_cases he : er = 0
  · subst he
    by_cases heo : eo = 0
    · subst heo
      obtain ⟨k1, k2, k3, k4, k5, k6, k7⟩ := keeps (l := l) (ids := ids) HER.out.symm HEO.out.symm (by rw [HIL.out]; exact h36)
      obtain ⟨-, hsh, -⟩ := texts_keep (l := l) HER.out.symm
      rw [← HG.out] at k1 k2 k4 k6 k7
      rw [← HT.out] at k3 k7 hsh
      have hA := apply_any A1 A4 n1 lo c1 c4 l got w2 hl HLO.out.symm hn1 (by rw [HLO.out]; have := HIL.out; omega) ((H1.out.below hB2).more hB2.size) HA4.out
      rw [k1] at hA
      dsimp only at hA
      rw [← HLO.out] at hA
      have HA := Lib.hid hA
      have hlo3 : lo ≤ n3 := by rw [HLO.out, ← HIL.out]; exact k2
      have hnt : nT = 256 + n1 := by rw [HNT.out, k3, hl]
      have K4 := Lib.hid k4
      have K5 := Lib.hid k5
      have K6 := Lib.hid k6
      have K7 := Lib.hid k7
      have HSH := Lib.hid hsh
      have hb8 : ((nT : Int) != 256 + (n1 : Int)) = false := by rw [bne_eq_false_iff_eq]; omega
      have hnt2 : (nT : Int) ≤ 256 + (n1 : Int) ∧ 256 + (n1 : Int) ≤ (nT : Int) := by omega
      have hd54 : decide (n3 < lo) = false := by simp; omega
      clear k1 k2 k3 k4 k5 k6 k7 hsh hA hnt
      go_wp2_with fail
      refine HA.out.mono ?_
      rintro e w3 ⟨v, rfl, hown3, hb3⟩
      obtain ⟨-, A5, c5, rfl, ha5⟩ := own_ints hown3
      have hB3 := hB2.trans (hb3.mono hB2.size)
      have ha4 := (HA4.out.below hb3).more hb3.size
      have HA43 := Lib.hid ha4
      have hC := ints_any A4 A5 lo lo c4 c5 w3.heap.size got got w3 HLO.out.symm HLO.out.symm (by omega) (by omega) ha4 ha5
      rw [decide_eq_true rfl] at hC
      have HC := Lib.hid hC
      have HAT3 := Lib.hid ((HAT2.out.below hb3).more hb3.size)
      clear ha4 ha5 hC hown3 HA
      go_wp2_with fail
      refine HC.out.mono ?_
      rintro e w4 ⟨rfl, q, rfl⟩
      have hB4 := below_drewN hB3 q
      go_wp2_with fail
      clear hb8 hd54
      go_loopw [66] (fun i wr => ∃ k : Nat, k ≤ lo ∧ i = .int .i64 k ∧ Below w3.heap.size w3 wr) (fun i _ => lo - (intOf i).toNat)
      case atStart => exact ⟨0, by omega, rfl, below_drewN (Below.refl _ _) q⟩
      case round =>
        obtain ⟨k, hk, rfl, hbw⟩ := hrel
        have hsw := hbw.size
        by_cases hlt : k < lo
        · obtain ⟨b, o, rfl, hbl, hc0⟩ := (HA43.out.below hbw).one hlt
          unfold IntC at hc0
          obtain ⟨x, hx⟩ : ∃ x, x = got.getD k 0 := ⟨_, rfl⟩
          have hxb := K4.out k (by rw [← HLO.out]; exact hlt)
          rw [← hx, hl] at hxb
          rw [← hx] at hc0
          have HX := Lib.hid hx
          obtain ⟨hx0, hx1⟩ := hxb
          have hx2 : x < (nT : Int) := by omega
          clear hx
          by_cases hk0 : k = 0
          · have hkz : (k : Int) ≤ 0 := by omega
            clear hk0
            go_wp2_with fail
            go_roundw
            case rel => exact ⟨k + 1, by omega, by go_num, hbw⟩
            case measure => simp [intOf]; omega
          · obtain ⟨b', o', he', hbl', hc1⟩ := (HA43.out.below hbw).one (k := k - 1) (by omega)
            obtain ⟨rfl, rfl⟩ : b = b' ∧ o = o' := by simpa using he'
            unfold IntC at hc1
            obtain ⟨y, hy⟩ : ∃ y, y = got.getD (k - 1) 0 := ⟨_, rfl⟩
            rw [← hy] at hc1
            have hr := K6.out (k - 1) (by rw [← HLO.out]; omega)
            rw [← hy, show k - 1 + 1 = k by omega, ← HX.out] at hr
            have hR := rank_any A1 n1 c1 l y x wr hl hn1 ((H1.out.below (hB3.trans (hbw.mono hB3.size))).more (Nat.le_trans hB3.size hsw))
            rw [hr] at hR
            have HR := Lib.hid hR
            have hkz : (0 : Int) < (k : Int) := by omega
            have z1 : IntKind.i64.wrap ((k : Int) - 1) = (k : Int) - 1 := IntWalk.i64_in _ (by omega)
            have z2 : (0 : Int) ≤ (k : Int) - 1 := by omega
            have z3 : (k : Int) - 1 < (lo : Int) := by omega
            have z4 : ((k : Int) - 1).toNat = k - 1 := by omega
            clear he' hy hr hR hk0
            go_wp2_with fail
            refine HR.out.mono ?_
            rintro e w5 ⟨rfl, hb5⟩
            have hbw5 := hbw.trans (hb5.mono hsw)
            clear hc0 hc1 z1 z2 z3 z4 HR
            go_wp2_with fail
            go_roundw
            case rel => exact ⟨k + 1, by omega, by go_num, hbw5⟩
            case measure => simp [intOf]; omega
        · have hbB := hB3.trans (hbw.mono hB3.size)
          have hJ1 := join_any AT A4 nT lo cT c4 T got wr HLO.out.symm (by omega) HSH.out (fun i hi => by have := K4.out i hi; rw [hl] at this; omega) ((HAT3.out.below hbw).more hsw) ((HA43.out.below hbw).more hsw)
          rw [K7.out] at hJ1
          obtain ⟨J, hJ⟩ : ∃ J : ByteArray, J = ⟨(joinT T ids).toArray⟩ := ⟨_, rfl⟩
          rw [← hJ] at hJ1
          have HJ := Lib.hid hJ
          have HJ1 := Lib.hid hJ1
          clear hJ hJ1
          go_wp2_with fail
          refine HJ1.out.mono ?_
          rintro e w5 ⟨rfl, hb5⟩
          have hbw5 := hbw.trans (hb5.mono hsw)
          have hB5 := hB3.trans (hbw5.mono hB3.size)
          have hJ2 := join_any AT A2 nT n3 cT c2 T ids w5 HIL.out (by omega) HSH.out (fun i hi => by have := K5.out i hi; rw [hl] at this; omega) ((HAT3.out.below hbw5).more hbw5.size) ((H3.out.below hB5).more hB5.size)
          rw [← HJ.out] at hJ2
          have HJ2 := Lib.hid hJ2
          clear hJ2 hbB
          go_wp2_with fail
          refine HJ2.out.mono ?_
          rintro e w6 ⟨rfl, hb6⟩
          go_wp2_with fail
          go_ret
          exact ⟨ret_bool (by simp), hB5.trans (hb6.mono hB5.size)⟩
    · have hno := apply_none (l := l) (ids := ids) (.inr (by rw [← HEO.out]; exact heo))
      obtain rfl : lo = 0 := by rw [HLO.out, HG.out, hno]; rfl
      have hbe : (eo != 0) = true := by rw [bne_iff_ne]; exact heo
      clear hno heo
      go_wp2_with fail
      go_ret
      exact ⟨rfl, hB2⟩
  · have hno := apply_none (l := l) (ids := ids) (.inl (by rw [← HER.out]; exact he))
    obtain rfl : lo = 0 := by rw [HLO.out, HG.out, hno]; rfl
    have hbe : (er != 0) = true := by rw [bne_iff_ne]; exact he
    clear hno he
    go_wp2_with fail
    go_ret
    exact ⟨rfl, hB2⟩
end Go.Proofs.Ytlfhiehlokedmaa
