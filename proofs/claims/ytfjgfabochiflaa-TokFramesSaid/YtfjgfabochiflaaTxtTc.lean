/- tok.Text. -/
import Derived.Test.YtfjgfabochiflaaCRightTc
import Derived.Test.YtfjgfabochiflaaCfgTc
import Derived.Test.YtfjgfabochiflaaTApplyTc
import Derived.Test.YtfjgfabochiflaaHMTTc
namespace Go.Proofs.Ytfjgfabochiflaa
open Go.RowKit

set_option maxRecDepth 100000 in
set_option maxHeartbeats 8000000 in
theorem text_any (c : Cfg) (a : CfgAd) (I : Option Addr) (n ci : Nat) (ids : List Int) (w : World) (h : CfgIn w c a) (hil : ids.length = n) (hin : n ≤ 140737488355328) (hi : Arr w w.heap.size 1 I n (T12.NumC .i64 ids)) (hsm : n ≤ 3000 ∨ 262144 < n) :
    Calls Try.prog 11 #[.agg #[.slice a.P a.np a.cp, .int .i64 c.split.kind, .int .u64 c.split.s0, .int .u64 c.split.s1, .int .u64 c.split.s2, .int .u64 c.split.s3, .int .i64 c.split.lo, .int .i64 c.split.hi, .slice a.T a.nt a.ct, .slice a.M a.nm a.cm, .slice a.N a.nn a.cn, .slice a.B a.nb a.cb, .slice a.A a.na a.ca], .slice I n ci] w fun e w' => e = .returned (.tuple #[.string (textR c ids).1, .int .i64 (textR c ids).2]) ∧ Below w.heap.size w w' := by
  obtain ⟨w1, hw1⟩ : ∃ w1, w1 = w.alloc (.cells #[.slice a.P a.np a.cp, .int .i64 c.split.kind, .int .u64 c.split.s0, .int .u64 c.split.s1, .int .u64 c.split.s2, .int .u64 c.split.s3, .int .i64 c.split.lo, .int .i64 c.split.hi, .slice a.T a.nt a.ct, .slice a.M a.nm a.cm, .slice a.N a.nn a.cn, .slice a.B a.nb a.cb, .slice a.A a.na a.ca] 34) := ⟨_, rfl⟩
  have hb0 : Below w.heap.size w w1 := by rw [hw1]; exact (Below.refl _ _).alloc (Nat.le_refl _) _
  have hgl : w.heap.size < w1.heap.size := by rw [hw1]; simp
  have q0 : w1.cell? ⟨w.heap.size, 0, none⟩ = some (.slice a.P a.np a.cp) := by rw [hw1]; simp
  have q1 : w1.cell? ⟨w.heap.size, 1, none⟩ = some (.int .i64 c.split.kind) := by rw [hw1]; simp
  have q2 : w1.cell? ⟨w.heap.size, 2, none⟩ = some (.int .u64 c.split.s0) := by rw [hw1]; simp
  have q3 : w1.cell? ⟨w.heap.size, 3, none⟩ = some (.int .u64 c.split.s1) := by rw [hw1]; simp
  have q4 : w1.cell? ⟨w.heap.size, 4, none⟩ = some (.int .u64 c.split.s2) := by rw [hw1]; simp
  have q5 : w1.cell? ⟨w.heap.size, 5, none⟩ = some (.int .u64 c.split.s3) := by rw [hw1]; simp
  have q6 : w1.cell? ⟨w.heap.size, 6, none⟩ = some (.int .i64 c.split.lo) := by rw [hw1]; simp
  have q7 : w1.cell? ⟨w.heap.size, 7, none⟩ = some (.int .i64 c.split.hi) := by rw [hw1]; simp
  have q8 : w1.cell? ⟨w.heap.size, 8, none⟩ = some (.slice a.T a.nt a.ct) := by rw [hw1]; simp
  have q9 : w1.cell? ⟨w.heap.size, 9, none⟩ = some (.slice a.M a.nm a.cm) := by rw [hw1]; simp
  have q10 : w1.cell? ⟨w.heap.size, 10, none⟩ = some (.slice a.N a.nn a.cn) := by rw [hw1]; simp
  have q11 : w1.cell? ⟨w.heap.size, 11, none⟩ = some (.slice a.B a.nb a.cb) := by rw [hw1]; simp
  have q12 : w1.cell? ⟨w.heap.size, 12, none⟩ = some (.slice a.A a.na a.ca) := by rw [hw1]; simp
  have HC := Lib.hid (h.keep hb0)
  have HB := Lib.hid hb0
  have GO := Lib.hid (fun (w2 : World) (hb : Below w1.heap.size w1 w2) (j : Nat) (v : Value) (hv : w1.cell? ⟨w.heap.size, j, none⟩ = some v) => (hb.cell (p := ⟨w.heap.size, j, none⟩) hgl).trans hv)
  have HI := Lib.hid (fun (w2 : World) (hb : Below w1.heap.size w1 w2) => ((hi.below hb0).more hb0.size).below hb |>.more hb.size)
  have HIL := Lib.hid hil
  have hcr := cright_any c a w1 HC.out
  obtain ⟨ce, hce⟩ : ∃ ce, ce = cfgE c := ⟨_, rfl⟩
  rw [← hce] at hcr
  have HCR := Lib.hid hcr
  have HCE := Lib.hid hce
  obtain ⟨tb, htb⟩ : ∃ tb, tb = (textR c ids).1 := ⟨_, rfl⟩
  obtain ⟨te, hte⟩ : ∃ te, te = (textR c ids).2 := ⟨_, rfl⟩
  rw [← htb, ← hte]
  have HT := Lib.hid (show (tb, te) = textR c ids by rw [htb, hte])
  clear hcr hce htb hte h hb0 hi hil
  go_enter Try.func11, Try.ntmps11
  go_upto_region 1 with (fail)
  rw [← hw1]
  clear hw1
  by_cases h0 : ce = 0
  · subst h0
    by_cases hlong : 262144 < n
    · have d1 : decide ((262144 : Int) < (n : Int)) = true := by simp; omega
      have ht := HT.out
      rw [textR_long HCE.out.symm (by rw [HIL.out]; exact hlong)] at ht
      injection ht with h1 h2
      subst h1 h2
      go_wp2_with (go_at_call 31; refine HCR.out.mono ?_; rintro e w2 ⟨rfl, hb2⟩; have HB2 := Lib.hid hb2; clear hb2)
      go_ret2
      exact ⟨by first | rfl | simp, HB.out.trans (HB2.out.mono HB.out.size)⟩
    · have d1 : decide ((262144 : Int) < (n : Int)) = false := by simp; omega
      have hF := (cfgE_zero HCE.out.symm).1
      have hT := texts_len hF.merges
      obtain ⟨T, hTd⟩ : ∃ T, T = (H14.texts c.merges).1 := ⟨_, rfl⟩
      have HM := Lib.hid (fun (w2 : World) (hc : CfgIn w2 c a) => show Calls Try.prog 32 #[.slice a.M a.nm a.cm] w2 fun e w' => ∃ v, e = .returned (.tuple #[v, .int .i64 0]) ∧ w'.ownsRow w2.heap.size 9 1 v T.length (H14.strs T) ∧ Below w2.heap.size w2 w' by
        have := H14.mtexts_any a.M a.nm a.cm c.merges w2 hc.mlen hc.mle hc.marr
        rw [hF.merges, ← hTd] at this
        exact this)
      rw [← hTd] at hT
      have HTT := Lib.hid hT
      have HTD := Lib.hid hTd
      clear hF hT hTd
      go_wp2_with first
        | (go_at_call 31; refine HCR.out.mono ?_; rintro e w2 ⟨rfl, hb2⟩; have HB2 := Lib.hid hb2; have t9 := GO.out _ HB2.out _ _ q9; clear hb2)
        | (go_at_call 32; refine (HM.out _ (HC.out.keep HB2.out)).mono ?_; rintro e w3 ⟨tv, rfl, how3, hb3⟩; have HB3 := Lib.hid (HB2.out.trans (hb3.mono HB2.out.size)); have HO3 := Lib.hid how3; have y10 := GO.out _ HB3.out _ _ q10; clear hb3 how3)
      obtain ⟨g, cap, rfl, hgB, hglt⟩ := HO3.out.form (by have := HTT.out.1; omega)
      have hN1 := HC.out.nlen
      have hN2 := HC.out.mlen
      have hTl := HTT.out.1
      obtain ⟨nT, hnT⟩ : ∃ nT, nT = T.length := ⟨_, rfl⟩
      rw [← hnT] at hTl
      rw [← hnT]
      have HNT := Lib.hid hnT
      clear hnT
      have hnle := HC.out.nle
      have hmle := HC.out.mle
      have hN : (256 + c.merges.length + c.names.length : Nat) = nT + a.nn := by omega
      have HBAD := Lib.hid (fun (hb : ¬ idsOk ids ((nT + a.nn : Nat) : Int)) => show tb = ⟨#[]⟩ ∧ te = 1 by
        have ht := HT.out
        rw [textR_bad HCE.out.symm (by rw [HIL.out]; omega) (by rw [hN]; exact hb)] at ht
        injection ht with h1 h2
        exact ⟨h1, h2⟩)
      have HGOOD := Lib.hid (fun (hb : idsOk ids ((nT + a.nn : Nat) : Int)) => show tb = ⟨(idsText T ids).toArray⟩ ∧ te = 0 by
        have ht := HT.out
        rw [textR_ok HCE.out.symm (by rw [HIL.out]; omega) (by rw [hN]; exact hb), ← HTD.out] at ht
        injection ht with h1 h2
        exact ⟨h1, h2⟩)
      have hTb : nT ≤ 140737488355584 := by omega
      clear hN hN1 hN2 hTl
      obtain ⟨gb, hgb⟩ : ∃ gb, gb = w3.heap.size := ⟨_, rfl⟩
      have hb4 : Below gb w3 (w3.alloc (.cells #[.pointer none, .slice none 0 0] 75)) := by rw [hgb]; exact (Below.refl _ _).alloc (Nat.le_refl _) _
      have hbd : Lib.IsBuilder 75 5 gb gb (Lib.byteCells []) (w3.alloc (.cells #[.pointer none, .slice none 0 0] 75)) := by rw [hgb]; exact T12.fresh_builder w3
      have HW4 := Lib.hid (And.intro hb4 hbd)
      have HG := Lib.hid hgb
      have hgg : g < gb := by omega
      have hgw : w1.heap.size ≤ gb := by rw [hgb]; exact HB3.out.size
      rw [← hgb]
      clear hb4 hbd hgb
      go_loopw [28] (fun i wr => ∃ (k : Nat) (acc : List UInt8), k ≤ n ∧ i = .int .i64 (k : Int) ∧ acc = idsText T (ids.take k) ∧ Lib.IsBuilder 75 5 gb gb (Lib.byteCells acc) wr ∧ Below gb w3 wr ∧ (∀ j, j < k → 0 ≤ ids.getD j 0 ∧ ids.getD j 0 < ((nT + a.nn : Nat) : Int))) (fun i _ => n - (intOf i).toNat)
      case atStart => exact ⟨0, [], by omega, rfl, rfl, HW4.out.2, HW4.out.1, fun j hj => absurd hj (by omega)⟩
      case round =>
        obtain ⟨k, acc, hk, rfl, hacc, hbld, hbw, hok⟩ := hrel
        have HA := Lib.hid hacc
        have HBD := Lib.hid hbld
        have HBW := Lib.hid hbw
        have HOK := Lib.hid hok
        clear hacc hbld hbw hok
        have hb1r := HB3.out.trans (HBW.out.mono hgw)
        have u10 := GO.out _ hb1r _ _ q10
        have HBR := Lib.hid hb1r
        clear hb1r
        by_cases hlt : k < n
        · obtain ⟨b, o, hIa, _, hcell⟩ := (HI.out _ HBR.out).one hlt
          unfold T12.NumC at hcell
          obtain ⟨x, hx⟩ : ∃ x, x = ids.getD k 0 := ⟨_, rfl⟩
          rw [← hx] at hcell
          rw [hIa]
          have hsnoc : idsText T (ids.take (k + 1)) = idsText T (ids.take k) ++ idText T x := by
            rw [take_next ids k 0 (by have := HIL.out; omega), idsText_snoc, hx]
          have HS := Lib.hid hsnoc
          have HX := Lib.hid hx
          clear hx hsnoc
          by_cases hx0 : x < 0
          · have d3 : decide (x < 0) = true := by simpa using hx0
            obtain ⟨rfl, rfl⟩ := HBAD.out (fun hb => by have := (hb k (by rw [HIL.out]; exact hlt)).1; rw [← HX.out] at this; omega)
            go_wp2_with fail
            go_ret2
            exact ⟨by first | rfl | simp, HB.out.trans (HBR.out.mono HB.out.size)⟩
          · have d3 : decide (x < 0) = false := by simpa using hx0
            obtain ⟨xn, rfl⟩ := Int.eq_ofNat_of_zero_le (show 0 ≤ x by omega)
            by_cases hxN : (nT : Int) + (a.nn : Int) ≤ (xn : Int)
            · have d4 : decide ((nT : Int) + (a.nn : Int) ≤ (xn : Int)) = true := by simp; omega
              obtain ⟨rfl, rfl⟩ := HBAD.out (fun hb => by have := (hb k (by rw [HIL.out]; exact hlt)).2; rw [← HX.out] at this; omega)
              go_wp2_with fail
              go_ret2
              exact ⟨by first | rfl | simp, HB.out.trans (HBR.out.mono HB.out.size)⟩
            · have d4 : decide ((nT : Int) + (a.nn : Int) ≤ (xn : Int)) = false := by simp; omega
              have HOK2 := Lib.hid (show ∀ j, j < k + 1 → 0 ≤ ids.getD j 0 ∧ ids.getD j 0 < ((nT + a.nn : Nat) : Int) from fun j hj => by
                by_cases e : j = k
                · rw [e, ← HX.out]; omega
                · exact HOK.out j (by omega))
              by_cases hxT : xn < nT
              · have d5 : decide ((xn : Int) < (nT : Int)) = true := by simp; omega
                obtain ⟨sx, hsx⟩ : ∃ sx : ByteArray, sx = ⟨(T.getD xn []).toArray⟩ := ⟨_, rfl⟩
                have hcx : wr.cell? ⟨g, xn, none⟩ = some (.string sx) := by
                  rw [HBW.out.cell (p := ⟨g, xn, none⟩) hgg, HO3.out.cellAt xn (by have := HNT.out; omega), hsx, H14.strs_get _ _ (by have := HNT.out; omega)]
                have hid : idText T (xn : Int) = T.getD xn [] := by
                  unfold idText
                  rw [if_pos (by have := HNT.out; omega), Int.toNat_natCast]
                have hsz : sx.size = (T.getD xn []).length := by rw [hsx]; simp [ByteArray.size]
                have hs64 := H14.short64_get HTT.out.2 xn
                have hal := idsText_le HTT.out.2 (ids.take k)
                rw [← HA.out, List.length_take] at hal
                have hstr : Lib.strCells sx = Lib.byteCells (T.getD xn []) := by rw [hsx]; exact (by simp [Lib.strCells, Lib.byteCells])
                have HID := Lib.hid hid
                have HST := Lib.hid hstr
                have HSZ := Lib.hid (show acc.length + sx.size ≤ 140737488355328 by omega)
                have HWS := Lib.hid (T12.writeString_any gb gb (Lib.byteCells acc) sx wr HBD.out (by rw [T12.byteCells_length]; exact HSZ.out) (by have := HBW.out.size; have := HG.out; omega))
                clear hid hstr hsx hsz hs64 hal
                go_wp2_with (go_at_call 33; refine HWS.out.mono ?_; rintro e w5 ⟨rfl, hbl5, hb5⟩; have HB5 := Lib.hid hb5; have HL5 := Lib.hid hbl5; clear hb5 hbl5)
                go_roundw
                case rel =>
                  refine ⟨k + 1, acc ++ T.getD xn [], by omega, by go_num, ?_, ?_, HBW.out.trans HB5.out, HOK2.out⟩
                  · rw [HS.out, HA.out, HID.out]
                  · have h9 := HL5.out
                    rw [HST.out, T12.byteCells_append] at h9
                    exact h9
                case measure => simp [intOf]; omega
              · have d5 : decide ((xn : Int) < (nT : Int)) = false := by simp; omega
                go_wp2_with fail
                go_roundw
                case rel =>
                  refine ⟨k + 1, acc, by omega, by go_num, ?_, HBD.out, HBW.out, HOK2.out⟩
                  have hid : idText T (xn : Int) = [] := by
                    unfold idText
                    rw [if_neg (by have := HNT.out; omega)]
                  rw [HS.out, HA.out, hid, List.append_nil]
                case measure => simp [intOf]; omega
        · obtain rfl : k = n := by omega
          have hfin := HA.out
          rw [List.take_of_length_le (by rw [HIL.out]; exact Nat.le_refl _)] at hfin
          obtain ⟨rfl, rfl⟩ := HGOOD.out (fun j hj => HOK.out j (by rw [← HIL.out]; exact hj))
          have HF := Lib.hid hfin
          have HBS := Lib.hid (Try.Builder_String_any gb gb acc wr HBD.out (by have := HBW.out.size; have := HG.out; omega))
          clear hfin
          go_wp2_with (go_at_call 34; refine HBS.out.mono ?_; rintro e w5 ⟨rfl, hb5⟩; have HB5 := Lib.hid hb5; clear hb5)
          go_ret2
          rw [← HF.out]
          exact ⟨by first | rfl | simp, HB.out.trans ((HBR.out.trans (HB5.out.mono hgw)).mono HB.out.size)⟩
  · have e0 : (ce != 0) = true := by simpa using h0
    have ht := HT.out
    rw [textR_cfg (by rw [← HCE.out]; exact h0), ← HCE.out] at ht
    injection ht with h1 h2
    subst h1 h2
    go_wp2_with (go_at_call 31; refine HCR.out.mono ?_; rintro e w2 ⟨rfl, hb2⟩; have HB2 := Lib.hid hb2; clear hb2)
    go_ret2
    exact ⟨by first | rfl | simp, HB.out.trans (HB2.out.mono HB.out.size)⟩
end Go.Proofs.Ytfjgfabochiflaa
