/- The reference's Right of configurations. -/
import Derived.Test.YtfjgfabochiflaaCfg
import Derived.Test.YtfjgfabochiflaaSize
import Derived.Test.YtfjgfabochiflaaHRT
import Derived.Deep.Cut
import Derived.Deep.CutRange
import Derived.Deep.RegionWith
namespace Go.Proofs.Ytfjgfabochiflaa
open Go.RowKit

set_option maxHeartbeats 4000000 in
theorem frame17_any (A : Option Addr) (n c N : Nat) (xs : List Int) (w : World) (hn : n ≤ 140737488355328) (hl : xs.length = n) (h : Arr w w.heap.size 1 A n (T12.NumC .i64 xs)) :
    ∃ b : Bool, (b = true ↔ FrameOk xs N) ∧ Calls Try.prog 41 #[.slice A n c, .int .i64 (N : Int)] w fun e w' => e = .returned (.bool b) ∧ w' = w := by
  classical
  refine ⟨decide (FrameOk xs N), by simp, ?_⟩
  obtain ⟨bq, hbq⟩ : ∃ bq, bq = decide (FrameOk xs N) := ⟨_, rfl⟩
  rw [← hbq]
  have H := Lib.hid h
  have HBQ := Lib.hid hbq
  have HL := Lib.hid hl
  clear h hbq hl
  go_enter Try.func41, Try.ntmps41
  go_wp2
  go_loop [9] (fun i => ∃ k : Nat, k ≤ n ∧ i = .int .i64 k ∧ ¬ T12.AnyOut xs (N : Int) k) (fun i => n - (intOf i).toNat)
  case atStart => exact ⟨0, by omega, rfl, fun ⟨j, hj, _⟩ => absurd hj (by omega)⟩
  case round =>
    obtain ⟨k, hk, rfl, hno⟩ := hrel
    have HNO := Lib.hid hno
    clear hno
    by_cases hlt : k < n
    · obtain ⟨b, o, rfl, _, hc⟩ := H.out.one hlt
      unfold T12.NumC at hc
      obtain ⟨x, hx⟩ : ∃ x, x = xs.getD k 0 := ⟨_, rfl⟩
      rw [← hx] at hc
      have HX := Lib.hid hx
      clear hx
      by_cases h1 : x < 0
      · have d1 : decide (x < 0) = true := by simpa using h1
        have hb : bq = false := by rw [HBQ.out]; exact decide_eq_false (fun h => h.all ⟨k, by rw [HL.out]; exact hlt, .inl (by rw [← HX.out]; omega)⟩)
        subst hb
        go_wp2
        go_returns
        exact ⟨by first | rfl | (simp; done) | (simp; omega), rfl⟩
      · have d1 : decide (x < 0) = false := by simpa using h1
        by_cases h2 : (N : Int) ≤ x
        · have d2 : decide ((N : Int) ≤ x) = true := by simpa using h2
          have hb : bq = false := by rw [HBQ.out]; exact decide_eq_false (fun h => h.all ⟨k, by rw [HL.out]; exact hlt, .inr (by rw [← HX.out]; omega)⟩)
          subst hb
          go_wp2
          go_returns
          exact ⟨by first | rfl | (simp; done) | (simp; omega), rfl⟩
        · have d2 : decide ((N : Int) ≤ x) = false := by simpa using h2
          go_wp2
          go_round
          case rel => exact ⟨k + 1, by omega, by go_num, fun ⟨j, hj, h5⟩ => by
                        by_cases e : j = k
                        · rw [e, ← HX.out] at h5; omega
                        · exact HNO.out ⟨j, by omega, h5⟩⟩
          case measure => simp [intOf]; omega
    · obtain rfl : k = n := by omega
      obtain ⟨d9, hd9⟩ : ∃ d9, d9 = decide ((k : Int) ≤ 32) := ⟨_, rfl⟩
      have hb : bq = d9 := by
        rw [HBQ.out, hd9]
        have h1 := HL.out
        have h2 := HNO.out
        by_cases h3 : k ≤ 32
        · rw [decide_eq_true (show FrameOk xs N from ⟨by omega, by rw [h1]; exact h2⟩)]; simp; omega
        · rw [decide_eq_false (fun h => by have := h.few; omega)]; simp; omega
      subst hb
      have hd8 := hd9.symm
      clear hd9
      go_wp2
      go_returns
      exact ⟨by first | rfl | simp, rfl⟩

set_option maxRecDepth 100000 in
set_option maxHeartbeats 8000000 in
theorem crright_any (c : Cfg) (a : CfgAd) (w : World) (h : CfgIn w c a) :
    Calls Try.prog 13 #[.agg #[.slice a.P a.np a.cp, .int .i64 c.split.kind, .int .u64 c.split.s0, .int .u64 c.split.s1, .int .u64 c.split.s2, .int .u64 c.split.s3, .int .i64 c.split.lo, .int .i64 c.split.hi, .slice a.T a.nt a.ct, .slice a.M a.nm a.cm, .slice a.N a.nn a.cn, .slice a.B a.nb a.cb, .slice a.A a.na a.ca]] w fun e w' => e = .returned (.int .i64 (cfgE c)) ∧ Below w.heap.size w w' := by
  obtain ⟨w1, hw1⟩ : ∃ w1, w1 = w.alloc (.cells #[.slice a.P a.np a.cp, .int .i64 c.split.kind, .int .u64 c.split.s0, .int .u64 c.split.s1, .int .u64 c.split.s2, .int .u64 c.split.s3, .int .i64 c.split.lo, .int .i64 c.split.hi, .slice a.T a.nt a.ct, .slice a.M a.nm a.cm, .slice a.N a.nn a.cn, .slice a.B a.nb a.cb, .slice a.A a.na a.ca] 34) := ⟨_, rfl⟩
  have hb0 : Below w.heap.size w w1 := by rw [hw1]; exact (Below.refl _ _).alloc (Nat.le_refl _) _
  have hgl : w.heap.size < w1.heap.size := by rw [hw1]; simp
  have q0 : w1.cell? ⟨w.heap.size, 0, none⟩ = some (.slice a.P a.np a.cp) := by rw [hw1]; simp
  have q1 : w1.cell? ⟨w.heap.size, 1, none⟩ = some (.int .i64 c.split.kind) := by rw [hw1]; simp
  have q2 : w1.cell? ⟨w.heap.size, 2, none⟩ = some (.int .u64 c.split.s0) := by rw [hw1]; simp
  have q3 : w1.cell? ⟨w.heap.size, 3, none⟩ = some (.int .u64 c.split.s1) := by rw [hw1]; simp
  have q4 : w1.cell? ⟨w.heap.size, 4, none⟩ = some (.int .u64 c.split.s2) := by rw [hw1]; simp
  have q5 : w1.cell? ⟨w.heap.size, 5, none⟩ = some (.int .u64 c.split.s3) := by rw [hw1]; simp
  have q6 : w1.cell? ⟨w.heap.size, 6, none⟩ = some (.int .i64 c.split.lo) := by rw [hw1]; simp
  have q7 : w1.cell? ⟨w.heap.size, 7, none⟩ = some (.int .i64 c.split.hi) := by rw [hw1]; simp
  have q8 : w1.cell? ⟨w.heap.size, 8, none⟩ = some (.slice a.T a.nt a.ct) := by rw [hw1]; simp
  have q9 : w1.cell? ⟨w.heap.size, 9, none⟩ = some (.slice a.M a.nm a.cm) := by rw [hw1]; simp
  have q10 : w1.cell? ⟨w.heap.size, 10, none⟩ = some (.slice a.N a.nn a.cn) := by rw [hw1]; simp
  have q11 : w1.cell? ⟨w.heap.size, 11, none⟩ = some (.slice a.B a.nb a.cb) := by rw [hw1]; simp
  have q12 : w1.cell? ⟨w.heap.size, 12, none⟩ = some (.slice a.A a.na a.ca) := by rw [hw1]; simp
  have HC := Lib.hid (h.keep hb0)
  have HB := Lib.hid hb0
  have GO := Lib.hid (fun (w2 : World) (hb : Below w1.heap.size w1 w2) (j : Nat) (v : Value) (hv : w1.cell? ⟨w.heap.size, j, none⟩ = some v) => (hb.cell (p := ⟨w.heap.size, j, none⟩) hgl).trans hv)
  have hpl := h.plen
  have hple := h.ple
  obtain ⟨res, hres⟩ : ∃ res, res = cfgE c := ⟨_, rfl⟩
  rw [← hres]
  have HR := Lib.hid hres
  clear hres h hb0
  go_enter Try.func13, Try.ntmps13
  go_upto_region 1 with (fail)
  rw [← hw1]
  clear hw1
  by_cases h4 : 4 < a.np
  · have d4 : decide ((4 : Int) < (a.np : Int)) = true := by simp; omega
    obtain rfl : res = 172 := by rw [HR.out]; exact cfgE_few (by omega)
    go_wp2_with fail
    go_returns
    exact ⟨by first | rfl | simp, HB.out⟩
  · have d4 : decide ((4 : Int) < (a.np : Int)) = false := by simp; omega
    go_wp2_with fail
    go_loopw [3, 20] (fun g i wr => ∃ k : Nat, k ≤ a.np ∧ i = .int .i64 k ∧ g = .int .i64 (growP c.passes k : Int) ∧ Below w1.heap.size w1 wr ∧ ∀ j, j < k → T12.rightE (c.passes.getD j []) = 0) (fun _ i _ => a.np - (intOf i).toNat)
    case atStart => exact ⟨0, by omega, rfl, rfl, Below.refl _ _, fun j hj => absurd hj (by omega)⟩
    case round =>
      obtain ⟨k, hk, rfl, rfl, hb, hok⟩ := hrel
      have HBL := Lib.hid hb
      have HOK := Lib.hid hok
      clear hb hok
      by_cases hlt : k < a.np
      · have hc := HC.out.keep HBL.out
        obtain ⟨b, o, hPa, _, hcell⟩ := hc.parr.one hlt
        unfold PassC at hcell
        have hgr := T12.rright_any (a.PA k) (c.passes.getD k []).length (a.pc k) (c.passes.getD k []) wr rfl (hc.prl k hlt) (hc.prow k hlt)
        have hrow := hc.prow k hlt
        obtain ⟨l, hl⟩ : ∃ l, l = c.passes.getD k [] := ⟨_, rfl⟩
        rw [← hl] at hgr hcell hrow
        have hgl1 := growP_four c.passes k (by omega) HOK.out
        obtain ⟨g1, hg1⟩ : ∃ g1, g1 = growP c.passes k := ⟨_, rfl⟩
        rw [← hg1] at hgl1
        rw [← hg1, hPa]
        have HL := Lib.hid hl
        have HGR := Lib.hid hgr
        have HG1 := Lib.hid hg1
        have HROW := Lib.hid hrow
        clear hl hgr hg1 hc hrow
        by_cases he : T12.rightE l = 0
        · have hgn := T12.growN_le (T12.allOk_of he) _ (Nat.le_refl _)
          have HGC := Lib.hid (fun (w' : World) (hb : Below wr.heap.size wr w') => T12.rgrow_ok (a.PA k) l.length (a.pc k) l w' rfl ((HROW.out.below hb).more hb.size) (T12.allOk_of he))
          obtain ⟨gn, hgn2⟩ : ∃ gn, gn = T12.growN l l.length := ⟨_, rfl⟩
          rw [← hgn2] at HGC hgn
          rw [he] at HGR
          have hm1 : (g1 : Int) * (gn : Int) = ((g1 * gn : Nat) : Int) := by simp
          have hm2 : g1 * gn ≤ 1048576 * 32 := Nat.mul_le_mul hgl1 hgn
          obtain ⟨gm, hgm⟩ : ∃ gm, gm = g1 * gn := ⟨_, rfl⟩
          rw [← hgm] at hm1 hm2
          have HGM := Lib.hid hgm
          have HGN := Lib.hid hgn2
          have HE := Lib.hid he
          clear hgm hgn2 he
          go_wp2_with first
            | (go_at_call 36; refine HGR.out.mono ?_; rintro e w3 ⟨rfl, hb3⟩; have HB3 := Lib.hid hb3; clear hb3)
            | (go_at_call 37; refine (HGC.out _ HB3.out).mono ?_; rintro e w4 ⟨rfl, hb4⟩; have HB4 := Lib.hid (HB3.out.trans (hb4.mono HB3.out.size)); clear hb4)
          go_roundw
          case rel =>
            refine ⟨k + 1, by omega, by go_num, ?_, HBL.out.trans (HB4.out.mono HBL.out.size), fun j hj => ?_⟩
            · rw [growP, ← HL.out, ← HG1.out, ← HGN.out, ← HGM.out]
            · by_cases e9 : j = k
              · rw [e9, ← HL.out]; exact HE.out
              · exact HOK.out j (by omega)
          case measure => simp [intOf]; omega
        · have e0 : (T12.rightE l != 0) = true := by simpa using he
          have hbad := cfgE_pass (c := c) (by omega) (by omega : k < c.passes.length) HOK.out (by rw [← HL.out]; exact he)
          rw [← HL.out, ← HR.out] at hbad
          rw [← hbad] at HGR e0
          clear hbad he
          go_wp2_with (go_at_call 36; refine HGR.out.mono ?_; rintro e w3 ⟨rfl, hb3⟩; have HB3 := Lib.hid hb3; clear hb3)
          go_returns
          exact ⟨by first | rfl | simp, HB.out.trans ((HBL.out.trans (HB3.out.mono HBL.out.size)).mono HB.out.size)⟩
      · have hk2 : k = a.np := by omega
        have hgl1 := growP_four c.passes k (by omega) HOK.out
        obtain ⟨g1, hg1⟩ : ∃ g1, g1 = growP c.passes k := ⟨_, rfl⟩
        rw [← hg1] at hgl1
        rw [← hg1]
        have hkl : k = c.passes.length := by omega
        have HOK2 := Lib.hid (show ∀ j, j < c.passes.length → T12.rightE (c.passes.getD j []) = 0 by rw [← hkl]; exact HOK.out)
        have HG1 := Lib.hid (show g1 = growP c.passes c.passes.length by rw [← hkl]; exact hg1)
        have hp4 : c.passes.length ≤ 4 := by omega
        have HP4 := Lib.hid hp4
        clear hg1 hkl HOK
        have HC2 := Lib.hid (HC.out.keep HBL.out)
        have r0 := GO.out _ HBL.out _ _ q0
        have r1 := GO.out _ HBL.out _ _ q1
        have r2 := GO.out _ HBL.out _ _ q2
        have r3 := GO.out _ HBL.out _ _ q3
        have r4 := GO.out _ HBL.out _ _ q4
        have r5 := GO.out _ HBL.out _ _ q5
        have r6 := GO.out _ HBL.out _ _ q6
        have r7 := GO.out _ HBL.out _ _ q7
        have r8 := GO.out _ HBL.out _ _ q8
        by_cases hg : 32 < g1
        · have d1 : decide ((32 : Int) < (g1 : Int)) = true := by simp; omega
          obtain rfl : res = 172 := by rw [HR.out]; exact cfgE_grow hp4 HOK2.out (by rw [← HG1.out]; exact hg)
          clear hp4
          go_wp2_with fail
          go_returns
          exact ⟨by first | rfl | simp, HB.out.trans (HBL.out.mono HB.out.size)⟩
        · have d1 : decide ((32 : Int) < (g1 : Int)) = false := by simp; omega
          have HG2 := Lib.hid (show growP c.passes c.passes.length ≤ 32 by rw [← HG1.out]; omega)
          clear hp4
          obtain ⟨wt, hwt⟩ : ∃ wt, wt = wrongT c.split := ⟨_, rfl⟩
          have HX65 := Lib.hid (rright_any c.split a.T a.nt a.ct wr HC2.out.tree)
          rw [← hwt] at HX65
          have HWT := Lib.hid hwt
          clear hwt
          by_cases hw0 : wt = 0
          · subst hw0
            have hsh := shp_of HWT.out.symm
            obtain ⟨sz, hsz⟩ : ∃ sz : Nat, sz = min c.split.size 1001 := ⟨_, rfl⟩
            have HX66 := Lib.hid (fun (w' : World) (hc : CfgIn w' c a) => show Calls Try.prog 39 #[.agg #[.int .i64 c.split.kind, .int .u64 c.split.s0, .int .u64 c.split.s1, .int .u64 c.split.s2, .int .u64 c.split.s3, .int .i64 c.split.lo, .int .i64 c.split.hi, .slice a.T a.nt a.ct], .int .i64 1001] w' fun e w'' => e = .returned (.int .i64 (sz : Int)) ∧ Below w'.heap.size w' w'' by
              have := size_any c.split 1001 a.T a.nt a.ct w' (by omega) (by omega) hsh hc.tree
              rw [← hsz] at this
              exact this)
            have HSZ := Lib.hid hsz
            clear hsz hsh
            by_cases hs : 1000 < sz
            · have d2 : decide ((1000 : Int) < (sz : Int)) = true := by simp; omega
              obtain rfl : res = 172 := by rw [HR.out]; exact cfgE_size HP4.out HOK2.out HG2.out HWT.out.symm (by have := HSZ.out; omega)
              go_wp2_with first
                | (go_at_call 38; refine HX65.out.mono ?_; rintro e w3 ⟨rfl, hb3⟩; have HB3 := Lib.hid (HBL.out.trans (hb3.mono HBL.out.size)); clear hb3; have t1 := GO.out _ HB3.out _ _ q1; have t2 := GO.out _ HB3.out _ _ q2; have t3 := GO.out _ HB3.out _ _ q3; have t4 := GO.out _ HB3.out _ _ q4; have t5 := GO.out _ HB3.out _ _ q5; have t6 := GO.out _ HB3.out _ _ q6; have t7 := GO.out _ HB3.out _ _ q7; have t8 := GO.out _ HB3.out _ _ q8; have t9 := GO.out _ HB3.out _ _ q9)
                | (go_at_call 39; refine (HX66.out _ (HC.out.keep HB3.out)).mono ?_; rintro e w4 ⟨rfl, hb4⟩; have HB4 := Lib.hid (HB3.out.trans (hb4.mono HB3.out.size)); clear hb4; have y9 := GO.out _ HB4.out _ _ q9)
              go_returns
              exact ⟨by first | rfl | simp, HB.out.trans (HB4.out.mono HB.out.size)⟩
            · have d2 : decide ((1000 : Int) < (sz : Int)) = false := by simp; omega
              obtain ⟨em, hem⟩ : ∃ em, em = (H14.texts c.merges).2 := ⟨_, rfl⟩
              have HX67 := Lib.hid (fun (w' : World) (hc : CfgIn w' c a) => H14.rtexts_any a.M a.nm a.cm c.merges w' hc.mlen hc.mle hc.marr)
              rw [← hem] at HX67
              have HEM := Lib.hid hem
              clear hem
              by_cases hm : em = 0
              · subst hm
                have HF := Lib.hid (show FirstOk c from ⟨HP4.out, HOK2.out, HG2.out, HWT.out.symm, by have := HSZ.out; omega, HEM.out.symm⟩)
                have HBAD := Lib.hid (fun (hn : ¬ RestOk c) => show res = 172 by rw [HR.out]; exact cfgE_rest HF.out hn)
                have HGOOD := Lib.hid (fun (hn : RestOk c) => show res = 0 by rw [HR.out]; exact cfgE_ok HF.out hn)
                have hnl := HC.out.nlen
                have hnle := HC.out.nle
                by_cases hn64 : 64 < a.nn
                · have d3 : decide ((64 : Int) < (a.nn : Int)) = true := by simp; omega
                  obtain rfl : res = 172 := HBAD.out (fun h => by have := h.few; omega)
                  go_wp2_with first
                    | (go_at_call 38; refine HX65.out.mono ?_; rintro e w3 ⟨rfl, hb3⟩; have HB3 := Lib.hid (HBL.out.trans (hb3.mono HBL.out.size)); clear hb3; have t1 := GO.out _ HB3.out _ _ q1; have t2 := GO.out _ HB3.out _ _ q2; have t3 := GO.out _ HB3.out _ _ q3; have t4 := GO.out _ HB3.out _ _ q4; have t5 := GO.out _ HB3.out _ _ q5; have t6 := GO.out _ HB3.out _ _ q6; have t7 := GO.out _ HB3.out _ _ q7; have t8 := GO.out _ HB3.out _ _ q8; have t9 := GO.out _ HB3.out _ _ q9)
                    | (go_at_call 39; refine (HX66.out _ (HC.out.keep HB3.out)).mono ?_; rintro e w4 ⟨rfl, hb4⟩; have HB4 := Lib.hid (HB3.out.trans (hb4.mono HB3.out.size)); clear hb4; have y9 := GO.out _ HB4.out _ _ q9)
                    | (go_at_call 40; refine (HX67.out _ (HC.out.keep HB4.out)).mono ?_; rintro e w5 ⟨tv, rfl, _, hb5⟩; have HB5 := Lib.hid (HB4.out.trans (hb5.mono HB4.out.size)); clear hb5; have z10 := GO.out _ HB5.out _ _ q10)
                  go_returns
                  exact ⟨by first | rfl | simp, HB.out.trans (HB5.out.mono HB.out.size)⟩
                · have d3 : decide ((64 : Int) < (a.nn : Int)) = false := by simp; omega
                  go_wp2_with first
                    | (go_at_call 38; refine HX65.out.mono ?_; rintro e w3 ⟨rfl, hb3⟩; have HB3 := Lib.hid (HBL.out.trans (hb3.mono HBL.out.size)); clear hb3; have t1 := GO.out _ HB3.out _ _ q1; have t2 := GO.out _ HB3.out _ _ q2; have t3 := GO.out _ HB3.out _ _ q3; have t4 := GO.out _ HB3.out _ _ q4; have t5 := GO.out _ HB3.out _ _ q5; have t6 := GO.out _ HB3.out _ _ q6; have t7 := GO.out _ HB3.out _ _ q7; have t8 := GO.out _ HB3.out _ _ q8; have t9 := GO.out _ HB3.out _ _ q9)
                    | (go_at_call 39; refine (HX66.out _ (HC.out.keep HB3.out)).mono ?_; rintro e w4 ⟨rfl, hb4⟩; have HB4 := Lib.hid (HB3.out.trans (hb4.mono HB3.out.size)); clear hb4; have y9 := GO.out _ HB4.out _ _ q9)
                    | (go_at_call 40; refine (HX67.out _ (HC.out.keep HB4.out)).mono ?_; rintro e w5 ⟨tv, rfl, _, hb5⟩; have HB5 := Lib.hid (HB4.out.trans (hb5.mono HB4.out.size)); clear hb5; have z10 := GO.out _ HB5.out _ _ q10)
                  have HN := Lib.hid (HC.out.keep HB5.out)
                  have hcap := HC.out.ncap
                  go_loop [62] (fun i => ∃ k : Nat, k ≤ a.nn ∧ i = .int .i64 k ∧ ∀ j, j < k → NameOk c.names j) (fun i => a.nn - (intOf i).toNat)
                  case atStart => exact ⟨0, by omega, rfl, fun j hj => absurd hj (by omega)⟩
                  case round =>
                    obtain ⟨k, hk, rfl, hno⟩ := hrel
                    have HNO := Lib.hid hno
                    clear hno
                    by_cases hlt : k < a.nn
                    · obtain ⟨b, o, hNa, hblt, hall⟩ := HN.out.narr (by omega)
                      have hcell := hall k 0 hlt (by omega)
                      unfold T12.StrC at hcell
                      simp only [Nat.mul_one, Nat.add_zero] at hcell
                      obtain ⟨x, hx⟩ : ∃ x, x = c.names.getD k ⟨#[]⟩ := ⟨_, rfl⟩
                      rw [← hx] at hcell
                      rw [hNa]
                      rw [hNa] at z10
                      have HALL := Lib.hid hall
                      have HNK := Lib.hid (fun (h1 : 1 ≤ x.size) (h2 : x.size ≤ 32) (h3 : ∀ j, j < k → c.names.getD j ⟨#[]⟩ ≠ x) => show NameOk c.names k from ⟨by rw [← hx]; exact h1, by rw [← hx]; exact h2, by rw [← hx]; exact h3⟩)
                      have HNB := Lib.hid (fun (h : ¬ (1 ≤ x.size ∧ x.size ≤ 32 ∧ ∀ j, j < k → c.names.getD j ⟨#[]⟩ ≠ x)) => HBAD.out (fun hr => h (by
                        have h9 := hr.names k (by omega)
                        exact ⟨by rw [hx]; exact h9.lo, by rw [hx]; exact h9.hi, by rw [hx]; exact h9.new⟩)))
                      clear hx hall
                      by_cases h0 : x.size = 0
                      · have e5 : decide ((x.size : Int) < 1) = true := by simp; omega
                        obtain rfl : res = 172 := HNB.out (by omega)
                        go_wp2_with fail
                        go_returns
                        exact ⟨by first | rfl | simp, HB.out.trans (HB5.out.mono HB.out.size)⟩
                      · have e5 : decide ((x.size : Int) < 1) = false := by simp; omega
                        by_cases h32 : 32 < x.size
                        · have d5 : decide ((32 : Int) < (x.size : Int)) = true := by simp; omega
                          obtain rfl : res = 172 := HNB.out (by omega)
                          go_wp2_with fail
                          go_returns
                          exact ⟨by first | rfl | simp, HB.out.trans (HB5.out.mono HB.out.size)⟩
                        · have d5 : decide ((32 : Int) < (x.size : Int)) = false := by simp; omega
                          go_wp2_with fail
                          go_loop [12] (fun i => ∃ j : Nat, j ≤ k ∧ i = .int .i64 j ∧ ∀ t, t < j → c.names.getD t ⟨#[]⟩ ≠ x) (fun i => k - (intOf i).toNat)
                          case atStart => exact ⟨0, by omega, rfl, fun j hj => absurd hj (by omega)⟩
                          case round =>
                            obtain ⟨j, hj, rfl, hne⟩ := hrel
                            have HNE := Lib.hid hne
                            clear hne
                            by_cases hjk : j < k
                            · have hcj := HALL.out j 0 (by omega) (by omega)
                              unfold T12.StrC at hcj
                              simp only [Nat.mul_one, Nat.add_zero] at hcj
                              have hjn : (j : Int) < (a.nn : Int) := by omega
                              obtain ⟨y, hy⟩ : ∃ y, y = c.names.getD j ⟨#[]⟩ := ⟨_, rfl⟩
                              rw [← hy] at hcj
                              have HY := Lib.hid hy
                              clear hy
                              by_cases hxy : y = x
                              · have e7 := T12.eqB_true hxy
                                have HXY := Lib.hid hxy
                                obtain rfl : res = 172 := HNB.out (fun h => h.2.2 j hjk (by rw [← HY.out]; exact HXY.out))
                                clear hxy
                                go_wp2_with fail
                                go_returns
                                exact ⟨by first | rfl | simp, HB.out.trans (HB5.out.mono HB.out.size)⟩
                              · have e7 := T12.eqB_false hxy
                                have HXY := Lib.hid hxy
                                clear hxy
                                go_wp2_with fail
                                go_round
                                case rel => exact ⟨j + 1, by omega, by go_num, fun t ht => by
                                              by_cases e : t = j
                                              · rw [e, ← HY.out]; exact HXY.out
                                              · exact HNE.out t (by omega)⟩
                                case measure => simp [intOf]; omega
                            · obtain rfl : j = k := by omega
                              go_wp2_with fail
                              go_round
                              case rel => exact ⟨j + 1, by omega, by go_num, fun t ht => by
                                            by_cases e : t = j
                                            · rw [e]; exact HNK.out (by omega) (by omega) HNE.out
                                            · exact HNO.out t (by omega)⟩
                              case measure => simp [intOf]; omega
                    · obtain rfl : k = a.nn := by omega
                      have p11 := GO.out _ HB5.out _ _ q11
                      have p12 := GO.out _ HB5.out _ _ q12
                      obtain ⟨fb, hfb, hcb⟩ := frame17_any a.B a.nb a.cb a.nn c.before w5 HN.out.ble HN.out.blen HN.out.barr
                      obtain ⟨fa, hfa, hca⟩ := frame17_any a.A a.na a.ca a.nn c.after w5 HN.out.ale HN.out.alen HN.out.aarr
                      have HCB := Lib.hid hcb
                      have HCA := Lib.hid hca
                      have HFB := Lib.hid hfb
                      have HFA := Lib.hid hfa
                      clear hcb hca hfb hfa
                      cases fb with
                      | false =>
                        obtain rfl : res = 172 := HBAD.out (fun h => by have := HFB.out.2 (by rw [← HN.out.nlen]; exact h.before); simp at this)
                        go_wp2_with (go_at_call_of 41 (Value.slice a.B a.nb a.cb); refine HCB.out.mono ?_; rintro e w7 ⟨rfl, hw7⟩; rw [hw7]; clear hw7)
                        go_returns
                        exact ⟨by first | rfl | simp, HB.out.trans (HB5.out.mono HB.out.size)⟩
                      | true =>
                        cases fa with
                        | false =>
                          obtain rfl : res = 172 := HBAD.out (fun h => by have := HFA.out.2 (by rw [← HN.out.nlen]; exact h.after); simp at this)
                          go_wp2_with first
                            | (go_at_call_of 41 (Value.slice a.A a.na a.ca); refine HCA.out.mono ?_; rintro e w7 ⟨rfl, hw7⟩; rw [hw7]; clear hw7)
                            | (go_at_call_of 41 (Value.slice a.B a.nb a.cb); refine HCB.out.mono ?_; rintro e w7 ⟨rfl, hw7⟩; rw [hw7]; clear hw7)
                          go_returns
                          exact ⟨by first | rfl | simp, HB.out.trans (HB5.out.mono HB.out.size)⟩
                        | true =>
                          obtain rfl : res = 0 := HGOOD.out ⟨by have := HN.out.nlen; omega, fun i hi => HNO.out i (by have := HN.out.nlen; omega), by have h := HFB.out.1 (by simp); rw [HN.out.nlen]; exact h, by have h := HFA.out.1 (by simp); rw [HN.out.nlen]; exact h⟩
                          go_wp2_with first
                            | (go_at_call_of 41 (Value.slice a.A a.na a.ca); refine HCA.out.mono ?_; rintro e w7 ⟨rfl, hw7⟩; rw [hw7]; clear hw7)
                            | (go_at_call_of 41 (Value.slice a.B a.nb a.cb); refine HCB.out.mono ?_; rintro e w7 ⟨rfl, hw7⟩; rw [hw7]; clear hw7)
                          go_returns
                          exact ⟨by first | rfl | simp, HB.out.trans (HB5.out.mono HB.out.size)⟩
              · have e3 : (em != 0) = true := by simpa using hm
                obtain rfl : res = em := by rw [HR.out, HEM.out]; exact cfgE_merges HP4.out HOK2.out HG2.out HWT.out.symm (by have := HSZ.out; omega) (by rw [← HEM.out]; exact hm)
                go_wp2_with first
                  | (go_at_call 38; refine HX65.out.mono ?_; rintro e w3 ⟨rfl, hb3⟩; have HB3 := Lib.hid (HBL.out.trans (hb3.mono HBL.out.size)); clear hb3; have t1 := GO.out _ HB3.out _ _ q1; have t2 := GO.out _ HB3.out _ _ q2; have t3 := GO.out _ HB3.out _ _ q3; have t4 := GO.out _ HB3.out _ _ q4; have t5 := GO.out _ HB3.out _ _ q5; have t6 := GO.out _ HB3.out _ _ q6; have t7 := GO.out _ HB3.out _ _ q7; have t8 := GO.out _ HB3.out _ _ q8; have t9 := GO.out _ HB3.out _ _ q9)
                  | (go_at_call 39; refine (HX66.out _ (HC.out.keep HB3.out)).mono ?_; rintro e w4 ⟨rfl, hb4⟩; have HB4 := Lib.hid (HB3.out.trans (hb4.mono HB3.out.size)); clear hb4; have y9 := GO.out _ HB4.out _ _ q9)
                  | (go_at_call 40; refine (HX67.out _ (HC.out.keep HB4.out)).mono ?_; rintro e w5 ⟨tv, rfl, _, hb5⟩; have HB5 := Lib.hid (HB4.out.trans (hb5.mono HB4.out.size)); clear hb5; have z10 := GO.out _ HB5.out _ _ q10)
                go_returns
                exact ⟨by first | rfl | simp, HB.out.trans (HB5.out.mono HB.out.size)⟩
          · have e2 : (wt != 0) = true := by simpa using hw0
            obtain rfl : res = wt := by rw [HR.out, HWT.out]; exact cfgE_split HP4.out HOK2.out HG2.out (by rw [← HWT.out]; exact hw0)
            go_wp2_with (go_at_call 38; refine HX65.out.mono ?_; rintro e w3 ⟨rfl, hb3⟩; have HB3 := Lib.hid (HBL.out.trans (hb3.mono HBL.out.size)); clear hb3; have t1 := GO.out _ HB3.out _ _ q1; have t2 := GO.out _ HB3.out _ _ q2; have t3 := GO.out _ HB3.out _ _ q3; have t4 := GO.out _ HB3.out _ _ q4; have t5 := GO.out _ HB3.out _ _ q5; have t6 := GO.out _ HB3.out _ _ q6; have t7 := GO.out _ HB3.out _ _ q7; have t8 := GO.out _ HB3.out _ _ q8; have t9 := GO.out _ HB3.out _ _ q9)
            go_returns
            exact ⟨by first | rfl | simp, HB.out.trans (HB3.out.mono HB.out.size)⟩
end Go.Proofs.Ytfjgfabochiflaa
