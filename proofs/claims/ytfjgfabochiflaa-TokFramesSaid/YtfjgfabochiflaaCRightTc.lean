/- config.Right. -/
import Derived.Test.YtfjgfabochiflaaCfgTc
import Derived.Test.YtfjgfabochiflaaShelf
import Derived.Deep.Cut
import Derived.Deep.CutRange
namespace Go.Proofs.Ytfjgfabochiflaa
open Go.RowKit

set_option maxHeartbeats 4000000 in
theorem idx70 (A : Option Addr) (n c p : Nat) (xs : List Int) (A3 : Option Addr) (n3 c3 : Nat) (w : World) (hn : n ≤ 140737488355328) (h : Arr w w.heap.size 1 A n (T12.NumC .i64 xs)) (hp : w.cell? ⟨p, 10, none⟩ = some (.slice A3 n3 c3)) :
    Calls Try.prog 69 #[.slice A n c, .func (.func 70) #[] #[.pointer (some ⟨p, 0, none⟩)]] w fun e w' => e = .returned (.bool (T12.anyB xs (n3 : Int) n)) ∧ w' = w := by
  have H := Lib.hid h
  clear h
  obtain ⟨bq, hbq⟩ : ∃ bq, bq = T12.anyB xs (n3 : Int) n := ⟨_, rfl⟩
  rw [← hbq]
  have HBQ := Lib.hid hbq
  clear hbq
  go_enter Try.func69, Try.ntmps69
  go_wp2
  go_loop [8] (fun i => ∃ k : Nat, k ≤ n ∧ i = .int .i64 k ∧ ¬ T12.AnyOut xs (n3 : Int) k) (fun i => n - (intOf i).toNat)
  case atStart => exact ⟨0, by omega, rfl, fun ⟨j, hj, _⟩ => absurd hj (by omega)⟩
  case round =>
    obtain ⟨k, hk, rfl, hno⟩ := hrel
    have HNO := Lib.hid hno
    clear hno
    by_cases hlt : k < n
    · obtain ⟨b, o, rfl, _, hc⟩ := H.out.one hlt
      unfold T12.NumC at hc
      obtain ⟨x, hx⟩ : ∃ x, x = xs.getD k 0 := ⟨_, rfl⟩
      rw [← hx] at hc
      have HX := Lib.hid hx
      clear hx
      by_cases h1 : x < 0
      · have d1 : decide (x < 0) = true := by simpa using h1
        have hb : bq = true := by rw [HBQ.out]; exact T12.anyB_yes ⟨k, by omega, .inl (by rw [← HX.out]; omega)⟩
        subst hb
        go_wp2
        go_returns
        exact ⟨by first | rfl | (simp; done) | (simp; omega), rfl⟩
      · have d1 : decide (x < 0) = false := by simpa using h1
        by_cases h2 : (n3 : Int) ≤ x
        · have d2 : decide ((n3 : Int) ≤ x) = true := by simpa using h2
          have hb : bq = true := by rw [HBQ.out]; exact T12.anyB_yes ⟨k, by omega, .inr (by rw [← HX.out]; omega)⟩
          subst hb
          go_wp2
          go_returns
          exact ⟨by first | rfl | (simp; done) | (simp; omega), rfl⟩
        · have d2 : decide ((n3 : Int) ≤ x) = false := by simpa using h2
          go_wp2
          go_round
          case rel => exact ⟨k + 1, by omega, by go_num, fun ⟨j, hj, h5⟩ => by
                        by_cases e : j = k
                        · rw [e, ← HX.out] at h5; omega
                        · exact HNO.out ⟨j, by omega, h5⟩⟩
          case measure => simp [intOf]; omega
    · obtain rfl : k = n := by omega
      have hb : bq = false := by rw [HBQ.out]; exact T12.anyB_no HNO.out
      subst hb
      go_wp2
      go_returns
      exact ⟨by first | rfl | simp, rfl⟩

set_option maxRecDepth 100000 in
set_option maxHeartbeats 8000000 in
theorem cright_any (c : Cfg) (a : CfgAd) (w : World) (h : CfgIn w c a) :
    Calls Try.prog 31 #[.agg #[.slice a.P a.np a.cp, .int .i64 c.split.kind, .int .u64 c.split.s0, .int .u64 c.split.s1, .int .u64 c.split.s2, .int .u64 c.split.s3, .int .i64 c.split.lo, .int .i64 c.split.hi, .slice a.T a.nt a.ct, .slice a.M a.nm a.cm, .slice a.N a.nn a.cn, .slice a.B a.nb a.cb, .slice a.A a.na a.ca]] w fun e w' => e = .returned (.int .i64 (cfgE c)) ∧ Below w.heap.size w w' := by
  obtain ⟨w1, hw1⟩ : ∃ w1, w1 = w.alloc (.cells #[.slice a.P a.np a.cp, .int .i64 c.split.kind, .int .u64 c.split.s0, .int .u64 c.split.s1, .int .u64 c.split.s2, .int .u64 c.split.s3, .int .i64 c.split.lo, .int .i64 c.split.hi, .slice a.T a.nt a.ct, .slice a.M a.nm a.cm, .slice a.N a.nn a.cn, .slice a.B a.nb a.cb, .slice a.A a.na a.ca] 34) := ⟨_, rfl⟩
  have hb0 : Below w.heap.size w w1 := by rw [hw1]; exact (Below.refl _ _).alloc (Nat.le_refl _) _
  have hgl : w.heap.size < w1.heap.size := by rw [hw1]; simp
  have q0 : w1.cell? ⟨w.heap.size, 0, none⟩ = some (.slice a.P a.np a.cp) := by rw [hw1]; simp
  have q1 : w1.cell? ⟨w.heap.size, 1, none⟩ = some (.int .i64 c.split.kind) := by rw [hw1]; simp
  have q2 : w1.cell? ⟨w.heap.size, 2, none⟩ = some (.int .u64 c.split.s0) := by rw [hw1]; simp
  have q3 : w1.cell? ⟨w.heap.size, 3, none⟩ = some (.int .u64 c.split.s1) := by rw [hw1]; simp
  have q4 : w1.cell? ⟨w.heap.size, 4, none⟩ = some (.int .u64 c.split.s2) := by rw [hw1]; simp
  have q5 : w1.cell? ⟨w.heap.size, 5, none⟩ = some (.int .u64 c.split.s3) := by rw [hw1]; simp
  have q6 : w1.cell? ⟨w.heap.size, 6, none⟩ = some (.int .i64 c.split.lo) := by rw [hw1]; simp
  have q7 : w1.cell? ⟨w.heap.size, 7, none⟩ = some (.int .i64 c.split.hi) := by rw [hw1]; simp
  have q8 : w1.cell? ⟨w.heap.size, 8, none⟩ = some (.slice a.T a.nt a.ct) := by rw [hw1]; simp
  have q9 : w1.cell? ⟨w.heap.size, 9, none⟩ = some (.slice a.M a.nm a.cm) := by rw [hw1]; simp
  have q10 : w1.cell? ⟨w.heap.size, 10, none⟩ = some (.slice a.N a.nn a.cn) := by rw [hw1]; simp
  have q11 : w1.cell? ⟨w.heap.size, 11, none⟩ = some (.slice a.B a.nb a.cb) := by rw [hw1]; simp
  have q12 : w1.cell? ⟨w.heap.size, 12, none⟩ = some (.slice a.A a.na a.ca) := by rw [hw1]; simp
  have HC := Lib.hid (h.keep hb0)
  have HB := Lib.hid hb0
  have GO := Lib.hid (fun (w2 : World) (hb : Below w1.heap.size w1 w2) (j : Nat) (v : Value) (hv : w1.cell? ⟨w.heap.size, j, none⟩ = some v) => (hb.cell (p := ⟨w.heap.size, j, none⟩) hgl).trans hv)
  have hpl := h.plen
  have hple := h.ple
  obtain ⟨res, hres⟩ : ∃ res, res = cfgE c := ⟨_, rfl⟩
  rw [← hres]
  have HR := Lib.hid hres
  clear hres h hb0
  go_enter Try.func31, Try.ntmps31
  go_upto_region 1 with (fail)
  rw [← hw1]
  clear hw1
  by_cases h4 : 4 < a.np
  · have d4 : decide ((4 : Int) < (a.np : Int)) = true := by simp; omega
    obtain rfl : res = 172 := by rw [HR.out]; exact cfgE_few (by omega)
    go_wp2_with fail
    go_returns
    exact ⟨by first | rfl | simp, HB.out⟩
  · have d4 : decide ((4 : Int) < (a.np : Int)) = false := by simp; omega
    go_wp2_with fail
    go_loopw [3, 21] (fun g i wr => ∃ k : Nat, k ≤ a.np ∧ i = .int .i64 k ∧ g = .int .i64 (growP c.passes k : Int) ∧ Below w1.heap.size w1 wr ∧ ∀ j, j < k → T12.rightE (c.passes.getD j []) = 0) (fun _ i _ => a.np - (intOf i).toNat)
    case atStart => exact ⟨0, by omega, rfl, rfl, Below.refl _ _, fun j hj => absurd hj (by omega)⟩
    case round =>
      obtain ⟨k, hk, rfl, rfl, hb, hok⟩ := hrel
      have HBL := Lib.hid hb
      have HOK := Lib.hid hok
      clear hb hok
      by_cases hlt : k < a.np
      · have hc := HC.out.keep HBL.out
        obtain ⟨b, o, hPa, _, hcell⟩ := hc.parr.one hlt
        unfold PassC at hcell
        have hgr := grow_any (a.PA k) (c.passes.getD k []).length (a.pc k) (c.passes.getD k []) wr rfl (hc.prl k hlt) (hc.prow k hlt) (fun j hj => (hc.psz k hlt j hj).1)
        obtain ⟨l, hl⟩ : ∃ l, l = c.passes.getD k [] := ⟨_, rfl⟩
        rw [← hl] at hgr hcell
        have hgl1 := growP_four c.passes k (by omega) HOK.out
        obtain ⟨g1, hg1⟩ : ∃ g1, g1 = growP c.passes k := ⟨_, rfl⟩
        rw [← hg1] at hgl1
        rw [← hg1, hPa]
        have HL := Lib.hid hl
        have HGR := Lib.hid hgr
        have HG1 := Lib.hid hg1
        clear hl hgr hg1 hc
        by_cases he : T12.rightE l = 0
        · have hgn := T12.growN_le (T12.allOk_of he) _ (Nat.le_refl _)
          obtain ⟨gn, hgn2⟩ : ∃ gn, gn = T12.growN l l.length := ⟨_, rfl⟩
          have HGC := Lib.hid (HGR.out.2 he)
          rw [← hgn2] at HGC hgn
          have hm1 : (g1 : Int) * (gn : Int) = ((g1 * gn : Nat) : Int) := by simp
          have hm2 : g1 * gn ≤ 1048576 * 32 := Nat.mul_le_mul hgl1 hgn
          obtain ⟨gm, hgm⟩ : ∃ gm, gm = g1 * gn := ⟨_, rfl⟩
          rw [← hgm] at hm1 hm2
          have HGM := Lib.hid hgm
          have HGN := Lib.hid hgn2
          have HE := Lib.hid he
          clear hgm hgn2 he
          go_wp2_with (go_at_call 64; refine HGC.out.mono ?_; rintro e w3 ⟨rfl, hb3⟩; have HB3 := Lib.hid hb3; clear hb3)
          go_roundw
          case rel =>
            refine ⟨k + 1, by omega, by go_num, ?_, HBL.out.trans (HB3.out.mono HBL.out.size), fun j hj => ?_⟩
            · rw [growP, ← HL.out, ← HG1.out, ← HGN.out, ← HGM.out]
            · by_cases e9 : j = k
              · rw [e9, ← HL.out]; exact HE.out
              · exact HOK.out j (by omega)
          case measure => simp [intOf]; omega
        · have e0 : (T12.rightE l != 0) = true := by simpa using he
          have hbad := cfgE_pass (c := c) (by omega) (by omega : k < c.passes.length) HOK.out (by rw [← HL.out]; exact he)
          rw [← HL.out, ← HR.out] at hbad
          have HGC := Lib.hid (HGR.out.1 he)
          rw [← hbad] at HGC e0
          clear hbad he
          go_wp2_with (go_at_call 64; refine HGC.out.mono ?_; rintro e w3 ⟨rfl, hb3⟩; have HB3 := Lib.hid hb3; clear hb3)
          go_returns
          exact ⟨by first | rfl | simp, HB.out.trans ((HBL.out.trans (HB3.out.mono HBL.out.size)).mono HB.out.size)⟩
      · have hk2 : k = a.np := by omega
        have hgl1 := growP_four c.passes k (by omega) HOK.out
        obtain ⟨g1, hg1⟩ : ∃ g1, g1 = growP c.passes k := ⟨_, rfl⟩
        rw [← hg1] at hgl1
        rw [← hg1]
        have hkl : k = c.passes.length := by omega
        have HOK2 := Lib.hid (show ∀ j, j < c.passes.length → T12.rightE (c.passes.getD j []) = 0 by rw [← hkl]; exact HOK.out)
        have HG1 := Lib.hid (show g1 = growP c.passes c.passes.length by rw [← hkl]; exact hg1)
        have hp4 : c.passes.length ≤ 4 := by omega
        have HP4 := Lib.hid hp4
        clear hg1 hkl HOK
        have HC2 := Lib.hid (HC.out.keep HBL.out)
        have r0 := GO.out _ HBL.out _ _ q0
        have r1 := GO.out _ HBL.out _ _ q1
        have r2 := GO.out _ HBL.out _ _ q2
        have r3 := GO.out _ HBL.out _ _ q3
        have r4 := GO.out _ HBL.out _ _ q4
        have r5 := GO.out _ HBL.out _ _ q5
        have r6 := GO.out _ HBL.out _ _ q6
        have r7 := GO.out _ HBL.out _ _ q7
        have r8 := GO.out _ HBL.out _ _ q8
        by_cases hg : 32 < g1
        · have d1 : decide ((32 : Int) < (g1 : Int)) = true := by simp; omega
          obtain rfl : res = 172 := by rw [HR.out]; exact cfgE_grow hp4 HOK2.out (by rw [← HG1.out]; exact hg)
          clear hp4
          go_wp2_with fail
          go_returns
          exact ⟨by first | rfl | simp, HB.out.trans (HBL.out.mono HB.out.size)⟩
        · have d1 : decide ((32 : Int) < (g1 : Int)) = false := by simp; omega
          have HG2 := Lib.hid (show growP c.passes c.passes.length ≤ 32 by rw [← HG1.out]; omega)
          clear hp4
          obtain ⟨wt, hwt⟩ : ∃ wt, wt = wrongT c.split := ⟨_, rfl⟩
          have HX65 := Lib.hid (xright_any c.split a.T a.nt a.ct wr HC2.out.tree)
          rw [← hwt] at HX65
          have HWT := Lib.hid hwt
          clear hwt
          by_cases hw0 : wt = 0
          · subst hw0
            have hsh := shp_of HWT.out.symm
            obtain ⟨sz, hsz⟩ : ∃ sz : Nat, sz = min c.split.size 1001 := ⟨_, rfl⟩
            have HX66 := Lib.hid (fun (w' : World) (hc : CfgIn w' c a) => show Calls Try.prog 66 #[.agg #[.int .i64 c.split.kind, .int .u64 c.split.s0, .int .u64 c.split.s1, .int .u64 c.split.s2, .int .u64 c.split.s3, .int .i64 c.split.lo, .int .i64 c.split.hi, .slice a.T a.nt a.ct], .int .i64 1001] w' fun e w'' => e = .returned (.int .i64 (sz : Int)) ∧ Below w'.heap.size w' w'' by
              have := csize_any c.split 1001 a.T a.nt a.ct w' (by omega) (by omega) hsh hc.tree
              rw [← hsz] at this
              exact this)
            have HSZ := Lib.hid hsz
            clear hsz hsh
            by_cases hs : 1000 < sz
            · have d2 : decide ((1000 : Int) < (sz : Int)) = true := by simp; omega
              obtain rfl : res = 172 := by rw [HR.out]; exact cfgE_size HP4.out HOK2.out HG2.out HWT.out.symm (by have := HSZ.out; omega)
              go_wp2_with first
                | (go_at_call 65; refine HX65.out.mono ?_; rintro e w3 ⟨rfl, hb3⟩; have HB3 := Lib.hid (HBL.out.trans (hb3.mono HBL.out.size)); clear hb3; have t1 := GO.out _ HB3.out _ _ q1; have t2 := GO.out _ HB3.out _ _ q2; have t3 := GO.out _ HB3.out _ _ q3; have t4 := GO.out _ HB3.out _ _ q4; have t5 := GO.out _ HB3.out _ _ q5; have t6 := GO.out _ HB3.out _ _ q6; have t7 := GO.out _ HB3.out _ _ q7; have t8 := GO.out _ HB3.out _ _ q8; have t9 := GO.out _ HB3.out _ _ q9)
                | (go_at_call 66; refine (HX66.out _ (HC.out.keep HB3.out)).mono ?_; rintro e w4 ⟨rfl, hb4⟩; have HB4 := Lib.hid (HB3.out.trans (hb4.mono HB3.out.size)); clear hb4; have y9 := GO.out _ HB4.out _ _ q9)
              go_returns
              exact ⟨by first | rfl | simp, HB.out.trans (HB4.out.mono HB.out.size)⟩
            · have d2 : decide ((1000 : Int) < (sz : Int)) = false := by simp; omega
              obtain ⟨em, hem⟩ : ∃ em, em = (H14.texts c.merges).2 := ⟨_, rfl⟩
              have HX67 := Lib.hid (fun (w' : World) (hc : CfgIn w' c a) => H14.right_any a.M a.nm a.cm c.merges w' hc.mlen hc.mle hc.marr)
              rw [← hem] at HX67
              have HEM := Lib.hid hem
              clear hem
              by_cases hm : em = 0
              · subst hm
                have HF := Lib.hid (show FirstOk c from ⟨HP4.out, HOK2.out, HG2.out, HWT.out.symm, by have := HSZ.out; omega, HEM.out.symm⟩)
                have HBAD := Lib.hid (fun (hn : ¬ RestOk c) => show res = 172 by rw [HR.out]; exact cfgE_rest HF.out hn)
                have HGOOD := Lib.hid (fun (hn : RestOk c) => show res = 0 by rw [HR.out]; exact cfgE_ok HF.out hn)
                have hnl := HC.out.nlen
                have hnle := HC.out.nle
                by_cases hn64 : 64 < a.nn
                · have d3 : decide ((64 : Int) < (a.nn : Int)) = true := by simp; omega
                  obtain rfl : res = 172 := HBAD.out (fun h => by have := h.few; omega)
                  go_wp2_with first
                    | (go_at_call 65; refine HX65.out.mono ?_; rintro e w3 ⟨rfl, hb3⟩; have HB3 := Lib.hid (HBL.out.trans (hb3.mono HBL.out.size)); clear hb3; have t1 := GO.out _ HB3.out _ _ q1; have t2 := GO.out _ HB3.out _ _ q2; have t3 := GO.out _ HB3.out _ _ q3; have t4 := GO.out _ HB3.out _ _ q4; have t5 := GO.out _ HB3.out _ _ q5; have t6 := GO.out _ HB3.out _ _ q6; have t7 := GO.out _ HB3.out _ _ q7; have t8 := GO.out _ HB3.out _ _ q8; have t9 := GO.out _ HB3.out _ _ q9)
                    | (go_at_call 66; refine (HX66.out _ (HC.out.keep HB3.out)).mono ?_; rintro e w4 ⟨rfl, hb4⟩; have HB4 := Lib.hid (HB3.out.trans (hb4.mono HB3.out.size)); clear hb4; have y9 := GO.out _ HB4.out _ _ q9)
                    | (go_at_call 67; refine (HX67.out _ (HC.out.keep HB4.out)).mono ?_; rintro e w5 ⟨rfl, hb5⟩; have HB5 := Lib.hid (HB4.out.trans (hb5.mono HB4.out.size)); clear hb5; have z10 := GO.out _ HB5.out _ _ q10)
                  go_returns
                  exact ⟨by first | rfl | simp, HB.out.trans (HB5.out.mono HB.out.size)⟩
                · have d3 : decide ((64 : Int) < (a.nn : Int)) = false := by simp; omega
                  go_wp2_with first
                    | (go_at_call 65; refine HX65.out.mono ?_; rintro e w3 ⟨rfl, hb3⟩; have HB3 := Lib.hid (HBL.out.trans (hb3.mono HBL.out.size)); clear hb3; have t1 := GO.out _ HB3.out _ _ q1; have t2 := GO.out _ HB3.out _ _ q2; have t3 := GO.out _ HB3.out _ _ q3; have t4 := GO.out _ HB3.out _ _ q4; have t5 := GO.out _ HB3.out _ _ q5; have t6 := GO.out _ HB3.out _ _ q6; have t7 := GO.out _ HB3.out _ _ q7; have t8 := GO.out _ HB3.out _ _ q8; have t9 := GO.out _ HB3.out _ _ q9)
                    | (go_at_call 66; refine (HX66.out _ (HC.out.keep HB3.out)).mono ?_; rintro e w4 ⟨rfl, hb4⟩; have HB4 := Lib.hid (HB3.out.trans (hb4.mono HB3.out.size)); clear hb4; have y9 := GO.out _ HB4.out _ _ q9)
                    | (go_at_call 67; refine (HX67.out _ (HC.out.keep HB4.out)).mono ?_; rintro e w5 ⟨rfl, hb5⟩; have HB5 := Lib.hid (HB4.out.trans (hb5.mono HB4.out.size)); clear hb5; have z10 := GO.out _ HB5.out _ _ q10)
                  have HN := Lib.hid (HC.out.keep HB5.out)
                  have hcap := HC.out.ncap
                  go_loop [62] (fun i => ∃ k : Nat, k ≤ a.nn ∧ i = .int .i64 k ∧ ∀ j, j < k → NameOk c.names j) (fun i => a.nn - (intOf i).toNat)
                  case atStart => exact ⟨0, by omega, rfl, fun j hj => absurd hj (by omega)⟩
                  case round =>
                    obtain ⟨k, hk, rfl, hno⟩ := hrel
                    have HNO := Lib.hid hno
                    clear hno
                    by_cases hlt : k < a.nn
                    · obtain ⟨b, o, hNa, hblt, hall⟩ := HN.out.narr (by omega)
                      have hcell := hall k 0 hlt (by omega)
                      unfold T12.StrC at hcell
                      simp only [Nat.mul_one, Nat.add_zero] at hcell
                      have hct := Try.slices_Contains_string b o k a.cn c.names (c.names.getD k ⟨#[]⟩) w5 (by omega) (by omega) (fun j hj => by
                        have := hall j 0 (by omega) (by omega)
                        unfold T12.StrC at this
                        simp only [Nat.mul_one, Nat.add_zero] at this
                        rw [this]
                        rfl)
                      obtain ⟨x, hx⟩ : ∃ x, x = c.names.getD k ⟨#[]⟩ := ⟨_, rfl⟩
                      obtain ⟨ct, hctb⟩ : ∃ ct, ct = Lib.containsS (c.names.take k) (c.names.getD k ⟨#[]⟩) := ⟨_, rfl⟩
                      rw [← hctb, ← hx] at hct
                      rw [← hx] at hcell
                      rw [hNa]
                      rw [hNa] at z10
                      have HCT := Lib.hid hct
                      have hem := T12.strB x
                      have hnok : NameOk c.names k ↔ 1 ≤ x.size ∧ x.size ≤ 32 ∧ ct = false := by
                        constructor
                        · rintro ⟨h1, h2, h3⟩
                          rw [← hx] at h1 h2
                          refine ⟨h1, h2, ?_⟩
                          rw [hctb, Bool.eq_false_iff]
                          intro h4
                          have h4 := (Lib.containsS_iff _ _).1 h4
                          obtain ⟨j, hj, h5⟩ := List.mem_iff_getElem.1 h4
                          have hjk : j < k := by simp at hj; omega
                          refine h3 j hjk ?_
                          rw [← h5]
                          simp [show j < c.names.length by omega]
                        · rintro ⟨h1, h2, h3⟩
                          refine ⟨by rw [← hx]; exact h1, by rw [← hx]; exact h2, fun j hj he => ?_⟩
                          rw [hctb, Bool.eq_false_iff] at h3
                          refine h3 ((Lib.containsS_iff _ _).2 ?_)
                          rw [← he]
                          exact List.mem_iff_getElem.2 ⟨j, by simp; omega, by simp [show j < c.names.length by omega]⟩
                      have HNK := Lib.hid hnok
                      have HNB := Lib.hid (fun (h : ¬ (1 ≤ x.size ∧ x.size ≤ 32 ∧ ct = false)) => HBAD.out (fun hr => h (hnok.1 (hr.names k (by omega)))))
                      clear hct hctb hx hnok hall
                      by_cases h0 : x.size = 0
                      · have e5 : x.toList.isEmpty = true := by rw [hem]; simpa using h0
                        obtain rfl : res = 172 := HNB.out (by omega)
                        clear hem
                        go_wp2_with fail
                        go_returns
                        exact ⟨by first | rfl | simp, HB.out.trans (HB5.out.mono HB.out.size)⟩
                      · have e5 : x.toList.isEmpty = false := by rw [hem]; simpa using h0
                        clear hem
                        by_cases h32 : 32 < x.size
                        · have d5 : decide ((32 : Int) < (x.size : Int)) = true := by simp; omega
                          obtain rfl : res = 172 := HNB.out (by omega)
                          go_wp2_with fail
                          go_returns
                          exact ⟨by first | rfl | simp, HB.out.trans (HB5.out.mono HB.out.size)⟩
                        · have d5 : decide ((32 : Int) < (x.size : Int)) = false := by simp; omega
                          have hkc : k ≤ a.cn := by omega
                          cases ct with
                          | true =>
                            obtain rfl : res = 172 := HNB.out (by simp)
                            go_wp2_with (go_at_call 68; refine HCT.out.mono ?_; rintro e w6 ⟨rfl, hw6⟩; rw [hw6]; clear hw6)
                            go_returns
                            exact ⟨by first | rfl | simp, HB.out.trans (HB5.out.mono HB.out.size)⟩
                          | false =>
                            go_wp2_with (go_at_call 68; refine HCT.out.mono ?_; rintro e w6 ⟨rfl, hw6⟩; rw [hw6]; clear hw6)
                            go_round
                            case rel => exact ⟨k + 1, by omega, by go_num, fun j hj => by
                                          by_cases e : j = k
                                          · rw [e]; exact HNK.out.2 ⟨by omega, by omega, by simp⟩
                                          · exact HNO.out j (by omega)⟩
                            case measure => simp [intOf]; omega
                    · obtain rfl : k = a.nn := by omega
                      have p11 := GO.out _ HB5.out _ _ q11
                      have p12 := GO.out _ HB5.out _ _ q12
                      go_upto_region 2 with (fail)
                      obtain ⟨w6, hw6⟩ : ∃ w6, w6 = w5.alloc (.cells #[.slice a.B a.nb a.cb, .slice a.A a.na a.ca] 32) := ⟨_, rfl⟩
                      have hb6 : Below w5.heap.size w5 w6 := by rw [hw6]; exact (Below.refl _ _).alloc (Nat.le_refl _) _
                      have HB6 := Lib.hid (HB5.out.trans (hb6.mono HB5.out.size))
                      have x0 : w6.cell? ⟨w5.heap.size, 0, none⟩ = some (.slice a.B a.nb a.cb) := by rw [hw6]; simp
                      have x1 : w6.cell? ⟨w5.heap.size, 1, none⟩ = some (.slice a.A a.na a.ca) := by rw [hw6]; simp
                      have u10 := GO.out _ HB6.out _ _ q10
                      rw [← hw6]
                      have HN6 := Lib.hid (HC.out.keep HB6.out)
                      have hstep : ∀ k, k < 2 → (1 ≤ k → FrameOk c.before c.names.length) → ∃ X nx cx xs, w6.cell? ⟨w5.heap.size, k, none⟩ = some (.slice X nx cx) ∧ Arr w6 w6.heap.size 1 X nx (T12.NumC .i64 xs) ∧ xs.length = nx ∧ nx ≤ 140737488355328 ∧ (¬ FrameOk xs c.names.length → ¬ RestOk c) ∧ (FrameOk xs c.names.length → (1 ≤ k + 1 → FrameOk c.before c.names.length) ∧ (2 ≤ k + 1 → FrameOk c.after c.names.length)) := fun k hk hf => by
                        rcases (by omega : k = 0 ∨ k = 1) with rfl | rfl
                        · exact ⟨a.B, a.nb, a.cb, c.before, x0, HN6.out.barr, HN6.out.blen, HN6.out.ble, fun h hr => h hr.before, fun h => ⟨fun _ => h, fun h9 => by omega⟩⟩
                        · exact ⟨a.A, a.na, a.ca, c.after, x1, HN6.out.aarr, HN6.out.alen, HN6.out.ale, fun h hr => h hr.after, fun h => ⟨fun _ => hf (by omega), fun _ => h⟩⟩
                      have HST := Lib.hid hstep
                      have HNM := Lib.hid HNO.out
                      clear hw6 hb6 x0 x1 hstep
                      go_loop [89] (fun i => ∃ k : Nat, k ≤ 2 ∧ i = .int .i64 k ∧ (1 ≤ k → FrameOk c.before c.names.length) ∧ (2 ≤ k → FrameOk c.after c.names.length)) (fun i => 2 - (intOf i).toNat)
                      case atStart => exact ⟨0, by omega, rfl, fun h9 => by omega, fun h9 => by omega⟩
                      case round =>
                        obtain ⟨k, hk, rfl, hf1, hf2⟩ := hrel
                        have HF1 := Lib.hid (And.intro hf1 hf2)
                        clear hf1 hf2
                        by_cases hlt : k < 2
                        · obtain ⟨X, nx, cx, xs, hcx, harr, hxl, hxn, hbad, hgood⟩ := HST.out k hlt HF1.out.1
                          have HI := Lib.hid (idx70 X nx cx w.heap.size xs a.N a.nn a.cn w6 hxn harr u10)
                          have HBD := Lib.hid hbad
                          have HGD := Lib.hid hgood
                          obtain ⟨an, han⟩ : ∃ an, an = T12.anyB xs (a.nn : Int) nx := ⟨_, rfl⟩
                          rw [← han] at HI
                          have HAN := Lib.hid han
                          have HXL := Lib.hid hxl
                          clear hbad hgood harr han hxl
                          by_cases h32 : 32 < nx
                          · have d6 : decide ((32 : Int) < (nx : Int)) = true := by simp; omega
                            obtain rfl : res = 172 := HBAD.out (HBD.out (fun h => by have := h.few; have := HXL.out; omega))
                            go_wp2_with fail
                            go_returns
                            exact ⟨by first | rfl | simp, HB.out.trans (HB6.out.mono HB.out.size)⟩
                          · have d6 : decide ((32 : Int) < (nx : Int)) = false := by simp; omega
                            cases an with
                            | true =>
                              have hout : T12.AnyOut xs (a.nn : Int) nx := Classical.byContradiction fun h => by have := HAN.out; rw [T12.anyB_no h] at this; cases this
                              obtain rfl : res = 172 := HBAD.out (HBD.out (fun h => h.all (by rw [HXL.out, HN6.out.nlen]; exact hout)))
                              clear hout
                              go_wp2_with (go_at_call 69; refine HI.out.mono ?_; rintro e w7 ⟨rfl, hw7⟩; rw [hw7]; clear hw7)
                              go_returns
                              exact ⟨by first | rfl | simp, HB.out.trans (HB6.out.mono HB.out.size)⟩
                            | false =>
                              have hout : ¬ T12.AnyOut xs (a.nn : Int) nx := fun h => by have := HAN.out; rw [T12.anyB_yes h] at this; cases this
                              have HFO := Lib.hid (HGD.out ⟨by have := HXL.out; omega, by rw [HXL.out, HN6.out.nlen]; exact hout⟩)
                              clear hout
                              go_wp2_with (go_at_call 69; refine HI.out.mono ?_; rintro e w7 ⟨rfl, hw7⟩; rw [hw7]; clear hw7)
                              go_round
                              case rel => exact ⟨k + 1, by omega, by go_num, HFO.out.1, HFO.out.2⟩
                              case measure => simp [intOf]; omega
                        · obtain rfl : k = 2 := by omega
                          obtain rfl : res = 0 := HGOOD.out ⟨by have := HN6.out.nlen; omega, fun i hi => HNM.out i (by have := HN6.out.nlen; omega), HF1.out.1 (by omega), HF1.out.2 (by omega)⟩
                          go_wp2_with fail
                          go_returns
                          exact ⟨by first | rfl | simp, HB.out.trans (HB6.out.mono HB.out.size)⟩
              · have e3 : (em != 0) = true := by simpa using hm
                obtain rfl : res = em := by rw [HR.out, HEM.out]; exact cfgE_merges HP4.out HOK2.out HG2.out HWT.out.symm (by have := HSZ.out; omega) (by rw [← HEM.out]; exact hm)
                go_wp2_with first
                  | (go_at_call 65; refine HX65.out.mono ?_; rintro e w3 ⟨rfl, hb3⟩; have HB3 := Lib.hid (HBL.out.trans (hb3.mono HBL.out.size)); clear hb3; have t1 := GO.out _ HB3.out _ _ q1; have t2 := GO.out _ HB3.out _ _ q2; have t3 := GO.out _ HB3.out _ _ q3; have t4 := GO.out _ HB3.out _ _ q4; have t5 := GO.out _ HB3.out _ _ q5; have t6 := GO.out _ HB3.out _ _ q6; have t7 := GO.out _ HB3.out _ _ q7; have t8 := GO.out _ HB3.out _ _ q8; have t9 := GO.out _ HB3.out _ _ q9)
                  | (go_at_call 66; refine (HX66.out _ (HC.out.keep HB3.out)).mono ?_; rintro e w4 ⟨rfl, hb4⟩; have HB4 := Lib.hid (HB3.out.trans (hb4.mono HB3.out.size)); clear hb4; have y9 := GO.out _ HB4.out _ _ q9)
                  | (go_at_call 67; refine (HX67.out _ (HC.out.keep HB4.out)).mono ?_; rintro e w5 ⟨rfl, hb5⟩; have HB5 := Lib.hid (HB4.out.trans (hb5.mono HB4.out.size)); clear hb5; have z10 := GO.out _ HB5.out _ _ q10)
                go_returns
                exact ⟨by first | rfl | simp, HB.out.trans (HB5.out.mono HB.out.size)⟩
          · have e2 : (wt != 0) = true := by simpa using hw0
            obtain rfl : res = wt := by rw [HR.out, HWT.out]; exact cfgE_split HP4.out HOK2.out HG2.out (by rw [← HWT.out]; exact hw0)
            go_wp2_with (go_at_call 65; refine HX65.out.mono ?_; rintro e w3 ⟨rfl, hb3⟩; have HB3 := Lib.hid (HBL.out.trans (hb3.mono HBL.out.size)); clear hb3; have t1 := GO.out _ HB3.out _ _ q1; have t2 := GO.out _ HB3.out _ _ q2; have t3 := GO.out _ HB3.out _ _ q3; have t4 := GO.out _ HB3.out _ _ q4; have t5 := GO.out _ HB3.out _ _ q5; have t6 := GO.out _ HB3.out _ _ q6; have t7 := GO.out _ HB3.out _ _ q7; have t8 := GO.out _ HB3.out _ _ q8; have t9 := GO.out _ HB3.out _ _ q9)
            go_returns
            exact ⟨by first | rfl | simp, HB.out.trans (HB3.out.mono HB.out.size)⟩
end Go.Proofs.Ytfjgfabochiflaa
