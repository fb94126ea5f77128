/- TokLoses, with its configuration and text laid open. -/
import Derived.Test.YtfjgfabochiflaaTkTTc
import Derived.Test.YtfjgfabochiflaaTxtTc
import Derived.Test.YtfjgfabochiflaaKeepTc
namespace Go.Proofs.Ytfjgfabochiflaa
open Go.RowKit
open H14 (Blk But TS Eg numsV bytesI fget)

theorem short27_any (s : ByteArray) (k : Nat) (hk : k < 1000000) (w : World) :
    Calls Try.prog 27 #[.string s, .int .i64 k] w fun e w' => e = .returned (.string (H14.cutS s k)) ∧ w' = w := by
  have hsl : k < s.size → ∀ W, (Instr.slice 9 (.string s) none (some (.int .i64 (k : Int))) none).run Try.prog W = .ok (.string (s.extract 0 k)) W := fun h W => by
    rw [run_slice_string_to_if W 9 s .i64 _ Try.underlying9, if_pos ⟨by omega, by omega⟩]
    rfl
  have HSL := Lib.hid hsl
  clear hsl
  go_enter Try.func27, Try.ntmps27
  by_cases h : k < s.size
  · have e1 : decide ((k : Int) < (s.size : Int)) = true := by simp; omega
    have h1 := HSL.out h
    go_wp2_with fail
    go_returns
    exact ⟨by unfold H14.cutS; rw [if_pos h]; rfl, rfl⟩
  · have e1 : decide ((k : Int) < (s.size : Int)) = false := by simp; omega
    go_wp2_with fail
    go_returns
    exact ⟨by unfold H14.cutS; rw [if_neg h]; rfl, rfl⟩

theorem tokR_two (c : Cfg) (s : ByteArray) : (tokR c s).2 = (normR c s).2 := by
  by_cases h0 : cfgE c = 0
  · by_cases h1 : 4096 < s.size
    · rw [tokR_long h0 h1, normR_long h0 h1]
    · rw [tokR_ok h0 h1, normR_ok h0 h1]
  · rw [tokR_cfg h0, normR_cfg h0]
set_option maxRecDepth 100000 in
set_option maxHeartbeats 8000000 in
theorem law_loses (c : Cfg) (a : CfgAd) (s : ByteArray) (W : World) (h : CfgIn W c a) :
    Calls Try.prog 10 #[.agg #[.slice a.P a.np a.cp, .int .i64 c.split.kind, .int .u64 c.split.s0, .int .u64 c.split.s1, .int .u64 c.split.s2, .int .u64 c.split.s3, .int .i64 c.split.lo, .int .i64 c.split.hi, .slice a.T a.nt a.ct, .slice a.M a.nm a.cm, .slice a.N a.nn a.cn, .slice a.B a.nb a.cb, .slice a.A a.na a.ca], .string s] W fun e w' => e = .returned (.bool true) ∧ Below W.heap.size W w' := by
  obtain ⟨w1, hw1⟩ : ∃ w1, w1 = W.alloc (.cells #[.slice a.P a.np a.cp, .int .i64 c.split.kind, .int .u64 c.split.s0, .int .u64 c.split.s1, .int .u64 c.split.s2, .int .u64 c.split.s3, .int .i64 c.split.lo, .int .i64 c.split.hi, .slice a.T a.nt a.ct, .slice a.M a.nm a.cm, .slice a.N a.nn a.cn, .slice a.B a.nb a.cb, .slice a.A a.na a.ca] 34) := ⟨_, rfl⟩
  have hb0 : Below W.heap.size W w1 := by rw [hw1]; exact (Below.refl _ _).alloc (Nat.le_refl _) _
  have hgl : W.heap.size < w1.heap.size := by rw [hw1]; simp
  have q0 : w1.cell? ⟨W.heap.size, 0, none⟩ = some (.slice a.P a.np a.cp) := by rw [hw1]; simp
  have q1 : w1.cell? ⟨W.heap.size, 1, none⟩ = some (.int .i64 c.split.kind) := by rw [hw1]; simp
  have q2 : w1.cell? ⟨W.heap.size, 2, none⟩ = some (.int .u64 c.split.s0) := by rw [hw1]; simp
  have q3 : w1.cell? ⟨W.heap.size, 3, none⟩ = some (.int .u64 c.split.s1) := by rw [hw1]; simp
  have q4 : w1.cell? ⟨W.heap.size, 4, none⟩ = some (.int .u64 c.split.s2) := by rw [hw1]; simp
  have q5 : w1.cell? ⟨W.heap.size, 5, none⟩ = some (.int .u64 c.split.s3) := by rw [hw1]; simp
  have q6 : w1.cell? ⟨W.heap.size, 6, none⟩ = some (.int .i64 c.split.lo) := by rw [hw1]; simp
  have q7 : w1.cell? ⟨W.heap.size, 7, none⟩ = some (.int .i64 c.split.hi) := by rw [hw1]; simp
  have q8 : w1.cell? ⟨W.heap.size, 8, none⟩ = some (.slice a.T a.nt a.ct) := by rw [hw1]; simp
  have q9 : w1.cell? ⟨W.heap.size, 9, none⟩ = some (.slice a.M a.nm a.cm) := by rw [hw1]; simp
  have q10 : w1.cell? ⟨W.heap.size, 10, none⟩ = some (.slice a.N a.nn a.cn) := by rw [hw1]; simp
  have q11 : w1.cell? ⟨W.heap.size, 11, none⟩ = some (.slice a.B a.nb a.cb) := by rw [hw1]; simp
  have q12 : w1.cell? ⟨W.heap.size, 12, none⟩ = some (.slice a.A a.na a.ca) := by rw [hw1]; simp
  have HC := Lib.hid (h.keep hb0)
  have HB := Lib.hid hb0
  have GO := Lib.hid (fun (w2 : World) (hb : Below w1.heap.size w1 w2) (j : Nat) (v : Value) (hv : w1.cell? ⟨W.heap.size, j, none⟩ = some v) => (hb.cell (p := ⟨W.heap.size, j, none⟩) hgl).trans hv)
  have hcz := H14.cutS_le s 60
  have HSH := Lib.hid (fun (w2 : World) => short27_any s 60 (by omega) w2)
  obtain ⟨s', hs'⟩ : ∃ s', s' = H14.cutS s 60 := ⟨_, rfl⟩
  rw [← hs'] at HSH hcz
  have HTK := Lib.hid (fun (w2 : World) (hb : Below w1.heap.size w1 w2) => tok_any c a s' w2 (HC.out.keep hb) (.inl hcz))
  have HNO := Lib.hid (fun (w2 : World) (hb : Below w1.heap.size w1 w2) => normal_any c a s' w2 (HC.out.keep hb))
  have hlong : ¬ 4096 < s'.size := by omega
  clear hs' h hb0
  have hnb := HC.out.ble
  have hna := HC.out.ale
  by_cases h0 : cfgE c = 0
  · obtain ⟨hF, hRO⟩ := cfgE_zero h0
    have hnx := norm_small hF (s := s') c.passes.length (Nat.le_refl _)
    obtain ⟨x, hx⟩ : ∃ x, x = normB c s' := ⟨_, rfl⟩
    have hxz : x.size ≤ 1920 := by rw [hx]; exact Nat.le_trans hnx (by omega)
    rw [tokR_ok h0 hlong, ← hx] at HTK
    rw [normR_ok h0 hlong, ← hx] at HNO
    have hlen := tokL_len (c := c) x
    have hbl := HC.out.blen
    have hal := HC.out.alen
    have hfb := hRO.before.few
    have hfa := hRO.after.few
    have htx : textR c (tokL c x) = (x, 0) := by
      rw [textR_ok h0 (by omega) (tokL_ok h0 x), tokL_text h0]
    have HTX := Lib.hid (fun (A : Option Addr) (n ci : Nat) (w2 : World) (hb : Below w1.heap.size w1 w2) (hl : (tokL c x).length = n) (ha : Arr w2 w2.heap.size 1 A n (T12.NumC .i64 (tokL c x))) => text_any c a A n ci (tokL c x) w2 (HC.out.keep hb) hl (by omega) ha (by omega))
    rw [htx] at HTX
    obtain ⟨L, hL⟩ : ∃ L, L = tokL c x := ⟨_, rfl⟩
    rw [← hL] at HTK HTX hlen
    have l1 : L.length ≤ x.size + a.nb + a.na := by omega
    have l2 : a.nb + a.na ≤ L.length := by omega
    have hbl2 : a.nb ≤ 32 := by omega
    have hal2 : a.na ≤ 32 := by omega
    have d1 : decide ((L.length : Int) ≤ (x.size : Int) + (a.nb : Int) + (a.na : Int)) = true := by simp; omega
    have d2 : decide ((a.nb : Int) + (a.na : Int) ≤ (L.length : Int)) = true := by simp; omega
    have ex := T12.eqB_true (rfl : x = x)
    clear hlen hbl hal hfb hfa htx hnx hx hL hF hRO
    go_enter Try.func10, Try.ntmps10
    go_upto_region 1 with (fail)
    rw [← hw1]
    clear hw1
    go_wp2_with first
      | (go_at_call 27; refine (HSH.out _).mono ?_; rintro e w2 ⟨rfl, hw2⟩; rw [hw2]; clear hw2)
      | (go_at_call 30; refine (HTK.out _ (Below.refl _ _)).mono ?_; rintro e w3 ⟨v, rfl, hv, hb3⟩; have hv9 := hv; obtain ⟨LA, lc, rfl⟩ := own_form hv9; have HB3 := Lib.hid (And.intro hb3 (H14.own_ints hv)); clear hv hv9 hb3; have r0 := GO.out _ HB3.out.1 _ _ q0; have r1 := GO.out _ HB3.out.1 _ _ q1; have r2 := GO.out _ HB3.out.1 _ _ q2; have r3 := GO.out _ HB3.out.1 _ _ q3; have r4 := GO.out _ HB3.out.1 _ _ q4; have r5 := GO.out _ HB3.out.1 _ _ q5; have r6 := GO.out _ HB3.out.1 _ _ q6; have r7 := GO.out _ HB3.out.1 _ _ q7; have r8 := GO.out _ HB3.out.1 _ _ q8; have r9 := GO.out _ HB3.out.1 _ _ q9; have r10 := GO.out _ HB3.out.1 _ _ q10; have r11 := GO.out _ HB3.out.1 _ _ q11; have r12 := GO.out _ HB3.out.1 _ _ q12)
      | (go_at_call 28; refine (HNO.out _ HB3.out.1).mono ?_; rintro e w4 ⟨rfl, hb4⟩; have HB4 := Lib.hid (And.intro (HB3.out.1.trans (hb4.mono HB3.out.1.size)) ((HB3.out.2.below hb4).more hb4.size)); clear hb4; have y0 := GO.out _ HB4.out.1 _ _ q0; have y1 := GO.out _ HB4.out.1 _ _ q1; have y2 := GO.out _ HB4.out.1 _ _ q2; have y3 := GO.out _ HB4.out.1 _ _ q3; have y4 := GO.out _ HB4.out.1 _ _ q4; have y5 := GO.out _ HB4.out.1 _ _ q5; have y6 := GO.out _ HB4.out.1 _ _ q6; have y7 := GO.out _ HB4.out.1 _ _ q7; have y8 := GO.out _ HB4.out.1 _ _ q8; have y9 := GO.out _ HB4.out.1 _ _ q9; have y10 := GO.out _ HB4.out.1 _ _ q10; have y11 := GO.out _ HB4.out.1 _ _ q11; have y12 := GO.out _ HB4.out.1 _ _ q12)
      | (go_at_call 11; refine (HTX.out LA _ lc _ HB4.out.1 rfl HB4.out.2).mono ?_; rintro e w5 ⟨rfl, hb5⟩; have HB5 := Lib.hid (HB4.out.1.trans (hb5.mono HB4.out.1.size)); clear hb5; have t11 := GO.out _ HB5.out _ _ q11; have t12 := GO.out _ HB5.out _ _ q12)
    go_returns
    exact ⟨by first | rfl | simp, HB.out.trans (HB5.out.mono HB.out.size)⟩
  · rw [tokR_cfg h0] at HTK
    rw [normR_cfg h0] at HNO
    obtain ⟨ce, hce⟩ : ∃ ce, ce = cfgE c := ⟨_, rfl⟩
    rw [← hce] at HTK HNO h0
    have e0 : (ce != 0) = true := by simpa using h0
    have e1 : (ce == ce) = true := by simp
    clear h0 hce
    go_enter Try.func10, Try.ntmps10
    go_upto_region 1 with (fail)
    rw [← hw1]
    clear hw1
    go_wp2_with first
      | (go_at_call 27; refine (HSH.out _).mono ?_; rintro e w2 ⟨rfl, hw2⟩; rw [hw2]; clear hw2)
      | (go_at_call 30; refine (HTK.out _ (Below.refl _ _)).mono ?_; rintro e w3 ⟨v, rfl, hv, hb3⟩; have hv9 := hv; obtain ⟨LA, lc, rfl⟩ := own_form hv9; have HB3 := Lib.hid hb3; clear hv hv9 hb3; have r0 := GO.out _ HB3.out _ _ q0; have r1 := GO.out _ HB3.out _ _ q1; have r2 := GO.out _ HB3.out _ _ q2; have r3 := GO.out _ HB3.out _ _ q3; have r4 := GO.out _ HB3.out _ _ q4; have r5 := GO.out _ HB3.out _ _ q5; have r6 := GO.out _ HB3.out _ _ q6; have r7 := GO.out _ HB3.out _ _ q7; have r8 := GO.out _ HB3.out _ _ q8; have r9 := GO.out _ HB3.out _ _ q9; have r10 := GO.out _ HB3.out _ _ q10; have r11 := GO.out _ HB3.out _ _ q11; have r12 := GO.out _ HB3.out _ _ q12)
      | (go_at_call 28; refine (HNO.out _ HB3.out).mono ?_; rintro e w4 ⟨rfl, hb4⟩; have HB4 := Lib.hid (HB3.out.trans (hb4.mono HB3.out.size)); clear hb4)
    go_returns
    exact ⟨by first | rfl | simp, HB.out.trans (HB4.out.mono HB.out.size)⟩
end Go.Proofs.Ytfjgfabochiflaa
