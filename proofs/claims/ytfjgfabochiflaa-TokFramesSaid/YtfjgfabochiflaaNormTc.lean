/- tok.Normal. -/
import Derived.Test.YtfjgfabochiflaaCRightTc
import Derived.Test.YtfjgfabochiflaaTApplyTc
import Derived.Test.YtfjgfabochiflaaHTkATc
import Derived.Deep.Cut
import Derived.Deep.CutRange
namespace Go.Proofs.Ytfjgfabochiflaa
open Go.RowKit
open H14 (Blk But)

open Classical in
/-- a text, rewritten by rules -/
noncomputable def appB (l : List T12.SR) (s : ByteArray) : ByteArray := if h : ∃ o, T12.Rew (T12.rulesOf l) s.data.toList o then ⟨(Classical.choose h).toArray⟩ else s
set_option maxRecDepth 100000 in
theorem appB_of {l : List T12.SR} {s : ByteArray} {o : T12.Bs} (hok : T12.AllOk l) (h : T12.Rew (T12.rulesOf l) s.data.toList o) : appB l s = ⟨o.toArray⟩ := by
  have hx : ∃ o, T12.Rew (T12.rulesOf l) s.data.toList o := ⟨o, h⟩
  unfold appB
  rw [dif_pos hx, (Classical.choose_spec hx).unique hok.fit h]
theorem appB_size {l : List T12.SR} {s : ByteArray} (hok : T12.AllOk l) : (appB l s).size ≤ T12.growN l l.length * s.size := by
  obtain ⟨o, h⟩ := T12.Rew.total hok.fit s.data.toList.length s.data.toList (Nat.le_refl _)
  rw [appB_of hok h]
  have := h.grows (T12.growN l l.length) (T12.growN_pos _ _) (T12.rules_grow hok)
  rw [T12.size_data] at this
  show o.toArray.size ≤ _
  rw [List.size_toArray]
  exact this
/-- a text behind so many passes -/
noncomputable def normTo (ps : List (List T12.SR)) (s : ByteArray) : Nat → ByteArray
  | 0 => s
  | k + 1 => appB (ps.getD k []) (normTo ps s k)
theorem normTo_size {ps : List (List T12.SR)} {s : ByteArray} : ∀ k, (∀ j, j < k → T12.rightE (ps.getD j []) = 0) → (normTo ps s k).size ≤ growP ps k * s.size
  | 0, _ => by simp [normTo, growP]
  | k + 1, h => by
    have h1 := normTo_size (ps := ps) (s := s) k (fun j hj => h j (by omega))
    have h2 := appB_size (s := normTo ps s k) (T12.allOk_of (h k (by omega)))
    rw [normTo, growP]
    refine Nat.le_trans h2 (Nat.le_trans (Nat.mul_le_mul_left _ h1) ?_)
    rw [← Nat.mul_assoc, Nat.mul_comm (T12.growN _ _)]
    exact Nat.le_refl _
theorem growP_mono (ps : List (List T12.SR)) : ∀ d k, growP ps k ≤ growP ps (k + d)
  | 0, _ => Nat.le_refl _
  | d + 1, k => by
    refine Nat.le_trans (growP_mono ps d k) ?_
    show _ ≤ growP ps (k + d + 1)
    rw [growP]
    exact Nat.le_mul_of_pos_right _ (T12.growN_pos _ _)
theorem norm_small {c : Cfg} (h : FirstOk c) {s : ByteArray} (k : Nat) (hk : k ≤ c.passes.length) : (normTo c.passes s k).size ≤ 32 * s.size := by
  have h1 := normTo_size (ps := c.passes) (s := s) k (fun j hj => h.pass j (by omega))
  have h2 := growP_mono c.passes (c.passes.length - k) k
  rw [show k + (c.passes.length - k) = c.passes.length by omega] at h2
  exact Nat.le_trans h1 (Nat.mul_le_mul_right _ (Nat.le_trans h2 h.grow))
noncomputable def normB (c : Cfg) (s : ByteArray) : ByteArray := normTo c.passes s c.passes.length
open Classical in
noncomputable def normR (c : Cfg) (s : ByteArray) : ByteArray × Int := if cfgE c ≠ 0 then (⟨#[]⟩, cfgE c) else if 4096 < s.size then (⟨#[]⟩, 2) else (normB c s, 0)
theorem normR_cfg {c : Cfg} {s : ByteArray} (h : cfgE c ≠ 0) : normR c s = (⟨#[]⟩, cfgE c) := by unfold normR; rw [if_pos h]
theorem normR_long {c : Cfg} {s : ByteArray} (h : cfgE c = 0) (h1 : 4096 < s.size) : normR c s = (⟨#[]⟩, 2) := by unfold normR; rw [if_neg (by rw [h]; simp), if_pos h1]
theorem normR_ok {c : Cfg} {s : ByteArray} (h : cfgE c = 0) (h1 : ¬ 4096 < s.size) : normR c s = (normB c s, 0) := by unfold normR; rw [if_neg (by rw [h]; simp), if_neg h1]

set_option maxRecDepth 100000 in
set_option maxHeartbeats 4000000 in
theorem rewrite_any (g : Nat) (A : Option Addr) (n c : Nat) (l : List T12.SR) (x : ByteArray) (w : World) (hg : Blk w g 110 [.string x, .int .i64 0]) (hl : l.length = n) (h : Arr w w.heap.size 2 A n (T12.RuleC l)) (hz : ∀ k, k < n → (l.getD k T12.noRule).1.size ≤ maxLen ∧ (l.getD k T12.noRule).2.size ≤ maxLen) (hok : T12.AllOk l) (hx : x.size ≤ 262144) :
    Calls Try.prog 56 #[.pointer (some ⟨g, 0, none⟩), .slice A n c] w fun e w' => e = .returned (.tuple #[]) ∧ Blk w' g 110 [.string (appB l x), .int .i64 0] ∧ But (fun k => k = g) w w' := by
  have HA := Lib.hid (T12.apply_ok A n c l x w hl h hz hok hx)
  have HG := Lib.hid hg
  have HOK := Lib.hid hok
  have q0 := hg.cell 0
  have q1 := hg.cell 1
  simp only [List.getElem?_cons_zero, List.getElem?_cons_succ] at q0 q1
  clear h hz hok hl hg
  go_enter Try.func56, Try.ntmps56
  go_wp2_with (go_at_call 29; refine HA.out.mono ?_; rintro e w1 ⟨o, hrew, hol, rfl, hb1⟩; have HR := Lib.hid hrew; have HB1 := Lib.hid hb1; have hg1 := HG.out.below hb1 HG.out.lt; have f0 := hg1.frozen 0; have f1 := hg1.frozen 1; have p0 := hg1.cell 0; have p1 := hg1.cell 1; simp only [List.getElem?_cons_zero, List.getElem?_cons_succ] at p0 p1; have HG1 := Lib.hid hg1; clear hb1 hrew hg1)
  go_end0
  rw [appB_of HOK.out HR.out]
  exact ⟨by first | rfl | simp, (HG1.out.set 0 _).set 1 _, ((But.of_below HB1.out).mono (fun k hk h9 => by omega)).trans ((But.of_grown (H14.grownBy_setCell _ g 0 _)).trans (But.of_grown (H14.grownBy_setCell _ g 1 _)) (fun k _ h => h)) (fun k _ h => by injection h with h; exact h.symm)⟩

set_option maxRecDepth 100000 in
set_option maxHeartbeats 8000000 in
theorem normal_any (c : Cfg) (a : CfgAd) (s : ByteArray) (w : World) (h : CfgIn w c a) :
    Calls Try.prog 28 #[.agg #[.slice a.P a.np a.cp, .int .i64 c.split.kind, .int .u64 c.split.s0, .int .u64 c.split.s1, .int .u64 c.split.s2, .int .u64 c.split.s3, .int .i64 c.split.lo, .int .i64 c.split.hi, .slice a.T a.nt a.ct, .slice a.M a.nm a.cm, .slice a.N a.nn a.cn, .slice a.B a.nb a.cb, .slice a.A a.na a.ca], .string s] w fun e w' => e = .returned (.tuple #[.string (normR c s).1, .int .i64 (normR c s).2]) ∧ Below w.heap.size w w' := by
  obtain ⟨w1, hw1⟩ : ∃ w1, w1 = w.alloc (.cells #[.slice a.P a.np a.cp, .int .i64 c.split.kind, .int .u64 c.split.s0, .int .u64 c.split.s1, .int .u64 c.split.s2, .int .u64 c.split.s3, .int .i64 c.split.lo, .int .i64 c.split.hi, .slice a.T a.nt a.ct, .slice a.M a.nm a.cm, .slice a.N a.nn a.cn, .slice a.B a.nb a.cb, .slice a.A a.na a.ca] 34) := ⟨_, rfl⟩
  have hb0 : Below w.heap.size w w1 := by rw [hw1]; exact (Below.refl _ _).alloc (Nat.le_refl _) _
  have hgl : w.heap.size < w1.heap.size := by rw [hw1]; simp
  have q0 : w1.cell? ⟨w.heap.size, 0, none⟩ = some (.slice a.P a.np a.cp) := by rw [hw1]; simp
  have q1 : w1.cell? ⟨w.heap.size, 1, none⟩ = some (.int .i64 c.split.kind) := by rw [hw1]; simp
  have q2 : w1.cell? ⟨w.heap.size, 2, none⟩ = some (.int .u64 c.split.s0) := by rw [hw1]; simp
  have q3 : w1.cell? ⟨w.heap.size, 3, none⟩ = some (.int .u64 c.split.s1) := by rw [hw1]; simp
  have q4 : w1.cell? ⟨w.heap.size, 4, none⟩ = some (.int .u64 c.split.s2) := by rw [hw1]; simp
  have q5 : w1.cell? ⟨w.heap.size, 5, none⟩ = some (.int .u64 c.split.s3) := by rw [hw1]; simp
  have q6 : w1.cell? ⟨w.heap.size, 6, none⟩ = some (.int .i64 c.split.lo) := by rw [hw1]; simp
  have q7 : w1.cell? ⟨w.heap.size, 7, none⟩ = some (.int .i64 c.split.hi) := by rw [hw1]; simp
  have q8 : w1.cell? ⟨w.heap.size, 8, none⟩ = some (.slice a.T a.nt a.ct) := by rw [hw1]; simp
  have q9 : w1.cell? ⟨w.heap.size, 9, none⟩ = some (.slice a.M a.nm a.cm) := by rw [hw1]; simp
  have q10 : w1.cell? ⟨w.heap.size, 10, none⟩ = some (.slice a.N a.nn a.cn) := by rw [hw1]; simp
  have q11 : w1.cell? ⟨w.heap.size, 11, none⟩ = some (.slice a.B a.nb a.cb) := by rw [hw1]; simp
  have q12 : w1.cell? ⟨w.heap.size, 12, none⟩ = some (.slice a.A a.na a.ca) := by rw [hw1]; simp
  have HC := Lib.hid (h.keep hb0)
  have HB := Lib.hid hb0
  have GO := Lib.hid (fun (w2 : World) (hb : Below w1.heap.size w1 w2) (j : Nat) (v : Value) (hv : w1.cell? ⟨w.heap.size, j, none⟩ = some v) => (hb.cell (p := ⟨w.heap.size, j, none⟩) hgl).trans hv)
  have hcr := cright_any c a w1 HC.out
  obtain ⟨ce, hce⟩ : ∃ ce, ce = cfgE c := ⟨_, rfl⟩
  rw [← hce] at hcr
  have HCR := Lib.hid hcr
  have HCE := Lib.hid hce
  obtain ⟨tb, htb⟩ : ∃ tb, tb = (normR c s).1 := ⟨_, rfl⟩
  obtain ⟨te, hte⟩ : ∃ te, te = (normR c s).2 := ⟨_, rfl⟩
  rw [← htb, ← hte]
  have HT := Lib.hid (show (tb, te) = normR c s by rw [htb, hte])
  clear hcr hce htb hte h hb0
  go_enter Try.func28, Try.ntmps28
  go_upto_region 1 with (fail)
  rw [← hw1]
  clear hw1
  by_cases h0 : ce = 0
  · subst h0
    by_cases hlong : 4096 < s.size
    · have d1 : decide ((4096 : Int) < (s.size : Int)) = true := by simp; omega
      have ht := HT.out
      rw [normR_long HCE.out.symm hlong] at ht
      injection ht with h1 h2
      subst h1 h2
      go_wp2_with (go_at_call 31; refine HCR.out.mono ?_; rintro e w2 ⟨rfl, hb2⟩; have HB2 := Lib.hid hb2; clear hb2)
      go_ret2
      exact ⟨by first | rfl | simp, HB.out.trans (HB2.out.mono HB.out.size)⟩
    · have d1 : decide ((4096 : Int) < (s.size : Int)) = false := by simp; omega
      have ht := HT.out
      rw [normR_ok HCE.out.symm hlong] at ht
      have htb : tb = normB c s := congrArg Prod.fst ht
      obtain rfl : te = 0 := congrArg Prod.snd ht
      have HTB := Lib.hid htb
      have HF := Lib.hid (cfgE_zero HCE.out.symm).1
      clear ht htb
      go_wp2_with (go_at_call 31; refine HCR.out.mono ?_; rintro e w2 ⟨rfl, hb2⟩; have HB2 := Lib.hid hb2; have t0 := GO.out _ HB2.out _ _ q0; have hs2 := Nat.lt_of_lt_of_le hgl hb2.size; clear hb2)
      obtain ⟨gt, hgt⟩ : ∃ gt, gt = w2.heap.size := ⟨_, rfl⟩
      obtain ⟨w3, hw3⟩ : ∃ w3, w3 = w2.alloc (.cells #[.string s, .int .i64 0] 110) := ⟨_, rfl⟩
      have hb3 : Below gt w2 w3 := by rw [hw3, hgt]; exact (Below.refl _ _).alloc (Nat.le_refl _) _
      have hg3 : Blk w3 gt 110 [.string s, .int .i64 0] := by rw [hw3, hgt]; exact Blk.new w2 110 [.string s, .int .i64 0]
      have hgw : w1.heap.size ≤ gt := by rw [hgt]; exact HB2.out.size
      have H3 := Lib.hid (And.intro hb3 hg3)
      have HGT := Lib.hid hgt
      rw [← hgt, ← hw3]
      clear hgt hw3 hb3 hg3
      have hpl := HC.out.plen
      have hple := HC.out.ple
      go_loopw [27] (fun i wr => ∃ k : Nat, k ≤ a.np ∧ i = .int .i64 (k : Int) ∧ Blk wr gt 110 [.string (normTo c.passes s k), .int .i64 0] ∧ Below gt w2 wr) (fun i _ => a.np - (intOf i).toNat)
      case atStart => exact ⟨0, by omega, rfl, H3.out.2, H3.out.1⟩
      case round =>
        obtain ⟨k, hk, rfl, hbk, hbl⟩ := hrel
        have HBK := Lib.hid hbk
        have HBL := Lib.hid hbl
        have HB1R := Lib.hid (HB2.out.trans (hbl.mono hgw))
        have r0 := hbk.cell 0
        have r1 := hbk.cell 1
        simp only [List.getElem?_cons_zero, List.getElem?_cons_succ] at r0 r1
        clear hbk hbl
        by_cases hlt : k < a.np
        · have hc := HC.out.keep HB1R.out
          obtain ⟨b, o, hPa, _, hcell⟩ := hc.parr.one hlt
          unfold PassC at hcell
          have hsz := norm_small HF.out (s := s) k (by omega)
          have HRW := Lib.hid (rewrite_any gt (a.PA k) (c.passes.getD k []).length (a.pc k) (c.passes.getD k []) (normTo c.passes s k) wr HBK.out rfl (hc.prow k hlt) (hc.psz k hlt) (T12.allOk_of (HF.out.pass k (by omega))) (by omega))
          obtain ⟨l, hl⟩ : ∃ l, l = c.passes.getD k [] := ⟨_, rfl⟩
          rw [← hl] at hcell HRW
          have HL := Lib.hid hl
          rw [hPa]
          clear hc hsz hl
          go_wp2_with (go_at_call 56; refine HRW.out.mono ?_; rintro e w4 ⟨rfl, hb4, hu4⟩; have HB4 := Lib.hid hb4; have HU4 := Lib.hid hu4; clear hb4 hu4)
          go_roundw
          case rel =>
            refine ⟨k + 1, by omega, by go_num, ?_, HBL.out.trans (HU4.out.below (by have := HBK.out.lt; omega) (fun k hk => by omega))⟩
            have h9 := HB4.out
            rw [HL.out] at h9
            exact h9
          case measure => simp [intOf]; omega
        · have hkl : k = c.passes.length := by omega
          have htk : normTo c.passes s k = tb := by rw [HTB.out, hkl]; rfl
          rw [htk] at r0
          clear hkl htk
          go_wp2_with fail
          go_ret2
          exact ⟨by first | rfl | simp, HB.out.trans (HB1R.out.mono HB.out.size)⟩
  · have e0 : (ce != 0) = true := by simpa using h0
    have ht := HT.out
    rw [normR_cfg (by rw [← HCE.out]; exact h0), ← HCE.out] at ht
    injection ht with h1 h2
    subst h1 h2
    go_wp2_with (go_at_call 31; refine HCR.out.mono ?_; rintro e w2 ⟨rfl, hb2⟩; have HB2 := Lib.hid hb2; clear hb2)
    go_ret2
    exact ⟨by first | rfl | simp, HB.out.trans (HB2.out.mono HB.out.size)⟩
end Go.Proofs.Ytfjgfabochiflaa
