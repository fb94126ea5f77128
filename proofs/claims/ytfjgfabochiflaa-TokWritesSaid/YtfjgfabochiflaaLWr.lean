/- tok.Show; TokWrites, with its configuration and ids laid open. -/
import Derived.Test.YtfjgfabochiflaaTxt
import Derived.Test.YtfjgfabochiflaaRTxt
import Derived.Test.YtfjgfabochiflaaCRRight
import Derived.Test.YtfjgfabochiflaaR01d
import Derived.Deep.Cut
import Derived.Deep.CutRange
namespace Go.Proofs.Ytfjgfabochiflaa
open Go.RowKit

theorem fixT_empty : fixT ⟨#[]⟩ = [] := rfl
theorem textR_size {c : Cfg} {ids : List Int} (h : ids.length ≤ 3000 ∨ 262144 < ids.length) : (textR c ids).1.size ≤ 192000 := by
  by_cases h0 : cfgE c = 0
  · by_cases h1 : 262144 < ids.length
    · rw [textR_long h0 h1]; simp [ByteArray.size]
    · by_cases h2 : idsOk ids (256 + c.merges.length + c.names.length : Nat)
      · rw [textR_ok h0 (by omega) h2]
        have h3 := texts_len (cfgE_zero h0).1.merges
        have h4 := idsText_le h3.2 ids
        simp only [ByteArray.size, List.size_toArray]
        omega
      · rw [textR_bad h0 (by omega) h2]; simp [ByteArray.size]
  · rw [textR_cfg h0]; simp [ByteArray.size]

set_option maxRecDepth 100000 in
set_option maxHeartbeats 8000000 in
theorem show_any (c : Cfg) (a : CfgAd) (I : Option Addr) (n ci : Nat) (ids : List Int) (w : World) (h : CfgIn w c a) (hil : ids.length = n) (hin : n ≤ 140737488355328) (hi : Arr w w.heap.size 1 I n (T12.NumC .i64 ids)) (hsm : n ≤ 3000 ∨ 262144 < n) :
    Calls Try.prog 12 #[.agg #[.slice a.P a.np a.cp, .int .i64 c.split.kind, .int .u64 c.split.s0, .int .u64 c.split.s1, .int .u64 c.split.s2, .int .u64 c.split.s3, .int .i64 c.split.lo, .int .i64 c.split.hi, .slice a.T a.nt a.ct, .slice a.M a.nm a.cm, .slice a.N a.nn a.cn, .slice a.B a.nb a.cb, .slice a.A a.na a.ca], .slice I n ci] w fun e w' => e = .returned (.tuple #[.string ⟨(fixT (textR c ids).1).toArray⟩, .int .i64 (textR c ids).2]) ∧ Below w.heap.size w w' := by
  obtain ⟨w1, hw1⟩ : ∃ w1, w1 = w.alloc (.cells #[.slice a.P a.np a.cp, .int .i64 c.split.kind, .int .u64 c.split.s0, .int .u64 c.split.s1, .int .u64 c.split.s2, .int .u64 c.split.s3, .int .i64 c.split.lo, .int .i64 c.split.hi, .slice a.T a.nt a.ct, .slice a.M a.nm a.cm, .slice a.N a.nn a.cn, .slice a.B a.nb a.cb, .slice a.A a.na a.ca] 34) := ⟨_, rfl⟩
  have hb0 : Below w.heap.size w w1 := by rw [hw1]; exact (Below.refl _ _).alloc (Nat.le_refl _) _
  have hgl : w.heap.size < w1.heap.size := by rw [hw1]; simp
  have q0 : w1.cell? ⟨w.heap.size, 0, none⟩ = some (.slice a.P a.np a.cp) := by rw [hw1]; simp
  have q1 : w1.cell? ⟨w.heap.size, 1, none⟩ = some (.int .i64 c.split.kind) := by rw [hw1]; simp
  have q2 : w1.cell? ⟨w.heap.size, 2, none⟩ = some (.int .u64 c.split.s0) := by rw [hw1]; simp
  have q3 : w1.cell? ⟨w.heap.size, 3, none⟩ = some (.int .u64 c.split.s1) := by rw [hw1]; simp
  have q4 : w1.cell? ⟨w.heap.size, 4, none⟩ = some (.int .u64 c.split.s2) := by rw [hw1]; simp
  have q5 : w1.cell? ⟨w.heap.size, 5, none⟩ = some (.int .u64 c.split.s3) := by rw [hw1]; simp
  have q6 : w1.cell? ⟨w.heap.size, 6, none⟩ = some (.int .i64 c.split.lo) := by rw [hw1]; simp
  have q7 : w1.cell? ⟨w.heap.size, 7, none⟩ = some (.int .i64 c.split.hi) := by rw [hw1]; simp
  have q8 : w1.cell? ⟨w.heap.size, 8, none⟩ = some (.slice a.T a.nt a.ct) := by rw [hw1]; simp
  have q9 : w1.cell? ⟨w.heap.size, 9, none⟩ = some (.slice a.M a.nm a.cm) := by rw [hw1]; simp
  have q10 : w1.cell? ⟨w.heap.size, 10, none⟩ = some (.slice a.N a.nn a.cn) := by rw [hw1]; simp
  have q11 : w1.cell? ⟨w.heap.size, 11, none⟩ = some (.slice a.B a.nb a.cb) := by rw [hw1]; simp
  have q12 : w1.cell? ⟨w.heap.size, 12, none⟩ = some (.slice a.A a.na a.ca) := by rw [hw1]; simp
  have HC := Lib.hid (h.keep hb0)
  have HB := Lib.hid hb0
  have GO := Lib.hid (fun (w2 : World) (hb : Below w1.heap.size w1 w2) (j : Nat) (v : Value) (hv : w1.cell? ⟨w.heap.size, j, none⟩ = some v) => (hb.cell (p := ⟨w.heap.size, j, none⟩) hgl).trans hv)
  have HX := Lib.hid (text_any c a I n ci ids w1 HC.out hil hin ((hi.below hb0).more hb0.size) hsm)
  have HF := Lib.hid (fun (w2 : World) => fix_any (textR c ids).1 w2 (by have := textR_size (c := c) (ids := ids) (by omega); omega))
  obtain ⟨tb, htb⟩ : ∃ tb, tb = (textR c ids).1 := ⟨_, rfl⟩
  obtain ⟨te, hte⟩ : ∃ te, te = (textR c ids).2 := ⟨_, rfl⟩
  rw [← htb] at HF
  rw [← htb, ← hte] at HX ⊢
  clear htb hte h hb0 hi hil
  go_enter Try.func12, Try.ntmps12
  go_upto_region 1 with (fail)
  rw [← hw1]
  clear hw1
  go_wp2_with first
    | (go_at_call 11; refine HX.out.mono ?_; rintro e w2 ⟨rfl, hb2⟩; have HB2 := Lib.hid hb2; clear hb2)
    | (go_at_call 35; refine (HF.out _).mono ?_; rintro e w3 ⟨rfl, hb3⟩; have HB3 := Lib.hid (HB2.out.trans (hb3.mono HB2.out.size)); clear hb3)
  go_ret2
  exact ⟨by first | rfl | simp, HB.out.trans (HB3.out.mono HB.out.size)⟩

set_option maxRecDepth 100000 in
set_option maxHeartbeats 8000000 in
theorem law_writes (c : Cfg) (a : CfgAd) (I : Option Addr) (n ci : Nat) (ids : List Int) (W : World) (h : CfgIn W c a) (hil : ids.length = n) (hin : n ≤ 140737488355328) (hnc : n ≤ ci) (hi : Arr W W.heap.size 1 I n (T12.NumC .i64 ids)) :
    Calls Try.prog 3 #[.agg #[.slice a.P a.np a.cp, .int .i64 c.split.kind, .int .u64 c.split.s0, .int .u64 c.split.s1, .int .u64 c.split.s2, .int .u64 c.split.s3, .int .i64 c.split.lo, .int .i64 c.split.hi, .slice a.T a.nt a.ct, .slice a.M a.nm a.cm, .slice a.N a.nn a.cn, .slice a.B a.nb a.cb, .slice a.A a.na a.ca], .slice I n ci] W fun e w' => e = .returned (.bool true) ∧ Below W.heap.size W w' := by
  obtain ⟨w1, hw1⟩ : ∃ w1, w1 = W.alloc (.cells #[.slice a.P a.np a.cp, .int .i64 c.split.kind, .int .u64 c.split.s0, .int .u64 c.split.s1, .int .u64 c.split.s2, .int .u64 c.split.s3, .int .i64 c.split.lo, .int .i64 c.split.hi, .slice a.T a.nt a.ct, .slice a.M a.nm a.cm, .slice a.N a.nn a.cn, .slice a.B a.nb a.cb, .slice a.A a.na a.ca] 34) := ⟨_, rfl⟩
  have hb0 : Below W.heap.size W w1 := by rw [hw1]; exact (Below.refl _ _).alloc (Nat.le_refl _) _
  have hgl : W.heap.size < w1.heap.size := by rw [hw1]; simp
  have q0 : w1.cell? ⟨W.heap.size, 0, none⟩ = some (.slice a.P a.np a.cp) := by rw [hw1]; simp
  have q1 : w1.cell? ⟨W.heap.size, 1, none⟩ = some (.int .i64 c.split.kind) := by rw [hw1]; simp
  have q2 : w1.cell? ⟨W.heap.size, 2, none⟩ = some (.int .u64 c.split.s0) := by rw [hw1]; simp
  have q3 : w1.cell? ⟨W.heap.size, 3, none⟩ = some (.int .u64 c.split.s1) := by rw [hw1]; simp
  have q4 : w1.cell? ⟨W.heap.size, 4, none⟩ = some (.int .u64 c.split.s2) := by rw [hw1]; simp
  have q5 : w1.cell? ⟨W.heap.size, 5, none⟩ = some (.int .u64 c.split.s3) := by rw [hw1]; simp
  have q6 : w1.cell? ⟨W.heap.size, 6, none⟩ = some (.int .i64 c.split.lo) := by rw [hw1]; simp
  have q7 : w1.cell? ⟨W.heap.size, 7, none⟩ = some (.int .i64 c.split.hi) := by rw [hw1]; simp
  have q8 : w1.cell? ⟨W.heap.size, 8, none⟩ = some (.slice a.T a.nt a.ct) := by rw [hw1]; simp
  have q9 : w1.cell? ⟨W.heap.size, 9, none⟩ = some (.slice a.M a.nm a.cm) := by rw [hw1]; simp
  have q10 : w1.cell? ⟨W.heap.size, 10, none⟩ = some (.slice a.N a.nn a.cn) := by rw [hw1]; simp
  have q11 : w1.cell? ⟨W.heap.size, 11, none⟩ = some (.slice a.B a.nb a.cb) := by rw [hw1]; simp
  have q12 : w1.cell? ⟨W.heap.size, 12, none⟩ = some (.slice a.A a.na a.ca) := by rw [hw1]; simp
  have HC := Lib.hid (h.keep hb0)
  have HB := Lib.hid hb0
  have GO := Lib.hid (fun (w2 : World) (hb : Below w1.heap.size w1 w2) (j : Nat) (v : Value) (hv : w1.cell? ⟨W.heap.size, j, none⟩ = some v) => (hb.cell (p := ⟨W.heap.size, j, none⟩) hgl).trans hv)
  have HI := Lib.hid ((hi.below hb0).more hb0.size)
  have HIL := Lib.hid hil
  clear h hb0 hi hil
  go_enter Try.func3, Try.ntmps3
  go_upto_region 1 with (fail)
  rw [← hw1]
  clear hw1
  obtain ⟨lb, hlb⟩ : ∃ lb, lb = (decide (3000 < n) && decide (n ≤ 262144)) := ⟨_, rfl⟩
  have HLB := Lib.hid hlb
  clear hlb
  go_cut [20] from 13 (fun v wx => wx = w1 ∧ v = .bool lb)
  case first =>
    by_cases h1 : 3000 < n
    · have d1 : decide ((3000 : Int) < (n : Int)) = true := by simp; omega
      by_cases h2 : n ≤ 262144
      · have d2 : decide ((n : Int) ≤ 262144) = true := by simp; omega
        obtain rfl : lb = true := by rw [HLB.out]; simp; omega
        go_wp2_with fail
        go_meet
        exact ⟨rfl, rfl⟩
      · have d2 : decide ((n : Int) ≤ 262144) = false := by simp; omega
        obtain rfl : lb = false := by rw [HLB.out]; simp; omega
        go_wp2_with fail
        go_meet
        exact ⟨rfl, rfl⟩
    · have d1 : decide ((3000 : Int) < (n : Int)) = false := by simp; omega
      obtain rfl : lb = false := by rw [HLB.out]; simp; omega
      go_wp2_with fail
      go_meet
      exact ⟨rfl, rfl⟩
  case rest =>
  obtain ⟨rfl, rfl⟩ := hcut
  obtain ⟨w1, rfl⟩ : ∃ w1 : World, w1 = wc := ⟨_, rfl⟩
  go_upto_if 20 with (fail)
  go_cut [1] from 13 (fun v wx => wx = w1 ∧ ∃ (m : Nat) (ids' : List Int), v = .slice I m ci ∧ ids'.length = m ∧ m ≤ 140737488355328 ∧ Arr w1 w1.heap.size 1 I m (T12.NumC .i64 ids') ∧ (m ≤ 3000 ∨ 262144 < m))
  case first =>
    cases lb with
    | true =>
      have hb := HLB.out
      have hn3 : 3000 < n ∧ n ≤ 262144 := by simp at hb; exact hb
      obtain ⟨b, o, rfl, hblt, hall⟩ := HI.out (by omega)
      have h3c : 3000 ≤ ci := by omega
      have HA3 := Lib.hid (show Arr w1 w1.heap.size 1 (some ⟨b, o, none⟩) 3000 (T12.NumC .i64 (ids.take 3000)) from fun _ => ⟨b, o, rfl, hblt, fun k j hk hj => by
        rw [hall k j (by omega) hj]
        unfold T12.NumC
        simp [hk]⟩)
      clear hb hall
      go_wp2_with fail
      go_meet
      exact ⟨rfl, 3000, ids.take 3000, by first | rfl | simp, by rw [List.length_take, HIL.out]; omega, by omega, HA3.out, .inl (by omega)⟩
    | false =>
      go_wp2_with fail
      go_meet
      refine ⟨rfl, n, ids, rfl, HIL.out, hin, HI.out, ?_⟩
      have hb := HLB.out
      simp at hb
      omega
  case rest =>
  obtain ⟨rfl, m, ids', rfl, hml, hm, harr, hsm⟩ := hcut
  obtain ⟨w1, rfl⟩ : ∃ w1 : World, w1 = wc := ⟨_, rfl⟩
  have HX11 := Lib.hid (fun (w2 : World) (hb : Below w1.heap.size w1 w2) => text_any c a I m ci ids' w2 (HC.out.keep hb) hml hm ((harr.below hb).more hb.size) hsm)
  have HX12 := Lib.hid (fun (w2 : World) (hb : Below w1.heap.size w1 w2) => show_any c a I m ci ids' w2 (HC.out.keep hb) hml hm ((harr.below hb).more hb.size) hsm)
  have HX13 := Lib.hid (fun (w2 : World) (hb : Below w1.heap.size w1 w2) => crright_any c a w2 (HC.out.keep hb))
  obtain ⟨ce, hce⟩ : ∃ ce, ce = cfgE c := ⟨_, rfl⟩
  rw [← hce] at HX13
  obtain ⟨sb, hsb⟩ : ∃ sb, sb = (textR c ids').1 := ⟨_, rfl⟩
  obtain ⟨se, hse⟩ : ∃ se, se = (textR c ids').2 := ⟨_, rfl⟩
  obtain ⟨tb, htb⟩ : ∃ tb : ByteArray, tb = ⟨(fixT (textR c ids').1).toArray⟩ := ⟨_, rfl⟩
  rw [← htb, ← hse] at HX12
  rw [← hsb, ← hse] at HX11
  have HT := Lib.hid (show (sb, se) = textR c ids' by rw [hsb, hse])
  have HTB := Lib.hid (show tb = ⟨(fixT sb).toArray⟩ by rw [htb, hsb])
  have HCE := Lib.hid hce
  have HML := Lib.hid hml
  have HARR := Lib.hid harr
  have hempty : ∀ x : ByteArray, x = ⟨#[]⟩ → x.toList.isEmpty = true := fun x hx => by rw [T12.strB, hx]; rfl
  clear hce hsb hse htb hml harr
  by_cases h0 : ce = 0
  · subst h0
    by_cases hlong : 262144 < m
    · have d1 : decide ((262144 : Int) < (m : Int)) = true := by simp; omega
      have ht := HT.out
      rw [textR_long HCE.out.symm (by rw [HML.out]; exact hlong)] at ht
      have hsb : sb = ⟨#[]⟩ := congrArg Prod.fst ht
      obtain rfl : se = 2 := congrArg Prod.snd ht
      have es := hempty sb hsb
      have et := hempty tb (by rw [HTB.out, hsb, fixT_empty])
      clear ht hsb hempty
      go_wp2_with first
        | (go_at_call 11; refine (HX11.out _ (Below.refl _ _)).mono ?_; rintro e w2 ⟨rfl, hb2⟩; have HB2 := Lib.hid hb2; clear hb2; have r0 := GO.out _ HB2.out _ _ q0; have r1 := GO.out _ HB2.out _ _ q1; have r2 := GO.out _ HB2.out _ _ q2; have r3 := GO.out _ HB2.out _ _ q3; have r4 := GO.out _ HB2.out _ _ q4; have r5 := GO.out _ HB2.out _ _ q5; have r6 := GO.out _ HB2.out _ _ q6; have r7 := GO.out _ HB2.out _ _ q7; have r8 := GO.out _ HB2.out _ _ q8; have r9 := GO.out _ HB2.out _ _ q9; have r10 := GO.out _ HB2.out _ _ q10; have r11 := GO.out _ HB2.out _ _ q11; have r12 := GO.out _ HB2.out _ _ q12)
        | (go_at_call 12; refine (HX12.out _ HB2.out).mono ?_; rintro e w3 ⟨rfl, hb3⟩; have HB3 := Lib.hid (HB2.out.trans (hb3.mono HB2.out.size)); clear hb3; have t0 := GO.out _ HB3.out _ _ q0; have t1 := GO.out _ HB3.out _ _ q1; have t2 := GO.out _ HB3.out _ _ q2; have t3 := GO.out _ HB3.out _ _ q3; have t4 := GO.out _ HB3.out _ _ q4; have t5 := GO.out _ HB3.out _ _ q5; have t6 := GO.out _ HB3.out _ _ q6; have t7 := GO.out _ HB3.out _ _ q7; have t8 := GO.out _ HB3.out _ _ q8; have t9 := GO.out _ HB3.out _ _ q9; have t10 := GO.out _ HB3.out _ _ q10; have t11 := GO.out _ HB3.out _ _ q11; have t12 := GO.out _ HB3.out _ _ q12)
        | (go_at_call 13; refine (HX13.out _ HB3.out).mono ?_; rintro e w4 ⟨rfl, hb4⟩; have HB4 := Lib.hid (HB3.out.trans (hb4.mono HB3.out.size)); clear hb4; have y0 := GO.out _ HB4.out _ _ q0; have y1 := GO.out _ HB4.out _ _ q1; have y2 := GO.out _ HB4.out _ _ q2; have y3 := GO.out _ HB4.out _ _ q3; have y4 := GO.out _ HB4.out _ _ q4; have y5 := GO.out _ HB4.out _ _ q5; have y6 := GO.out _ HB4.out _ _ q6; have y7 := GO.out _ HB4.out _ _ q7; have y8 := GO.out _ HB4.out _ _ q8; have y9 := GO.out _ HB4.out _ _ q9; have y10 := GO.out _ HB4.out _ _ q10; have y11 := GO.out _ HB4.out _ _ q11; have y12 := GO.out _ HB4.out _ _ q12)
      go_returns
      exact ⟨by first | rfl | simp, HB.out.trans (HB4.out.mono HB.out.size)⟩
    · have d1 : decide ((262144 : Int) < (m : Int)) = false := by simp; omega
      have HX14 := Lib.hid (fun (w2 : World) (hb : Below w1.heap.size w1 w2) => rtext_any c a I m ci ids' w2 (HC.out.keep hb) HCE.out.symm HML.out ((HARR.out.below hb).more hb.size) (by omega))
      have ht := HT.out
      by_cases hok : idsOk ids' (256 + c.merges.length + c.names.length : Nat)
      · rw [textR_ok HCE.out.symm (by rw [HML.out]; omega) hok] at ht
        have hsb : sb = ⟨(idsText (H14.texts c.merges).1 ids').toArray⟩ := congrArg Prod.fst ht
        obtain rfl : se = 0 := congrArg Prod.snd ht
        have hr : rtextR c ids' = (sb, true) := by unfold rtextR; rw [if_pos hok, hsb]
        rw [hr] at HX14
        have hsz := textR_size (c := c) (ids := ids') (by rw [HML.out]; omega)
        rw [textR_ok HCE.out.symm (by rw [HML.out]; omega) hok, ← hsb] at hsz
        have HX15 := Lib.hid (fun (w2 : World) => rfix_any sb w2 (by simp only at hsz; omega))
        rw [← HTB.out] at HX15
        have es := T12.eqB_true (rfl : sb = sb)
        have et := T12.eqB_true (rfl : tb = tb)
        clear ht hsb hempty hok hr hsz
        go_wp2_with first
          | (go_at_call 11; refine (HX11.out _ (Below.refl _ _)).mono ?_; rintro e w2 ⟨rfl, hb2⟩; have HB2 := Lib.hid hb2; clear hb2; have r0 := GO.out _ HB2.out _ _ q0; have r1 := GO.out _ HB2.out _ _ q1; have r2 := GO.out _ HB2.out _ _ q2; have r3 := GO.out _ HB2.out _ _ q3; have r4 := GO.out _ HB2.out _ _ q4; have r5 := GO.out _ HB2.out _ _ q5; have r6 := GO.out _ HB2.out _ _ q6; have r7 := GO.out _ HB2.out _ _ q7; have r8 := GO.out _ HB2.out _ _ q8; have r9 := GO.out _ HB2.out _ _ q9; have r10 := GO.out _ HB2.out _ _ q10; have r11 := GO.out _ HB2.out _ _ q11; have r12 := GO.out _ HB2.out _ _ q12)
          | (go_at_call 12; refine (HX12.out _ HB2.out).mono ?_; rintro e w3 ⟨rfl, hb3⟩; have HB3 := Lib.hid (HB2.out.trans (hb3.mono HB2.out.size)); clear hb3; have t0 := GO.out _ HB3.out _ _ q0; have t1 := GO.out _ HB3.out _ _ q1; have t2 := GO.out _ HB3.out _ _ q2; have t3 := GO.out _ HB3.out _ _ q3; have t4 := GO.out _ HB3.out _ _ q4; have t5 := GO.out _ HB3.out _ _ q5; have t6 := GO.out _ HB3.out _ _ q6; have t7 := GO.out _ HB3.out _ _ q7; have t8 := GO.out _ HB3.out _ _ q8; have t9 := GO.out _ HB3.out _ _ q9; have t10 := GO.out _ HB3.out _ _ q10; have t11 := GO.out _ HB3.out _ _ q11; have t12 := GO.out _ HB3.out _ _ q12)
          | (go_at_call 13; refine (HX13.out _ HB3.out).mono ?_; rintro e w4 ⟨rfl, hb4⟩; have HB4 := Lib.hid (HB3.out.trans (hb4.mono HB3.out.size)); clear hb4; have y0 := GO.out _ HB4.out _ _ q0; have y1 := GO.out _ HB4.out _ _ q1; have y2 := GO.out _ HB4.out _ _ q2; have y3 := GO.out _ HB4.out _ _ q3; have y4 := GO.out _ HB4.out _ _ q4; have y5 := GO.out _ HB4.out _ _ q5; have y6 := GO.out _ HB4.out _ _ q6; have y7 := GO.out _ HB4.out _ _ q7; have y8 := GO.out _ HB4.out _ _ q8; have y9 := GO.out _ HB4.out _ _ q9; have y10 := GO.out _ HB4.out _ _ q10; have y11 := GO.out _ HB4.out _ _ q11; have y12 := GO.out _ HB4.out _ _ q12)
          | (go_at_call 14; refine (HX14.out _ HB4.out).mono ?_; rintro e w5 ⟨rfl, hb5⟩; have HB5 := Lib.hid (HB4.out.trans (hb5.mono HB4.out.size)); clear hb5)
          | (go_at_call 15; refine (HX15.out _).mono ?_; rintro e w6 ⟨rfl, hb6⟩; have HB6 := Lib.hid (HB5.out.trans (hb6.mono HB5.out.size)); clear hb6)
        go_returns
        exact ⟨by first | rfl | simp, HB.out.trans (HB6.out.mono HB.out.size)⟩
      · rw [textR_bad HCE.out.symm (by rw [HML.out]; omega) hok] at ht
        have hsb : sb = ⟨#[]⟩ := congrArg Prod.fst ht
        obtain rfl : se = 1 := congrArg Prod.snd ht
        have hr : rtextR c ids' = (⟨#[]⟩, false) := by unfold rtextR; rw [if_neg hok]
        rw [hr] at HX14
        have es := hempty sb hsb
        have et := hempty tb (by rw [HTB.out, hsb, fixT_empty])
        clear ht hsb hempty hok hr
        go_wp2_with first
          | (go_at_call 11; refine (HX11.out _ (Below.refl _ _)).mono ?_; rintro e w2 ⟨rfl, hb2⟩; have HB2 := Lib.hid hb2; clear hb2; have r0 := GO.out _ HB2.out _ _ q0; have r1 := GO.out _ HB2.out _ _ q1; have r2 := GO.out _ HB2.out _ _ q2; have r3 := GO.out _ HB2.out _ _ q3; have r4 := GO.out _ HB2.out _ _ q4; have r5 := GO.out _ HB2.out _ _ q5; have r6 := GO.out _ HB2.out _ _ q6; have r7 := GO.out _ HB2.out _ _ q7; have r8 := GO.out _ HB2.out _ _ q8; have r9 := GO.out _ HB2.out _ _ q9; have r10 := GO.out _ HB2.out _ _ q10; have r11 := GO.out _ HB2.out _ _ q11; have r12 := GO.out _ HB2.out _ _ q12)
          | (go_at_call 12; refine (HX12.out _ HB2.out).mono ?_; rintro e w3 ⟨rfl, hb3⟩; have HB3 := Lib.hid (HB2.out.trans (hb3.mono HB2.out.size)); clear hb3; have t0 := GO.out _ HB3.out _ _ q0; have t1 := GO.out _ HB3.out _ _ q1; have t2 := GO.out _ HB3.out _ _ q2; have t3 := GO.out _ HB3.out _ _ q3; have t4 := GO.out _ HB3.out _ _ q4; have t5 := GO.out _ HB3.out _ _ q5; have t6 := GO.out _ HB3.out _ _ q6; have t7 := GO.out _ HB3.out _ _ q7; have t8 := GO.out _ HB3.out _ _ q8; have t9 := GO.out _ HB3.out _ _ q9; have t10 := GO.out _ HB3.out _ _ q10; have t11 := GO.out _ HB3.out _ _ q11; have t12 := GO.out _ HB3.out _ _ q12)
          | (go_at_call 13; refine (HX13.out _ HB3.out).mono ?_; rintro e w4 ⟨rfl, hb4⟩; have HB4 := Lib.hid (HB3.out.trans (hb4.mono HB3.out.size)); clear hb4; have y0 := GO.out _ HB4.out _ _ q0; have y1 := GO.out _ HB4.out _ _ q1; have y2 := GO.out _ HB4.out _ _ q2; have y3 := GO.out _ HB4.out _ _ q3; have y4 := GO.out _ HB4.out _ _ q4; have y5 := GO.out _ HB4.out _ _ q5; have y6 := GO.out _ HB4.out _ _ q6; have y7 := GO.out _ HB4.out _ _ q7; have y8 := GO.out _ HB4.out _ _ q8; have y9 := GO.out _ HB4.out _ _ q9; have y10 := GO.out _ HB4.out _ _ q10; have y11 := GO.out _ HB4.out _ _ q11; have y12 := GO.out _ HB4.out _ _ q12)
          | (go_at_call 14; refine (HX14.out _ HB4.out).mono ?_; rintro e w5 ⟨rfl, hb5⟩; have HB5 := Lib.hid (HB4.out.trans (hb5.mono HB4.out.size)); clear hb5)
        go_returns
        exact ⟨by first | rfl | simp, HB.out.trans (HB5.out.mono HB.out.size)⟩
  · have e0 : (ce == 0) = false := by simpa using h0
    have e1 : (ce != 0) = true := by simpa using h0
    have ht := HT.out
    rw [textR_cfg (by rw [← HCE.out]; exact h0), ← HCE.out] at ht
    have hsb : sb = ⟨#[]⟩ := congrArg Prod.fst ht
    obtain rfl : se = ce := congrArg Prod.snd ht
    have es := hempty sb hsb
    have et := hempty tb (by rw [HTB.out, hsb, fixT_empty])
    have e2 : (se == se) = true := by simp
    clear ht hsb hempty h0
    go_wp2_with first
      | (go_at_call 11; refine (HX11.out _ (Below.refl _ _)).mono ?_; rintro e w2 ⟨rfl, hb2⟩; have HB2 := Lib.hid hb2; clear hb2; have r0 := GO.out _ HB2.out _ _ q0; have r1 := GO.out _ HB2.out _ _ q1; have r2 := GO.out _ HB2.out _ _ q2; have r3 := GO.out _ HB2.out _ _ q3; have r4 := GO.out _ HB2.out _ _ q4; have r5 := GO.out _ HB2.out _ _ q5; have r6 := GO.out _ HB2.out _ _ q6; have r7 := GO.out _ HB2.out _ _ q7; have r8 := GO.out _ HB2.out _ _ q8; have r9 := GO.out _ HB2.out _ _ q9; have r10 := GO.out _ HB2.out _ _ q10; have r11 := GO.out _ HB2.out _ _ q11; have r12 := GO.out _ HB2.out _ _ q12)
      | (go_at_call 12; refine (HX12.out _ HB2.out).mono ?_; rintro e w3 ⟨rfl, hb3⟩; have HB3 := Lib.hid (HB2.out.trans (hb3.mono HB2.out.size)); clear hb3; have t0 := GO.out _ HB3.out _ _ q0; have t1 := GO.out _ HB3.out _ _ q1; have t2 := GO.out _ HB3.out _ _ q2; have t3 := GO.out _ HB3.out _ _ q3; have t4 := GO.out _ HB3.out _ _ q4; have t5 := GO.out _ HB3.out _ _ q5; have t6 := GO.out _ HB3.out _ _ q6; have t7 := GO.out _ HB3.out _ _ q7; have t8 := GO.out _ HB3.out _ _ q8; have t9 := GO.out _ HB3.out _ _ q9; have t10 := GO.out _ HB3.out _ _ q10; have t11 := GO.out _ HB3.out _ _ q11; have t12 := GO.out _ HB3.out _ _ q12)
      | (go_at_call 13; refine (HX13.out _ HB3.out).mono ?_; rintro e w4 ⟨rfl, hb4⟩; have HB4 := Lib.hid (HB3.out.trans (hb4.mono HB3.out.size)); clear hb4; have y0 := GO.out _ HB4.out _ _ q0; have y1 := GO.out _ HB4.out _ _ q1; have y2 := GO.out _ HB4.out _ _ q2; have y3 := GO.out _ HB4.out _ _ q3; have y4 := GO.out _ HB4.out _ _ q4; have y5 := GO.out _ HB4.out _ _ q5; have y6 := GO.out _ HB4.out _ _ q6; have y7 := GO.out _ HB4.out _ _ q7; have y8 := GO.out _ HB4.out _ _ q8; have y9 := GO.out _ HB4.out _ _ q9; have y10 := GO.out _ HB4.out _ _ q10; have y11 := GO.out _ HB4.out _ _ q11; have y12 := GO.out _ HB4.out _ _ q12)
    go_returns
    exact ⟨by first | rfl | simp, HB.out.trans (HB4.out.mono HB.out.size)⟩
end Go.Proofs.Ytfjgfabochiflaa
