/- The maker's repeat: from so many to so many times. -/
import Derived.Test.YtfjhcoeehjephaaRe1Mc
namespace Go.Proofs.Ytfjhcoeehjephaa
open Go.RowKit
attribute [local go_sem ↓] Go.wp_at_zero Go.wp_at_succ

set_option maxRecDepth 100000 in
set_option maxHeartbeats 16000000 in
theorem rep_shuts (t : Tr) (hk : t.kind = 4) (hhi : ¬ t.hi < 0) (ih : ∀ k, k ∈ t.kids → PartAt k) : RepAt t := by
  intro w0 p S a z E v W f o A n c h ht hsh hwf hf ho hfo hS hE
  have hr := repT_of hsh.ok hk
  obtain ⟨W1, hW1⟩ : ∃ W1, W1 = W.alloc (tbox t A n c) := ⟨_, rfl⟩
  have h1 := h.alloc (tbox t A n c)
  have q5 : (W.alloc (tbox t A n c)).cell? ⟨W.heap.size, 5, none⟩ = some (.int .i64 t.lo) := by simp
  have q6 : (W.alloc (tbox t A n c)).cell? ⟨W.heap.size, 6, none⟩ = some (.int .i64 t.hi) := by simp
  have q7 : (W.alloc (tbox t A n c)).cell? ⟨W.heap.size, 7, none⟩ = some (.slice A n c) := by simp
  have hwn := Went.alloc (p := p) (v := v) W (tbox t A n c)
  have hgl : W.heap.size < (W.alloc (tbox t A n c)).heap.size := by simp
  rw [← hW1] at h1 q5 q6 q7 hwn hgl
  obtain ⟨KA, KN, KC, hkk⟩ := ht.out
  have hlen := hkk.len
  obtain rfl : n = 1 := by have := hr.one; omega
  obtain ⟨g, off, rfl, hbl, p0, p1, p2, p3, p4, p5, p6, p7⟩ := (hkk.keep h1.bel).eight (k := 0) (by omega)
  simp only [Nat.zero_mul, Nat.add_zero] at p0 p1 p2 p3 p4 p5 p6 p7
  have hkid := hkk.kid 0 (by omega)
  have hmem : t.kids.getD 0 noTr ∈ t.kids := getD_mem (by omega)
  have IH := ih _ hmem
  have hsk := hsh.kid hmem
  have hwk := hwf.kid hmem
  obtain ⟨kid, hkid'⟩ : ∃ kid, kid = t.kids.getD 0 noTr := ⟨_, rfl⟩
  obtain ⟨tms, htms⟩ : ∃ tms, tms = t.times := ⟨_, rfl⟩
  rw [← hkid'] at p0 p1 p2 p3 p4 p5 p6 hkid IH hsk hwk hr
  rw [← htms] at hr
  obtain ⟨ka, hka⟩ : ∃ x, x = KA 0 := ⟨_, rfl⟩
  obtain ⟨kn, hkn⟩ : ∃ x, x = KN 0 := ⟨_, rfl⟩
  obtain ⟨kc, hkc⟩ : ∃ x, x = KC 0 := ⟨_, rfl⟩
  rw [← hka, ← hkn] at hkid
  rw [← hka, ← hkn, ← hkc] at p7
  obtain ⟨W2, hW2⟩ : ∃ W2, W2 = W1.alloc (kbox kid ka kn kc) := ⟨_, rfl⟩
  have h2 := h1.alloc (kbox kid ka kn kc)
  have hwn2 := hwn.allocd (kbox kid ka kn kc)
  have hq5 : (W1.alloc (kbox kid ka kn kc)).cell? ⟨W.heap.size, 5, none⟩ = some (.int .i64 t.lo) := (World.cell?_alloc_lt _ _ _ hgl).trans q5
  have hq6 : (W1.alloc (kbox kid ka kn kc)).cell? ⟨W.heap.size, 6, none⟩ = some (.int .i64 t.hi) := (World.cell?_alloc_lt _ _ _ hgl).trans q6
  have hr8 : ∀ j, (W1.alloc (kbox kid ka kn kc)).cell? ⟨W1.heap.size, j, none⟩ = _ := fun j => cell_of_row _ _ _ _ _ _ (heap_alloc_new W1 _)
  have hgl2 : W.heap.size < (W1.alloc (kbox kid ka kn kc)).heap.size := by simp; omega
  have hgl3 : W1.heap.size < (W1.alloc (kbox kid ka kn kc)).heap.size := by simp
  rw [← hW2] at h2 hwn2 hq5 hq6 hr8 hgl2 hgl3
  have HQ5 := Lib.hid (fun (v' : Value) (wr : World) (hw : Went p v v' W2 wr) => (hw.cell (g := W.heap.size) hgl2 (by have := h.lt; omega) (fun e => by have := (h.row_lt e).2; omega)).trans hq5)
  have HQ6 := Lib.hid (fun (v' : Value) (wr : World) (hw : Went p v v' W2 wr) => (hw.cell (g := W.heap.size) hgl2 (by have := h.lt; omega) (fun e => by have := (h.row_lt e).2; omega)).trans hq6)
  have HBX := Lib.hid (fun (v' : Value) (wr : World) (hw : Went p v v' W2 wr) (j : Nat) => (hw.cell (g := W1.heap.size) (j := j) hgl3 (by have := h1.lt; omega) (fun e => by have := (h1.row_lt e).2; omega)).trans (hr8 j))
  obtain ⟨gx, hgx⟩ : ∃ gx : Nat, (gx : Int) = t.hi := ⟨t.hi.toNat, by omega⟩
  obtain ⟨fx, hfx⟩ : ∃ fx : Nat, (fx : Int) = t.lo := ⟨t.lo.toNat, by have := hr.lo0; omega⟩
  have hl0 := hr.lo0
  have hl20 := hr.lo20
  have hc1 := hr.c1
  have hfxc : fx ≤ tms := by omega
  have hgxc : gx ≤ tms := by omega
  have hrh := hr.hi
  have hfg : fx ≤ gx := by omega
  have dhi : decide (t.hi < 0) = false := by simpa using hhi
  have HFX := Lib.hid (And.intro hfx (And.intro hfxc (And.intro hgx (And.intro hgxc hfg))))
  have HRT := Lib.hid hr
  have HIK := Lib.hid IH
  have HF := Lib.hid (And.intro hf (And.intro ho (And.intro hfo (And.intro hE hhi))))
  have HKI := Lib.hid (And.intro hkid (And.intro hsk hwk))
  have HB := Lib.hid (RepI.begin (t := t) (kd := kid) (E := E) (f := f) hS)
  have H2 := Lib.hid h2
  have HWN := Lib.hid hwn2
  have HW1 := Lib.hid hW1
  have HW2 := Lib.hid hW2
  have hfx20 : fx ≤ 20 := by omega
  have hgx20 : gx ≤ 20 := by omega
  have HGX := Lib.hid hgx
  clear hrh hfg hgxc hgx hk h ht hkk hsh hwf hf ho hfo hE hS h1 ih hlen hgl hr hkid' htms hkid IH hsk hwk hka hkn hkc hwn h2 hwn2 hr8 hgl2 hgl3 hfx hfxc hc1 hmem hhi
  go_enter Try.func71, Try.ntmps71
  go_upto_region 1 with (fail)
  rw [← HW1.out]
  clear HW1 hW1
  go_upto_region 2 with (fail)
  rw [← HW2.out]
  have HN2 := Lib.hid hW2
  clear HW2 hW2
  go_upto_region 6 with (fail)
  clear hq5 hq6
  go_loopw [2, 10] (fun fr iv wr => ∃ (i cur S' : Nat) (E' : List Ed) (b : Bool) (v' : Value), i ≤ fx ∧ iv = .int .i64 (i : Int) ∧ fr = .int .i64 (cur : Int) ∧ RepI t kid f S E i cur S' E' b ∧ MI w0 p S' a z E' b v' wr ∧ Went p v v' W2 wr) (fun _ iv _ => fx - (intOf iv).toNat)
  case atStart => exact ⟨0, f, S, E, false, v, by omega, rfl, rfl, HB.out, H2.out, Went.refl _ _ _⟩
  case round =>
    obtain ⟨i, cur, S', E', b, v', hin, rfl, rfl, hal, hmi, hwt⟩ := hrel
    obtain ⟨w3, rfl⟩ : ∃ w3 : World, w3 = wr := ⟨_, rfl⟩
    have qr5 := HQ5.out v' w3 hwt
    have qr6 := HQ6.out v' w3 hwt
    have m4 := hmi.blk.cell 4
    simp only [List.getElem?_cons_zero, List.getElem?_cons_succ] at m4
    have r0 := HBX.out v' w3 hwt 0
    have r1 := HBX.out v' w3 hwt 1
    have r2 := HBX.out v' w3 hwt 2
    have r3 := HBX.out v' w3 hwt 3
    have r4 := HBX.out v' w3 hwt 4
    have r5 := HBX.out v' w3 hwt 5
    have r6 := HBX.out v' w3 hwt 6
    have r7 := HBX.out v' w3 hwt 7
    simp at r0 r1 r2 r3 r4 r5 r6 r7
    have HAL := Lib.hid hal
    have HMI := Lib.hid hmi
    have HWT := Lib.hid hwt
    clear hal hmi hwt
    by_cases hgo : i < fx ∧ b = false
    · obtain ⟨hlt, rfl⟩ := hgo
      have d0 : decide ((i : Int) < t.lo) = true := by have := HFX.out.1; simp; omega
      go_wp2_with (first
        | (go_at_call 46; refine (state_gen w0 p S' a z E' v' _ false HMI.out HAL.out.hi).mono ?_; rintro e w4 ⟨l1, S1, b1, rfl, hst, hm4, ht4⟩; have s0 := HBX.out v' w4 (HWT.out.trans ht4) 0; have s1 := HBX.out v' w4 (HWT.out.trans ht4) 1; have s2 := HBX.out v' w4 (HWT.out.trans ht4) 2; have s3 := HBX.out v' w4 (HWT.out.trans ht4) 3; have s4 := HBX.out v' w4 (HWT.out.trans ht4) 4; have s5 := HBX.out v' w4 (HWT.out.trans ht4) 5; have s6 := HBX.out v' w4 (HWT.out.trans ht4) 6; have s7 := HBX.out v' w4 (HWT.out.trans ht4) 7; simp at s0 s1 s2 s3 s4 s5 s6 s7; have HST := Lib.hid hst; have HM4 := Lib.hid hm4; have HT4 := Lib.hid (HWT.out.trans ht4); clear hst hm4 ht4)
        | (go_at_call 47; refine (part_gen HIK.out w0 p S1 a z E' v' _ b1 cur l1 ka kn kc HM4.out HKI.out.1 HKI.out.2.1 HKI.out.2.2 (HAL.out.goes HRT.out HF.out.2.2.2.1 HF.out.1 HST.out)).mono ?_; rintro e w5 ⟨rfl, S2, E2, b2, v2, hg2, hm2, ht2⟩; have HG2 := Lib.hid hg2; have HM2 := Lib.hid hm2; have HT2 := Lib.hid ht2; clear hg2 hm2 ht2))
      go_roundw
      case rel => exact ⟨i + 1, l1, S2, E2, b2, v2, by omega, by go_num, rfl, HAL.out.step HRT.out (by have := HFX.out.2.1; omega) HF.out.1 HST.out HG2.out, HM2.out, HT4.out.trans HT2.out⟩
      case measure => simp [intOf]; omega
    · have hend : b = false → i = fx := fun hb => by
        have : ¬ i < fx := fun h => hgo ⟨h, hb⟩
        omega
      have HEND := Lib.hid hend
      clear hend hgo
      by_cases hlt : i < fx
      · obtain rfl : b = true := by
          cases b
          · exact absurd (HEND.out rfl) (by omega)
          · rfl
        have d1 : decide ((i : Int) < t.lo) = true := by have := HFX.out.1; simp; omega
        go_upto_region 21 with (fail)
        go_loopw [2, 14] (fun fr iv wr => ∃ (i cur S' : Nat) (E' : List Ed) (b : Bool) (v' : Value), fx ≤ i ∧ i ≤ gx ∧ iv = .int .i64 (i : Int) ∧ fr = .int .i64 (cur : Int) ∧ RepJ t kid f o S E fx i cur S' E' b ∧ MI w0 p S' a z E' b v' wr ∧ Went p v v' W2 wr) (fun _ iv _ => gx - (intOf iv).toNat)
        case atStart => exact ⟨fx, cur, S', E', _, v', by omega, HFX.out.2.2.2.2, by first | rfl | rw [HFX.out.1], rfl, RepJ.from HAL.out HF.out.2.1 HF.out.2.2.1 (by first | exact HEND.out | (intro h; cases h)), HMI.out, HWT.out⟩
        case round =>
          clear HAL HMI HWT HEND d1 qr5 qr6 m4 r0 r1 r2 r3 r4 r5 r6 r7
          obtain ⟨i, cur, S', E', b, v', hin0, hin, rfl, rfl, hal, hmi, hwt⟩ := hrel
          obtain ⟨w3, rfl⟩ : ∃ w3 : World, w3 = wr := ⟨_, rfl⟩
          have qr6 := HQ6.out v' w3 hwt
          have m4 := hmi.blk.cell 4
          simp only [List.getElem?_cons_zero, List.getElem?_cons_succ] at m4
          have HAL := Lib.hid hal
          have HMI := Lib.hid hmi
          have HWT := Lib.hid hwt
          clear hal hmi hwt
          by_cases hgo : i < gx ∧ b = false
          · obtain ⟨hlt, rfl⟩ := hgo
            have d2 : decide ((i : Int) < t.hi) = true := by have := HGX.out; simp; omega
            have HI := Lib.hid (And.intro hin0 hlt)
            go_wp2_with (first
              | (go_at_call 47; refine (part_gen HIK.out w0 p S2 a z _ v7 _ b2 l2 l1 ka kn kc HM7.out HKI.out.1 HKI.out.2.1 HKI.out.2.2 (HAL.out.goes HRT.out HF.out.2.2.2.1 HST.out HST2.out)).mono ?_; rintro e w8 ⟨rfl, S3, E3, b3, v8, hg8, hm8, ht8⟩; have HG8 := Lib.hid hg8; have HM8 := Lib.hid hm8; have HT8 := Lib.hid (HT7.out.trans ht8); clear hg8 hm8 ht8)
              | (go_at_call 70; refine (free_any w0 p S2 a z _ v6 _ b2 cur l2 HM6.out (by have := HAL.out.cap HRT.out HF.out.2.2.2.1; rw [List.length_append]; simp only [List.length_cons, List.length_nil]; omega)).mono ?_; rintro e w7 ⟨rfl, v7, hm7, ht7⟩; have s0 := HBX.out v7 w7 (HT6.out.trans ht7) 0; have s1 := HBX.out v7 w7 (HT6.out.trans ht7) 1; have s2 := HBX.out v7 w7 (HT6.out.trans ht7) 2; have s3 := HBX.out v7 w7 (HT6.out.trans ht7) 3; have s4 := HBX.out v7 w7 (HT6.out.trans ht7) 4; have s5 := HBX.out v7 w7 (HT6.out.trans ht7) 5; have s6 := HBX.out v7 w7 (HT6.out.trans ht7) 6; have s7 := HBX.out v7 w7 (HT6.out.trans ht7) 7; simp at s0 s1 s2 s3 s4 s5 s6 s7; have HM7 := Lib.hid hm7; have HT7 := Lib.hid (HT6.out.trans ht7); clear hm7 ht7)
              | (go_at_call 70; refine (free_any w0 p S2 a z E' v' _ b2 cur o HM5.out (by have := HAL.out.cap HRT.out HF.out.2.2.2.1; omega)).mono ?_; rintro e w6 ⟨rfl, v6, hm6, ht6⟩; have HM6 := Lib.hid hm6; have HT6 := Lib.hid (HT5.out.trans ht6); clear hm6 ht6)
              | (go_at_call 46; refine (state_gen w0 p S1 a z E' v' _ b1 HM4.out (HST.out.le HAL.out.hi)).mono ?_; rintro e w5 ⟨l2, S2, b2, rfl, hst, hm5, ht5⟩; have HST2 := Lib.hid hst; have HM5 := Lib.hid hm5; have HT5 := Lib.hid (HT4.out.trans ht5); clear hst hm5 ht5)
              | (go_at_call 46; refine (state_gen w0 p S' a z E' v' _ false HMI.out HAL.out.hi).mono ?_; rintro e w4 ⟨l1, S1, b1, rfl, hst, hm4, ht4⟩; have HST := Lib.hid hst; have HM4 := Lib.hid hm4; have HT4 := Lib.hid (HWT.out.trans ht4); clear hst hm4 ht4))
            go_roundw
            case rel => exact ⟨i + 1, l1, S3, E3, b3, v8, by omega, by omega, by go_num, rfl, HAL.out.step HRT.out HI.out.1 (by have := HFX.out.2.2.2.1; have := HI.out; omega) HF.out.1 HF.out.2.1 HF.out.2.2.1 HST.out HST2.out HG8.out, HM8.out, HT8.out⟩
            case measure => simp [intOf]; omega
          · have hend : b = false → (i : Int) = t.hi := fun hb => by
              have : ¬ i < gx := fun h => hgo ⟨h, hb⟩
              have := HGX.out
              omega
            have HEND := Lib.hid hend
            clear hend hgo
            by_cases hlt : i < gx
            · obtain rfl : b = true := by
                cases b
                · exact absurd (HEND.out rfl) (by have := HGX.out; omega)
                · rfl
              have d2 : decide ((i : Int) < t.hi) = true := by have := HGX.out; simp; omega
              go_wp2_with (go_at_call 70; refine (free_any w0 p S' a z E' v' _ true cur o HMI.out (by have := HAL.out.cap HRT.out HF.out.2.2.2.1; omega)).mono ?_; rintro e w4 ⟨rfl, v4, hm4, ht4⟩; have HM4 := Lib.hid hm4; have HT4 := Lib.hid (HWT.out.trans ht4); clear hm4 ht4)
              go_returns
              exact ⟨by first | rfl | simp, S', _, _, v4, HAL.out.done HRT.out HFX.out.1 (by first | exact HEND.out | (intro h; cases h)) (by have := HFX.out; omega) HF.out.2.1 HF.out.2.2.1, HM4.out, HWN.out.trans HT4.out⟩
            · have d2 : decide ((i : Int) < t.hi) = false := by have := HGX.out; simp; omega
              go_wp2_with (go_at_call 70; refine (free_any w0 p S' a z E' v' _ b cur o HMI.out (by have := HAL.out.cap HRT.out HF.out.2.2.2.1; omega)).mono ?_; rintro e w4 ⟨rfl, v4, hm4, ht4⟩; have HM4 := Lib.hid hm4; have HT4 := Lib.hid (HWT.out.trans ht4); clear hm4 ht4)
              go_returns
              exact ⟨by first | rfl | simp, S', _, _, v4, HAL.out.done HRT.out HFX.out.1 (by first | exact HEND.out | (intro h; cases h)) (by have := HFX.out; omega) HF.out.2.1 HF.out.2.2.1, HM4.out, HWN.out.trans HT4.out⟩
      · have d1 : decide ((i : Int) < t.lo) = false := by have := HFX.out.1; simp; omega
        go_upto_region 21 with (fail)
        go_loopw [2, 14] (fun fr iv wr => ∃ (i cur S' : Nat) (E' : List Ed) (b : Bool) (v' : Value), fx ≤ i ∧ i ≤ gx ∧ iv = .int .i64 (i : Int) ∧ fr = .int .i64 (cur : Int) ∧ RepJ t kid f o S E fx i cur S' E' b ∧ MI w0 p S' a z E' b v' wr ∧ Went p v v' W2 wr) (fun _ iv _ => gx - (intOf iv).toNat)
        case atStart => exact ⟨fx, cur, S', E', _, v', by omega, HFX.out.2.2.2.2, by first | rfl | rw [HFX.out.1], rfl, RepJ.from HAL.out HF.out.2.1 HF.out.2.2.1 (by first | exact HEND.out | (intro h; cases h)), HMI.out, HWT.out⟩
        case round =>
          clear HAL HMI HWT HEND d1 qr5 qr6 m4 r0 r1 r2 r3 r4 r5 r6 r7
          obtain ⟨i, cur, S', E', b, v', hin0, hin, rfl, rfl, hal, hmi, hwt⟩ := hrel
          obtain ⟨w3, rfl⟩ : ∃ w3 : World, w3 = wr := ⟨_, rfl⟩
          have qr6 := HQ6.out v' w3 hwt
          have m4 := hmi.blk.cell 4
          simp only [List.getElem?_cons_zero, List.getElem?_cons_succ] at m4
          have HAL := Lib.hid hal
          have HMI := Lib.hid hmi
          have HWT := Lib.hid hwt
          clear hal hmi hwt
          by_cases hgo : i < gx ∧ b = false
          · obtain ⟨hlt, rfl⟩ := hgo
            have d2 : decide ((i : Int) < t.hi) = true := by have := HGX.out; simp; omega
            have HI := Lib.hid (And.intro hin0 hlt)
            go_wp2_with (first
              | (go_at_call 47; refine (part_gen HIK.out w0 p S2 a z _ v7 _ b2 l2 l1 ka kn kc HM7.out HKI.out.1 HKI.out.2.1 HKI.out.2.2 (HAL.out.goes HRT.out HF.out.2.2.2.1 HST.out HST2.out)).mono ?_; rintro e w8 ⟨rfl, S3, E3, b3, v8, hg8, hm8, ht8⟩; have HG8 := Lib.hid hg8; have HM8 := Lib.hid hm8; have HT8 := Lib.hid (HT7.out.trans ht8); clear hg8 hm8 ht8)
              | (go_at_call 70; refine (free_any w0 p S2 a z _ v6 _ b2 cur l2 HM6.out (by have := HAL.out.cap HRT.out HF.out.2.2.2.1; rw [List.length_append]; simp only [List.length_cons, List.length_nil]; omega)).mono ?_; rintro e w7 ⟨rfl, v7, hm7, ht7⟩; have s0 := HBX.out v7 w7 (HT6.out.trans ht7) 0; have s1 := HBX.out v7 w7 (HT6.out.trans ht7) 1; have s2 := HBX.out v7 w7 (HT6.out.trans ht7) 2; have s3 := HBX.out v7 w7 (HT6.out.trans ht7) 3; have s4 := HBX.out v7 w7 (HT6.out.trans ht7) 4; have s5 := HBX.out v7 w7 (HT6.out.trans ht7) 5; have s6 := HBX.out v7 w7 (HT6.out.trans ht7) 6; have s7 := HBX.out v7 w7 (HT6.out.trans ht7) 7; simp at s0 s1 s2 s3 s4 s5 s6 s7; have HM7 := Lib.hid hm7; have HT7 := Lib.hid (HT6.out.trans ht7); clear hm7 ht7)
              | (go_at_call 70; refine (free_any w0 p S2 a z E' v' _ b2 cur o HM5.out (by have := HAL.out.cap HRT.out HF.out.2.2.2.1; omega)).mono ?_; rintro e w6 ⟨rfl, v6, hm6, ht6⟩; have HM6 := Lib.hid hm6; have HT6 := Lib.hid (HT5.out.trans ht6); clear hm6 ht6)
              | (go_at_call 46; refine (state_gen w0 p S1 a z E' v' _ b1 HM4.out (HST.out.le HAL.out.hi)).mono ?_; rintro e w5 ⟨l2, S2, b2, rfl, hst, hm5, ht5⟩; have HST2 := Lib.hid hst; have HM5 := Lib.hid hm5; have HT5 := Lib.hid (HT4.out.trans ht5); clear hst hm5 ht5)
              | (go_at_call 46; refine (state_gen w0 p S' a z E' v' _ false HMI.out HAL.out.hi).mono ?_; rintro e w4 ⟨l1, S1, b1, rfl, hst, hm4, ht4⟩; have HST := Lib.hid hst; have HM4 := Lib.hid hm4; have HT4 := Lib.hid (HWT.out.trans ht4); clear hst hm4 ht4))
            go_roundw
            case rel => exact ⟨i + 1, l1, S3, E3, b3, v8, by omega, by omega, by go_num, rfl, HAL.out.step HRT.out HI.out.1 (by have := HFX.out.2.2.2.1; have := HI.out; omega) HF.out.1 HF.out.2.1 HF.out.2.2.1 HST.out HST2.out HG8.out, HM8.out, HT8.out⟩
            case measure => simp [intOf]; omega
          · have hend : b = false → (i : Int) = t.hi := fun hb => by
              have : ¬ i < gx := fun h => hgo ⟨h, hb⟩
              have := HGX.out
              omega
            have HEND := Lib.hid hend
            clear hend hgo
            by_cases hlt : i < gx
            · obtain rfl : b = true := by
                cases b
                · exact absurd (HEND.out rfl) (by have := HGX.out; omega)
                · rfl
              have d2 : decide ((i : Int) < t.hi) = true := by have := HGX.out; simp; omega
              go_wp2_with (go_at_call 70; refine (free_any w0 p S' a z E' v' _ true cur o HMI.out (by have := HAL.out.cap HRT.out HF.out.2.2.2.1; omega)).mono ?_; rintro e w4 ⟨rfl, v4, hm4, ht4⟩; have HM4 := Lib.hid hm4; have HT4 := Lib.hid (HWT.out.trans ht4); clear hm4 ht4)
              go_returns
              exact ⟨by first | rfl | simp, S', _, _, v4, HAL.out.done HRT.out HFX.out.1 (by first | exact HEND.out | (intro h; cases h)) (by have := HFX.out; omega) HF.out.2.1 HF.out.2.2.1, HM4.out, HWN.out.trans HT4.out⟩
            · have d2 : decide ((i : Int) < t.hi) = false := by have := HGX.out; simp; omega
              go_wp2_with (go_at_call 70; refine (free_any w0 p S' a z E' v' _ b cur o HMI.out (by have := HAL.out.cap HRT.out HF.out.2.2.2.1; omega)).mono ?_; rintro e w4 ⟨rfl, v4, hm4, ht4⟩; have HM4 := Lib.hid hm4; have HT4 := Lib.hid (HWT.out.trans ht4); clear hm4 ht4)
              go_returns
              exact ⟨by first | rfl | simp, S', _, _, v4, HAL.out.done HRT.out HFX.out.1 (by first | exact HEND.out | (intro h; cases h)) (by have := HFX.out; omega) HF.out.2.1 HF.out.2.2.1, HM4.out, HWN.out.trans HT4.out⟩
end Go.Proofs.Ytfjhcoeehjephaa
