/- The maker's part: a chain. -/
import Derived.Test.YtfjhcoeehjephaaMkMc
namespace Go.Proofs.Ytfjhcoeehjephaa
open Go.RowKit
attribute [local go_sem ↓] Go.wp_at_zero Go.wp_at_succ

theorem room_less {y b S : Nat} {K : Nat} (h : y + 4 * (b * (2001 - S)) ≤ K) (d : Nat) : y + 4 * (b * (2001 - (S + d))) ≤ K := by
  have : b * (2001 - (S + d)) ≤ b * (2001 - S) := Nat.mul_le_mul_left b (by omega)
  omega

set_option maxRecDepth 100000 in
set_option maxHeartbeats 16000000 in
theorem part_none (t : Tr) (hk : t.kind = 2) (h0 : t.kids.length = 0) : PartAt t := by
  intro w0 p S a z E v W f o A n c h ht hsh hwf hf ho hfo hS hE
  have e1 : (t.kind == 1) = false := by simp [hk]
  have e2 : (t.kind == 2) = true := by simp [hk]
  obtain ⟨W1, hW1⟩ : ∃ W1, W1 = W.alloc (tbox t A n c) := ⟨_, rfl⟩
  have h1 := h.alloc (tbox t A n c)
  have q0 : (W.alloc (tbox t A n c)).cell? ⟨W.heap.size, 0, none⟩ = some (.int .i64 t.kind) := by simp
  have q7 : (W.alloc (tbox t A n c)).cell? ⟨W.heap.size, 7, none⟩ = some (.slice A n c) := by simp
  have hwn := Lib.hid (Went.alloc (p := p) (v := v) W (tbox t A n c))
  rw [← hW1] at h1 q0 q7 hwn
  have c4 := h1.blk.cell 4
  simp only [List.getElem?_cons_zero, List.getElem?_cons_succ] at c4
  obtain ⟨KA, KN, KC, hkk⟩ := ht.out
  obtain rfl : n = 0 := by have := hkk.len; omega
  have HG := Lib.hid (grew_empty hk h0 hfo hS (E := E))
  have H1 := Lib.hid h1
  have HW1 := Lib.hid hW1
  have HE := Lib.hid hE
  clear hk h ht hkk hsh hwf hf ho hfo hE hS h1 h0
  go_enter Try.func47, Try.ntmps47
  go_upto_region 1 with (fail)
  rw [← HW1.out]
  clear HW1 hW1
  go_upto_region 8 with (fail)
  go_loopw [2, 47] (fun fr i wr => fr = .int .i64 (f : Int) ∧ i = .int .i64 0 ∧ wr = W1) (fun i _ _ => 0)
  case atStart => exact ⟨rfl, rfl, rfl⟩
  case round =>
    obtain ⟨rfl, rfl, rfl⟩ := hrel
    go_wp2_with (go_at_call 70; refine (free_any w0 p S a z E v _ false f o H1.out (by have := HE.out; omega)).mono ?_; rintro e w4 ⟨rfl, v4, hm4, ht4⟩; have HM4 := Lib.hid hm4; have HT4 := Lib.hid ht4; clear hm4 ht4)
    go_returns
    exact ⟨by first | rfl | simp, S, _, false, v4, HG.out, HM4.out, hwn.out.trans HT4.out⟩

set_option maxRecDepth 100000 in
set_option maxHeartbeats 16000000 in
theorem part_cat (t : Tr) (hk : t.kind = 2) (h0 : t.kids.length ≠ 0) (ih : ∀ k, k ∈ t.kids → PartAt k) : PartAt t := by
  intro w0 p S a z E v W f o A n c h ht hsh hwf hf ho hfo hS hE
  have e1 : (t.kind == 1) = false := by simp [hk]
  have e2 : (t.kind == 2) = true := by simp [hk]
  obtain ⟨W1, hW1⟩ : ∃ W1, W1 = W.alloc (tbox t A n c) := ⟨_, rfl⟩
  have h1 := h.alloc (tbox t A n c)
  have q0 : (W.alloc (tbox t A n c)).cell? ⟨W.heap.size, 0, none⟩ = some (.int .i64 t.kind) := by simp
  have q7 : (W.alloc (tbox t A n c)).cell? ⟨W.heap.size, 7, none⟩ = some (.slice A n c) := by simp
  have hwn := Lib.hid (Went.alloc (p := p) (v := v) W (tbox t A n c))
  have hgl : W.heap.size < (W.alloc (tbox t A n c)).heap.size := by simp
  rw [← hW1] at h1 q0 q7 hwn hgl
  have c4 := h1.blk.cell 4
  simp only [List.getElem?_cons_zero, List.getElem?_cons_succ] at c4
  obtain ⟨KA, KN, KC, hkk⟩ := ht.out
  have hlen := hkk.len
  have hle := hkk.le
  have e70 : ((n : Int) == 0) = false := by simp; omega
  have HQ := Lib.hid (fun (v' : Value) (wr : World) (hw : Went p v v' W1 wr) => (hw.cell hgl (by have := h.lt; omega) (fun e => by have := (h.row_lt e).2; omega) : wr.cell? ⟨W.heap.size, 7, none⟩ = _).trans q7)
  have HK := Lib.hid hkk
  have HIH := Lib.hid ih
  have HS := Lib.hid hsh
  have HWF := Lib.hid hwf
  have HF := Lib.hid (And.intro hf (And.intro ho hfo))
  have HE := Lib.hid hE
  have HTK := Lib.hid hk
  have HB := Lib.hid (CatI.begin (t := t) (E := E) (f := f) (o := o) hS)
  have H1 := Lib.hid h1
  have HW1 := Lib.hid hW1
  have HLE := Lib.hid hlen
  have HGL := Lib.hid hgl
  clear hk h ht hkk hsh hwf hf ho hfo hE hS h1 ih hlen hgl
  go_enter Try.func47, Try.ntmps47
  go_upto_region 1 with (fail)
  rw [← HW1.out]
  clear HW1 hW1
  go_upto_region 8 with (fail)
  go_loopw [2, 47] (fun fr i wr => ∃ (k cur S' : Nat) (E' : List Ed) (b : Bool) (v' : Value), k ≤ n ∧ i = .int .i64 (k : Int) ∧ fr = .int .i64 (cur : Int) ∧ CatI t f o S E k cur S' E' b ∧ MI w0 p S' a z E' b v' wr ∧ Went p v v' W1 wr) (fun _ i _ => n - (intOf i).toNat)
  case atStart => exact ⟨0, f, S, E, false, v, by omega, rfl, rfl, HB.out, H1.out, Went.refl _ _ _⟩
  case round =>
    obtain ⟨k, cur, S', E', b, v', hkn, rfl, rfl, hal, hmi, hwt⟩ := hrel
    obtain ⟨w3, rfl⟩ : ∃ w3 : World, w3 = wr := ⟨_, rfl⟩
    have qr := HQ.out v' w3 hwt
    have HAL := Lib.hid hal
    have HMI := Lib.hid hmi
    have HWT := Lib.hid hwt
    clear hal hmi hwt
    by_cases hlt : k < n
    · obtain ⟨g, off, rfl, hbl, p0, p1, p2, p3, p4, p5, p6, p7⟩ := (HK.out.keep HMI.out.bel).eight hlt
      have hkid := HK.out.kid k hlt
      have hmem : t.kids.getD k noTr ∈ t.kids := getD_mem (by have := HLE.out; omega)
      have hnk := nodesK_next t.kids k (by have := HLE.out; omega)
      have hnl := nodesL_take_le t.kids (k + 1)
      have hnp := nodesL_pos (t.kids.take k)
      have hne := Tr.nodes_eq t
      have hroom := few_room (b := (t.kids.getD k noTr).nodes) HAL.out.few HAL.out.lo HAL.out.hi (by omega) HE.out
      have IH := HIH.out _ hmem
      have hsk := HS.out.kid hmem
      have hwk := HWF.out.kid hmem
      have HNX := Lib.hid (fun (S2 : Nat) (E2 : List Ed) (b2 : Bool) (hb : b = false) (hk : k + 1 < n) (hg : Grew (t.kids.getD k noTr) cur S' (S' + 1) E' S2 E2 b2) => CatI.next HTK.out (hb ▸ HAL.out) (by have := HLE.out; omega) HF.out.1 rfl hg)
      have HLA := Lib.hid (fun (S2 : Nat) (E2 : List Ed) (b2 : Bool) (hb : b = false) (hk : k + 1 = n) (hg : Grew (t.kids.getD k noTr) cur o S' E' S2 E2 b2) => CatI.last HTK.out (hb ▸ HAL.out) (by have := HLE.out; omega) HF.out.1 HF.out.2.2 HF.out.2.1 hg)
      have HCU := Lib.hid (fun (hb : b = false) => (HAL.out.at_ hb).1 (by have := HLE.out; omega))
      clear hnk hnl hnp hne
      obtain ⟨kid, hkid'⟩ : ∃ kid, kid = t.kids.getD k noTr := ⟨_, rfl⟩
      rw [← hkid'] at p0 p1 p2 p3 p4 p5 p6 hkid IH hroom hsk hwk HNX HLA
      have HIK := Lib.hid IH
      have HRO := Lib.hid hroom
      have HKI := Lib.hid (And.intro hkid (And.intro hsk hwk))
      have hmb := HMI.out.alloc (kbox kid (KA k) (KN k) (KC k))
      have HMB := Lib.hid hmb
      have hg3 : W.heap.size < w3.heap.size := Nat.lt_of_lt_of_le HGL.out HWT.out.size
      -- the kid's box behind the call of state
      have HBX := Lib.hid (fun (w4 : World) (hw : Went p v' v' (w3.alloc (kbox kid (KA k) (KN k) (KC k))) w4) (j : Nat) => (hw.cell (j := j) (g := w3.heap.size) (by simp) (by have := HMI.out.lt; omega) (fun e => by have := (HMI.out.row_lt e).2; omega)).trans (cell_of_row _ _ _ _ _ _ (heap_alloc_new w3 _)))
      clear hkid' hmem hkid IH hroom hsk hwk hmb
      by_cases hlast : k + 1 = n
      · have d58 : decide ((k : Int) < (n : Int) - 1) = false := by simp; omega
        cases b
        · go_wp2_with (go_at_call 47; refine (HIK.out w0 p S' a z E' v' _ cur o (KA k) (KN k) (KC k) HMB.out HKI.out.1 HKI.out.2.1 HKI.out.2.2 (by have := HF.out; have := HAL.out.lo; have := HCU.out (by first | rfl | trivial); omega) (by have := HF.out; have := HAL.out.lo; omega) (by have := HF.out; have := HCU.out (by first | rfl | trivial); omega) HAL.out.hi HRO.out).mono ?_; rintro e w4 ⟨rfl, S2, E2, b2, v2, hg2, hm2, ht2⟩; have HG2 := Lib.hid hg2; have HM2 := Lib.hid hm2; have HT2 := Lib.hid ht2; clear hg2 hm2 ht2)
          go_roundw
          case rel => exact ⟨k + 1, o, S2, E2, b2, v2, by omega, by go_num, by first | rfl | go_num, HLA.out S2 E2 b2 (by first | rfl | trivial) hlast HG2.out, HM2.out, HWT.out.trans ((Went.alloc _ _).trans HT2.out)⟩
          case measure => simp [intOf]; omega
        · go_wp2_with (go_at_call 47; refine (part_bad kid w0 p S' a z E' v' _ cur o (KA k) (KN k) (KC k) HMB.out).mono ?_; rintro e w4 ⟨rfl, hm2, ht2⟩; have HM2 := Lib.hid hm2; have HT2 := Lib.hid ht2; clear hm2 ht2)
          go_roundw
          case rel => exact ⟨k + 1, o, S', E', true, v', by omega, by go_num, by first | rfl | go_num, HAL.out.stay (by have := HLE.out; omega), HM2.out, HWT.out.trans ((Went.alloc _ _).trans HT2.out)⟩
          case measure => simp [intOf]; omega
      · have d58 : decide ((k : Int) < (n : Int) - 1) = true := by simp; omega
        by_cases hfull : S' = 2000
        · have HNL := Lib.hid (fun (hb : b = false) => CatI.none_left (nx := 0) HTK.out (hb ▸ HAL.out) (by have := HLE.out; omega) hfull)
          have HFU := Lib.hid hfull
          clear hfull
          go_wp2_with (first
            | (go_at_call 46; refine (state_full w0 p S' a z E' v' _ b HMB.out HFU.out).mono ?_; rintro e w4 ⟨rfl, hm4, ht4⟩; have r0 := HBX.out w4 ht4 0; have r1 := HBX.out w4 ht4 1; have r2 := HBX.out w4 ht4 2; have r3 := HBX.out w4 ht4 3; have r4 := HBX.out w4 ht4 4; have r5 := HBX.out w4 ht4 5; have r6 := HBX.out w4 ht4 6; have r7 := HBX.out w4 ht4 7; simp at r0 r1 r2 r3 r4 r5 r6 r7; have HM4 := Lib.hid hm4; have HT4 := Lib.hid ht4; clear hm4 ht4)
            | (go_at_call 47; refine (part_bad kid w0 p S' a z E' v' _ cur 0 (KA k) (KN k) (KC k) HM4.out).mono ?_; rintro e w5 ⟨rfl, hm2, ht2⟩; have HM2 := Lib.hid hm2; have HT2 := Lib.hid ht2; clear hm2 ht2))
          go_roundw
          case rel =>
            refine ⟨k + 1, 0, S', E', true, v', by omega, by go_num, by first | rfl | go_num, ?_, HM2.out, HWT.out.trans ((Went.alloc _ _).trans (HT4.out.trans HT2.out))⟩
            cases b
            · exact HNL.out (by first | rfl | trivial)
            · exact HAL.out.stay (by have := HLE.out; omega)
          case measure => simp [intOf]; omega
        · obtain rfl : b = false := by
            cases b
            · rfl
            · exact absurd (HAL.out.full rfl).1 hfull
          have HS2 := Lib.hid (show S' < 2000 by have := HAL.out.hi; omega)
          clear hfull
          go_wp2_with (first
            | (go_at_call 46; refine (state_any w0 p S' a z E' v' _ false HMB.out HS2.out).mono ?_; rintro e w4 ⟨rfl, hm4, ht4⟩; have r0 := HBX.out w4 ht4 0; have r1 := HBX.out w4 ht4 1; have r2 := HBX.out w4 ht4 2; have r3 := HBX.out w4 ht4 3; have r4 := HBX.out w4 ht4 4; have r5 := HBX.out w4 ht4 5; have r6 := HBX.out w4 ht4 6; have r7 := HBX.out w4 ht4 7; simp at r0 r1 r2 r3 r4 r5 r6 r7; have HM4 := Lib.hid hm4; have HT4 := Lib.hid ht4; clear hm4 ht4)
            | (go_at_call 47; refine (HIK.out w0 p (S' + 1) a z E' v' _ cur S' (KA k) (KN k) (KC k) HM4.out HKI.out.1 HKI.out.2.1 HKI.out.2.2 (by have := HF.out; have := HAL.out.lo; have := HCU.out (by first | rfl | trivial); omega) (by omega) (by have := HF.out; have := HAL.out.lo; have := HCU.out (by first | rfl | trivial); omega) (by have := HS2.out; omega) (room_less HRO.out 1)).mono ?_; rintro e w5 ⟨rfl, S2, E2, b2, v2, hg2, hm2, ht2⟩; have HG2 := Lib.hid hg2; have HM2 := Lib.hid hm2; have HT2 := Lib.hid ht2; clear hg2 hm2 ht2))
          go_roundw
          case rel => exact ⟨k + 1, S', S2, E2, b2, v2, by omega, by go_num, by first | rfl | go_num, HNX.out S2 E2 b2 (by first | rfl | trivial) (by omega) HG2.out, HM2.out, HWT.out.trans ((Went.alloc _ _).trans (HT4.out.trans HT2.out))⟩
          case measure => simp [intOf]; omega
    · obtain rfl : k = n := by omega
      go_wp2_with fail
      go_returns
      exact ⟨by first | rfl | simp, S', E', b, v', HAL.out.done HTK.out HLE.out.symm (by have := HLE.out; omega), HMI.out, hwn.out.trans HWT.out⟩
end Go.Proofs.Ytfjhcoeehjephaa
