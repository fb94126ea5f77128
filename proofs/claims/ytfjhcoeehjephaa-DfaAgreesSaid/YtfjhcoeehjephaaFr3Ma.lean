/- The reference's from: alternatives. -/
import Derived.Test.YtfjhcoeehjephaaFr2Ma
namespace Go.Proofs.Ytfjhcoeehjephaa
open Go.RowKit
attribute [local go_sem ↓] Go.wp_at_zero Go.wp_at_succ

set_option maxRecDepth 100000 in
set_option maxHeartbeats 16000000 in
theorem from_alt (t : Tr) (hk : t.kind = 3) (ih : ∀ k, k ∈ t.kids → FromAt k) : FromAt t := by
  intro s L X A c TA n tc W hs hL hX hp ht hsh hwf
  have e1 : (t.kind == 1) = false := by simp [hk]
  have e2 : (t.kind == 2) = false := by simp [hk]
  have e3 : (t.kind == 3) = true := by simp [hk]
  have hfb := FB.start (t := t) (TA := TA) (n := n) (tc := tc) hp
  obtain ⟨W2, hW2⟩ : ∃ W2, W2 = (W.alloc (tbox t TA n tc)).alloc (.cells (Array.replicate L (.int .i64 0)) 3) := ⟨_, rfl⟩
  rw [← hW2] at hfb
  have b0 := hfb.box.cell 0
  have b7 := hfb.box.cell 7
  simp at b0 b7
  obtain ⟨KA, KN, KC, hkk⟩ := ht.out
  have hlen := hkk.len
  have hle := hkk.le
  have hlg := lang_alt (s := s) hk
  have HKK := Lib.hid hkk
  have HIH := Lib.hid ih
  have HS := Lib.hid (And.intro hsh hwf)
  have HFW := Lib.hid (lang_fwd s)
  have HL := Lib.hid (And.intro hL (And.intro hX hs))
  have HLG := Lib.hid hlg
  have HFB := Lib.hid hfb
  have HW2 := Lib.hid hW2
  have HLEN := Lib.hid hlen
  have HP := Lib.hid hp
  have hL2 : L ≤ 1001 := by omega
  have hmk := make_one 120 3 (.int .i64 0) 8 Try.underlying120 info3 (by rfl) L (by omega) (by omega)
  clear hk hs hL hX hp ht hsh hwf hfb hkk hlen hlg ih
  go_enter Try.func73, Try.ntmps73
  go_upto_region 2 with (fail)
  rw [← HW2.out]
  clear HW2 hW2 hmk
  go_upto_region 22 with (fail)
  clear b0 b7
  go_loopw [78] (fun iv wr => ∃ (q : Nat) (O : Nat → Bool), q ≤ n ∧ iv = .int .i64 (q : Int) ∧ Blk wr (W.heap.size + 1) 3 (rowV O L) ∧ Img (altL ((t.kids.take q).map (Tr.lang s))) X O ∧ Below W.heap.size W wr) (fun iv _ => n - (intOf iv).toNat)
  case atStart => exact ⟨0, fun _ => false, by omega, rfl, HFB.out.out, fun j => by simp [altL], HFB.out.bel⟩
  case round =>
    clear HFB
    obtain ⟨q, O, hqn, rfl, hbk, him, hbl⟩ := hrel
    obtain ⟨w6, rfl⟩ : ∃ w6 : World, w6 = wr := ⟨_, rfl⟩
    have HQ := Lib.hid (And.intro hbk (And.intro him hbl))
    by_cases hlt : q < n
    · obtain ⟨gt, ot, rfl, hgt, p0, p1, p2, p3, p4, p5, p6, p7⟩ := (HKK.out.keep hbl).eight hlt
      have hmem : t.kids.getD q noTr ∈ t.kids := getD_mem (by have := HLEN.out; omega)
      have hkid := (HKK.out.kid q hlt).keep hbl
      have IH := HIH.out _ hmem
      have hsk := HS.out.1.kid hmem
      have hwk := HS.out.2.kid hmem
      have hnx : ∀ Z O1, Img ((t.kids.getD q noTr).lang s) X Z → (∀ j, O1 j = true ↔ O j = true ∨ Z j = true) → Img (altL ((t.kids.take (q + 1)).map (Tr.lang s))) X O1 := fun Z O1 hZ hO1 j => by
        rw [take_next t.kids q noTr (by have := HLEN.out; omega), hO1 j, him j, hZ j]
        constructor
        · rintro (⟨i, h1, h2⟩ | ⟨i, h1, h2⟩)
          · exact ⟨i, h1, (altK_snoc s _ _ i j).2 (.inl h2)⟩
          · exact ⟨i, h1, (altK_snoc s _ _ i j).2 (.inr h2)⟩
        · rintro ⟨i, h1, h2⟩
          exact ((altK_snoc s _ _ i j).1 h2).imp (fun h => ⟨i, h1, h⟩) (fun h => ⟨i, h1, h⟩)
      have hfk := HFW.out _ hsk
      have hkbe : Below w6.heap.size w6 (w6.alloc (kbox (t.kids.getD q noTr) (KA q) (KN q) (KC q))) := (Below.refl _ _).alloc (Nat.le_refl _) _
      have hkid2 := hkid.keep hkbe
      have hpi := (HP.out.keep hbl).keep hkbe
      obtain ⟨kid, hkid'⟩ : ∃ kid, kid = t.kids.getD q noTr := ⟨_, rfl⟩
      rw [← hkid'] at p0 p1 p2 p3 p4 p5 p6 hkid2 IH hsk hwk hnx hkbe hpi hfk
      have HNX := Lib.hid hnx
      have HKB := Lib.hid hkbe
      have HFK := Lib.hid hfk
      have HCALL := Lib.hid (IH s L X A c (KA q) (KN q) (KC q) (w6.alloc (kbox kid (KA q) (KN q) (KC q))) HL.out.2.2 HL.out.1 HL.out.2.1 hpi hkid2 hsk hwk)
      have hgo := hbk.lt
      clear hkid hkid' hmem IH hsk hwk hnx hkbe hfk hkid2 hpi hbk him hbl
      go_upto_region 26 with (go_at_call 73; refine HCALL.out.mono ?_; rintro e w7 ⟨g7, P, rfl, hg7, hblk, himg, hb7⟩; have H7 := Lib.hid (And.intro hblk (And.intro himg (And.intro (HQ.out.1.below (HKB.out.trans (hb7.mono HKB.out.size)) hgo) (HQ.out.2.2.trans ((HKB.out.trans (hb7.mono HKB.out.size)).mono HQ.out.2.2.size))))); have hne : g7 ≠ W.heap.size + 1 := (by simp at hg7; omega); clear hblk himg hb7 hg7)
      clear p0 p1 p2 p3 p4 p5 p6 p7
      go_loopw [88] (fun iv wr => ∃ (m : Nat) (O1 : Nat → Bool), m ≤ L ∧ iv = .int .i64 (m : Int) ∧ (∀ j, O1 j = true ↔ O j = true ∨ (j < m ∧ P j = true)) ∧ Blk wr (W.heap.size + 1) 3 (rowV O1 L) ∧ Blk wr g7 3 (rowV P L) ∧ Below W.heap.size W wr) (fun iv _ => L - (intOf iv).toNat)
      case atStart => exact ⟨0, O, by omega, rfl, fun j => by simp, H7.out.2.2.1, H7.out.1, H7.out.2.2.2⟩
      case round =>
        obtain ⟨m, O1, hmL, rfl, hO1, hbo, hbp, hbl⟩ := hrel
        obtain ⟨w8, rfl⟩ : ∃ w8 : World, w8 = wr := ⟨_, rfl⟩
        have HR := Lib.hid (And.intro hO1 (And.intro hbo (And.intro hbp hbl)))
        by_cases hlm : m < L
        · have c0 := hbp.cell m
          rw [rowV_get _ hlm] at c0
          have c1 := hbo.cell m
          rw [rowV_get _ hlm] at c1
          have c2 := hbo.frozen m
          obtain ⟨cq, hcq⟩ : ∃ cq, cq = P m := ⟨_, rfl⟩
          rw [← hcq] at c0
          have HCQ := Lib.hid hcq
          clear hO1 hbo hbp hbl hcq
          cases cq
          · rw [bi_false] at c0
            go_wp2_with fail
            go_roundw
            case rel => exact ⟨m + 1, O1, by omega, by go_num, fun j => orow_skip HR.out.1 (.inl HCQ.out.symm) j, HR.out.2.1, HR.out.2.2.1, HR.out.2.2.2⟩
            case measure => simp [intOf]; omega
          · rw [bi_true] at c0
            go_wp2_with fail
            go_roundw
            case rel => exact ⟨m + 1, updB O1 m true, by omega, by go_num, fun j => orow_put HR.out.1 HCQ.out.symm j, HR.out.2.1.put m true, HR.out.2.2.1.other hne _ _, below_setCell_same HR.out.2.2.2 (by omega) _⟩
            case measure => simp [intOf]; omega
        · obtain rfl : m = L := by omega
          clear hO1 hbo hbp hbl
          have hsP : Sup m P := by rw [HL.out.1]; exact H7.out.2.1.sup HFK.out (HL.out.1 ▸ HL.out.2.1)
          have hOP : ∀ j, O1 j = true ↔ O j = true ∨ P j = true := fun j => (HR.out.1 j).trans ⟨fun h9 => h9.imp (fun h => h) (fun h => h.2), fun h9 => h9.imp (fun h => h) (fun h => ⟨hsP j h, h⟩)⟩
          have HNW := Lib.hid (HNX.out P O1 H7.out.2.1 hOP)
          clear hsP hOP
          go_wp2_with fail
          go_roundw
          case rel => exact ⟨q + 1, O1, by omega, by go_num, HR.out.2.1, HNW.out, HR.out.2.2.2⟩
          case measure => simp [intOf]; omega
    · obtain rfl : q = n := by omega
      clear hbk him hbl
      go_wp2_with fail
      go_returns
      refine ⟨_, O, rfl, by omega, HQ.out.1, ?_, HQ.out.2.2⟩
      have := HQ.out.2.1
      rw [List.take_of_length_le (by have := HLEN.out; omega)] at this
      rw [HLG.out]
      exact this

set_option maxRecDepth 100000 in
set_option maxHeartbeats 16000000 in
theorem from_rep (t : Tr) (hk : t.kind = 4) (hrep : RepdAt t) : FromAt t := by
  intro s L X A c TA n tc W hs hL hX hp ht hsh hwf
  have e1 : (t.kind == 1) = false := by simp [hk]
  have e2 : (t.kind == 2) = false := by simp [hk]
  have e3 : (t.kind == 3) = false := by simp [hk]
  have e4 : (t.kind == 4) = true := by simp [hk]
  have hfb := FB.start (t := t) (TA := TA) (n := n) (tc := tc) hp
  obtain ⟨W2, hW2⟩ : ∃ W2, W2 = (W.alloc (tbox t TA n tc)).alloc (.cells (Array.replicate L (.int .i64 0)) 3) := ⟨_, rfl⟩
  rw [← hW2] at hfb
  have b0 := hfb.box.cell 0
  have b1 := hfb.box.cell 1
  have b2 := hfb.box.cell 2
  have b3 := hfb.box.cell 3
  have b4 := hfb.box.cell 4
  have b5 := hfb.box.cell 5
  have b6 := hfb.box.cell 6
  have b7 := hfb.box.cell 7
  simp at b0 b1 b2 b3 b4 b5 b6 b7
  have HC := Lib.hid (hrep s L X A c TA n tc W2 hs hL hX (hp.keep hfb.bel) (ht.keep hfb.bel) hsh hwf)
  have HFB := Lib.hid hfb
  have HW2 := Lib.hid hW2
  have hL2 : L ≤ 1001 := by omega
  have hmk := make_one 120 3 (.int .i64 0) 8 Try.underlying120 info3 (by rfl) L (by omega) (by omega)
  clear hk hs hL hX hp ht hsh hwf hfb hrep
  go_enter Try.func73, Try.ntmps73
  go_upto_region 2 with (fail)
  rw [← HW2.out]
  clear HW2 hW2 hmk
  go_wp2_with (go_at_call 87; refine HC.out.mono ?_; rintro e w7 ⟨g7, O7, rfl, hg7, hblk, himg, hb7⟩; have H7 := Lib.hid (And.intro hblk (And.intro himg hb7)))
  go_returns
  exact ⟨g7, O7, rfl, by have := HFB.out.size; omega, H7.out.1, H7.out.2.1, HFB.out.bel.trans (H7.out.2.2.mono HFB.out.bel.size)⟩
end Go.Proofs.Ytfjhcoeehjephaa
