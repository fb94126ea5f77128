/- The reference's from: chains and alternatives. -/
import Derived.Test.YtfjhcoeehjephaaFr1Ma
namespace Go.Proofs.Ytfjhcoeehjephaa
open Go.RowKit
attribute [local go_sem ↓] Go.wp_at_zero Go.wp_at_succ

/-- what stands when from begins: the tree's box, the new row -/
structure FB (W : World) (t : Tr) (TA : Option Addr) (n tc L : Nat) (A : Option Addr) (X : Nat → Bool) (W2 : World) : Prop where
  bel : Below W.heap.size W W2
  box : Blk W2 W.heap.size 49 [.int .i64 t.kind, .int .u64 t.s0, .int .u64 t.s1, .int .u64 t.s2, .int .u64 t.s3, .int .i64 t.lo, .int .i64 t.hi, .slice TA n tc]
  out : Blk W2 (W.heap.size + 1) 3 (rowV (fun _ => false) L)
  size : W2.heap.size = W.heap.size + 2
  inp : Arr W2 W.heap.size 1 A L (fun k _ => .int .i64 (bi (X k)))
theorem FB.start {W : World} {t : Tr} {TA : Option Addr} {n tc L : Nat} {A : Option Addr} {X : Nat → Bool} (h : PIn W A L X) :
    FB W t TA n tc L A X ((W.alloc (tbox t TA n tc)).alloc (.cells (Array.replicate L (.int .i64 0)) 3)) := by
  have hb : Below W.heap.size W ((W.alloc (tbox t TA n tc)).alloc (.cells (Array.replicate L (.int .i64 0)) 3)) := ((Below.refl _ _).alloc (Nat.le_refl _) _).alloc (by simp) _
  refine ⟨hb, (Blk.new W 49 _).alloc _, ?_, by simp, h.below hb⟩
  have := blk_made (W.alloc (tbox t TA n tc)) L
  rwa [World.size_alloc] at this

set_option maxRecDepth 100000 in
set_option maxHeartbeats 16000000 in
theorem from_cat (t : Tr) (hk : t.kind = 2) (ih : ∀ k, k ∈ t.kids → FromAt k) : FromAt t := by
  intro s L X A c TA n tc W hs hL hX hp ht hsh hwf
  have e1 : (t.kind == 1) = false := by simp [hk]
  have e2 : (t.kind == 2) = true := by simp [hk]
  have hfb := FB.start (t := t) (TA := TA) (n := n) (tc := tc) hp
  obtain ⟨W2, hW2⟩ : ∃ W2, W2 = (W.alloc (tbox t TA n tc)).alloc (.cells (Array.replicate L (.int .i64 0)) 3) := ⟨_, rfl⟩
  rw [← hW2] at hfb
  have b0 := hfb.box.cell 0
  have b7 := hfb.box.cell 7
  simp at b0 b7
  obtain ⟨KA, KN, KC, hkk⟩ := ht.out
  have hlen := hkk.len
  have hle := hkk.le
  have hlg := lang_cat (s := s) hk
  have HKK := Lib.hid hkk
  have HIH := Lib.hid ih
  have HS := Lib.hid (And.intro hsh hwf)
  have HFW := Lib.hid (lang_fwd s)
  have HL := Lib.hid (And.intro hL (And.intro hX hs))
  have HLG := Lib.hid hlg
  have HFB := Lib.hid hfb
  have HW2 := Lib.hid hW2
  have HLEN := Lib.hid hlen
  have hL2 : L ≤ 1001 := by omega
  have hmk := make_one 120 3 (.int .i64 0) 8 Try.underlying120 info3 (by rfl) L (by omega) (by omega)
  clear hk hs hL hX hp ht hsh hwf hfb hkk hlen hlg ih
  go_enter Try.func73, Try.ntmps73
  go_upto_region 2 with (fail)
  rw [← HW2.out]
  clear HW2 hW2 hmk
  go_upto_region 11 with (fail)
  go_loopw [50] (fun iv wr => ∃ (k : Nat) (O : Nat → Bool), k ≤ L ∧ iv = .int .i64 (k : Int) ∧ (∀ j, O j = true ↔ j < k ∧ X j = true) ∧ Blk wr (W.heap.size + 1) 3 (rowV O L) ∧ Below (W.heap.size + 1) W2 wr) (fun iv _ => L - (intOf iv).toNat)
  case atStart => exact ⟨0, fun _ => false, by omega, rfl, fun j => by simp, HFB.out.out, Below.refl _ _⟩
  case round =>
    obtain ⟨k, O, hkL, rfl, hO, hbk, hbe⟩ := hrel
    obtain ⟨w5, rfl⟩ : ∃ w5 : World, w5 = wr := ⟨_, rfl⟩
    have HQ := Lib.hid (And.intro hO (And.intro hbk hbe))
    by_cases hlt : k < L
    · obtain ⟨ga, oa, rfl, hga, hca⟩ := (HFB.out.inp.below (hbe.mono (Nat.le_succ _))) (by omega)
      have c0 := hca k 0 hlt (by omega)
      simp only [Nat.mul_one, Nat.add_zero] at c0
      have c1 := hbk.cell k
      rw [rowV_get _ hlt] at c1
      have c2 := hbk.frozen k
      clear hca hO hbk hbe
      go_wp2_with fail
      go_roundw
      case rel =>
        refine ⟨k + 1, updB O k (X k), by omega, by go_num, fun j => ?_, HQ.out.2.1.put k (X k), below_setCell_same HQ.out.2.2 (Nat.le_refl _) _⟩
        unfold updB
        by_cases e : j = k
        · subst e; simp
        · rw [if_neg e, HQ.out.1 j]
          constructor
          · rintro ⟨h1, h2⟩; exact ⟨by omega, h2⟩
          · rintro ⟨h1, h2⟩; exact ⟨by omega, h2⟩
      case measure => simp [intOf]; omega
    · obtain rfl : k = L := by omega
      have hOX : ∀ j, O j = true ↔ X j = true := fun j => by
        rw [hO j]
        exact ⟨fun h9 => h9.2, fun h9 => ⟨HL.out.2.1 j h9, h9⟩⟩
      have hbx5 := HFB.out.box.below hbe (by omega)
      have d0 := hbx5.cell 7
      simp at d0
      have HST := Lib.hid (And.intro hbk (And.intro (show Img (catL ((t.kids.take 0).map (Tr.lang s))) X O from fun j => by
        rw [hOX j]
        exact (Img.id X) j) (And.intro (HFB.out.bel.trans (hbe.mono (Nat.le_succ _))) hbx5)))
      have hs5 : W.heap.size + 2 ≤ w5.heap.size := by have := hbe.size; have := HFB.out.size; omega
      clear hO hbk hbe hOX HQ hbx5
      go_upto_region 16 with (fail)
      clear d0
      go_loopw [7, 64] (fun ov iv wr => ∃ (q : Nat) (g : Nat) (O : Nat → Bool), q ≤ n ∧ iv = .int .i64 (q : Int) ∧ ov = .slice (some ⟨g, 0, none⟩) k k ∧ W.heap.size ≤ g ∧ Blk wr g 3 (rowV O k) ∧ Img (catL ((t.kids.take q).map (Tr.lang s))) X O ∧ Below W.heap.size W wr ∧ W.heap.size < wr.heap.size) (fun _ iv _ => n - (intOf iv).toNat)
      case atStart => exact ⟨0, _, O, by omega, rfl, rfl, by omega, HST.out.1, HST.out.2.1, HST.out.2.2.1, by omega⟩
      case round =>
        clear HST HFB b0 b7 hs5
        obtain ⟨q, g, O, hqn, rfl, rfl, hg, hbk, him, hbl, hwl⟩ := hrel
        obtain ⟨w6, rfl⟩ : ∃ w6 : World, w6 = wr := ⟨_, rfl⟩
        have HQ := Lib.hid (And.intro hbk (And.intro him hbl))
        by_cases hlt : q < n
        · obtain ⟨gt, ot, rfl, hgt, p0, p1, p2, p3, p4, p5, p6, p7⟩ := (HKK.out.keep hbl).eight hlt
          have hmem : t.kids.getD q noTr ∈ t.kids := getD_mem (by have := HLEN.out; omega)
          have hkid := (HKK.out.kid q hlt).keep hbl
          have IH := HIH.out _ hmem
          have hsk := HS.out.1.kid hmem
          have hwk := HS.out.2.kid hmem
          have hnx : ∀ Z, Img ((t.kids.getD q noTr).lang s) O Z → Img (catL ((t.kids.take (q + 1)).map (Tr.lang s))) X Z := fun Z hZ => by
            rw [take_next t.kids q noTr (by have := HLEN.out; omega), catK_snoc]
            exact him.seq hZ
          have hsO : Sup k O := by
            have hf : Fwd s (catL ((t.kids.take q).map (Tr.lang s))) := by
              unfold catL
              refine fwd_foldl _ _ (Fwd.id s) (fun K hK => ?_)
              obtain ⟨k, h1, rfl⟩ := List.mem_map.1 hK
              exact HFW.out k (HS.out.1.kid (List.mem_of_mem_take h1))
            rw [HL.out.1]
            exact him.sup hf (HL.out.1 ▸ HL.out.2.1)
          have hkbe : Below w6.heap.size w6 (w6.alloc (kbox (t.kids.getD q noTr) (KA q) (KN q) (KC q))) := (Below.refl _ _).alloc (Nat.le_refl _) _
          have hkid2 := hkid.keep hkbe
          have hpi := (PIn.of_blk hbk).keep hkbe
          obtain ⟨kid, hkid'⟩ : ∃ kid, kid = t.kids.getD q noTr := ⟨_, rfl⟩
          rw [← hkid'] at p0 p1 p2 p3 p4 p5 p6 hkid2 IH hsk hwk hnx hkbe hpi
          have HNX := Lib.hid hnx
          have HKB := Lib.hid hkbe
          have HCALL := Lib.hid (IH s k O (some ⟨g, 0, none⟩) k (KA q) (KN q) (KC q) (w6.alloc (kbox kid (KA q) (KN q) (KC q))) HL.out.2.2 HL.out.1 hsO hpi hkid2 hsk hwk)
          clear hkid hkid' hmem IH hsk hwk hnx hkbe hsO hkid2 hpi hbk him hbl
          go_wp2_with (go_at_call 73; refine HCALL.out.mono ?_; rintro e w7 ⟨g7, O7, rfl, hg7, hblk, himg, hb7⟩; have H7 := Lib.hid (And.intro hblk (And.intro (HNX.out _ himg) (HQ.out.2.2.trans ((HKB.out.trans (hb7.mono HKB.out.size)).mono HQ.out.2.2.size)))); have HG7 := Lib.hid (show W.heap.size ≤ g7 by simp at hg7; omega); have HS7 := Lib.hid (show W.heap.size < w7.heap.size by have := hb7.size; simp at this; omega); clear hblk himg hb7 hg7)
          go_roundw
          case rel => exact ⟨q + 1, g7, O7, by omega, by go_num, rfl, HG7.out, H7.out.1, H7.out.2.1, H7.out.2.2, HS7.out⟩
          case measure => simp [intOf]; omega
        · obtain rfl : q = n := by omega
          clear hbk him hbl
          go_wp2_with fail
          go_returns
          refine ⟨g, O, rfl, hg, HQ.out.1, ?_, HQ.out.2.2⟩
          have := HQ.out.2.1
          rw [List.take_of_length_le (by have := HLEN.out; omega)] at this
          rw [HLG.out]
          exact this
end Go.Proofs.Ytfjhcoeehjephaa
