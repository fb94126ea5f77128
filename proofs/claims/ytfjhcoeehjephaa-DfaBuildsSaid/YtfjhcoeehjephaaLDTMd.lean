/- DfaTakes, with the automaton, the text and the place laid open. -/
import Derived.Test.YtfjhcoeehjephaaLA8Md
import Derived.Test.YtfjhcoeehjephaaBuWMd
import Derived.Test.YtfjhcoeehjephaaAgRMd
import Derived.Test.YtfjhcoeehjephaaRRunsMd
namespace Go.Proofs.Ytfjhcoeehjephaa
open Go.RowKit
attribute [local go_sem ↓] Go.wp_at_zero Go.wp_at_succ
attribute [local go_sem ↓] load_dfa store_dfa

def fewB (S : Int) (n : Nat) : Bool := decide (S ≤ 40) && decide ((n : Int) ≤ 120)
set_option maxRecDepth 100000 in
theorem few_any (A : Option Addr) (n c : Nat) (S a z : Int) (w : World) :
    Calls Try.prog 9 #[.agg #[.int .i64 S, .int .i64 a, .int .i64 z, .slice A n c]] w fun e w' => e = .returned (.bool (fewB S n)) ∧ Below w.heap.size w w' := by
  have hb0 : Below w.heap.size w (w.alloc (.cells #[.int .i64 S, .int .i64 a, .int .i64 z, .slice A n c] 24)) := (Below.refl _ _).alloc (Nat.le_refl _) _
  have HB := Lib.hid hb0
  clear hb0
  obtain ⟨b1, hb1⟩ : ∃ b, b = decide (S ≤ 40) := ⟨_, rfl⟩
  obtain ⟨b2, hb2⟩ : ∃ b, b = decide ((n : Int) ≤ 120) := ⟨_, rfl⟩
  have hf : fewB S n = (b1 && b2) := by unfold fewB; rw [hb1, hb2]
  have HF := Lib.hid hf
  clear hf
  cases b1 <;> cases b2 <;> replace hb1 := hb1.symm <;> replace hb2 := hb2.symm <;>
  · go_enter Try.func9, Try.ntmps9
    go_wp2_with fail
    go_returns
    exact ⟨by rw [HF.out]; first | rfl | simp, HB.out⟩
theorem setRow_same (w : World) : Blk ((w.alloc (.cells zs30 30)).setRow w.heap.size zs30) w.heap.size 30 (dV (fun _ => 0) (.slice none 0 0) (.slice none 0 0)) := (new30 w).row zs30

set_option maxRecDepth 100000 in
set_option maxHeartbeats 16000000 in
theorem law_dtakes (A : Option Addr) (n c : Nat) (Si a z : Int) (E : List Ed) (s : ByteArray) (x : Int) (W : World) (h : NfaIn W A n ⟨Si, a, z, E⟩) (hu : ∀ e ∈ E, U64w e.s0 ∧ U64w e.s1 ∧ U64w e.s2 ∧ U64w e.s3) :
    Calls Try.prog 4 #[.agg #[.int .i64 Si, .int .i64 a, .int .i64 z, .slice A n c], .string s, .int .i64 x] W fun e w' => e = .returned (.bool true) ∧ Below W.heap.size W w' := by
  have hb0 : Below W.heap.size W (W.alloc (.cells #[.int .i64 Si, .int .i64 a, .int .i64 z, .slice A n c] 24)) := (Below.refl _ _).alloc (Nat.le_refl _) _
  have hx0 := Blk.new W 24 [.int .i64 Si, .int .i64 a, .int .i64 z, .slice A n c]
  have hzV := zeroV30
  have hst0 : ∀ w4 : World, (storeD (.pointer (some ⟨w4.heap.size, 0, none⟩)) (.agg zs30)).run Try.prog (w4.alloc (.cells zs30 30)) = .ok () ((w4.alloc (.cells zs30 30)).setRow w4.heap.size zs30) := fun w4 => store30 (new30 w4) (dV_len _ _ _) (dV (fun _ => 0) (.slice none 0 0) (.slice none 0 0)) (dV_len _ _ _) (dV_one _ _ _ _ _ _ _)
  have HRR := Lib.hid (fun w' (h9 : NfaIn w' A n ⟨Si, a, z, E⟩) => nrright_any A n c Si a z E w' h9)
  have HB0 := Lib.hid hb0
  have HX0 := Lib.hid hx0
  by_cases hr : RightN ⟨Si, a, z, E⟩
  · obtain ⟨S, rfl⟩ := Int.eq_ofNat_of_zero_le (show 0 ≤ Si by have := hr.lo; have : (1:Int) ≤ Si := this; omega)
    have HBD := Lib.hid (build_d A n c S a z E _ (h.keep hb0) hr (fun e he => hu e he))
    have HN := Lib.hid (And.intro h (And.intro hr hu))
    have hrt := rightN_yes hr
    rw [hrt] at HRR
    clear h hu hr hrt hb0 hx0
    go_enter Try.func4, Try.ntmps4
    have c0 := HX0.out.cell 0
    have c1 := HX0.out.cell 1
    have c2 := HX0.out.cell 2
    have c3 := HX0.out.cell 3
    simp only [List.getElem?_cons_zero, List.getElem?_cons_succ] at c0 c1 c2 c3
    go_wp2_with fail
    clear c0 c1 c2 c3
    refine HBD.out.mono ?_
    rintro e w4 ⟨hsay, hb4⟩
    have HB4 := Lib.hid hb4
    clear hb4
    rcases hsay with ⟨D, all, ls, many, ds, B1, B2, k1, k2, RA, rc, rfl, hdf, hcls, hls, hmid⟩ | ⟨rfl, htm⟩
    · have hLA := LA.start (m := n) (c2 := c) (Below.refl W.heap.size W) HB4.out HN.out.1 hdf
      have hst := store_new hdf
      have hE := endsR_built HN.out.2.1 hcls hls hmid
      have hrd := built_right hcls hmid
      have hmk := fun seen h0 hcl => built_marks (seen := seen) hcls hls hmid h0 hcl
      have hnl : D.next.length = all.length := hmid.nlen
      have hal : all.length ≤ 400 := hmid.few
      rw [← hnl] at hmk hal
      have hcs := cutS_le s 40
      have HSS := Lib.hid (fun W => short_any s 40 (by omega) W)
      obtain ⟨s', hs'⟩ : ∃ s', s' = cutS s 40 := ⟨_, rfl⟩
      rw [← hs'] at hcs HSS
      have hDR := fun w' (h : DfaIn w' ds B1 B2 D.next.length D.acc.length k1 k2 D RA rc) => D8.drright_any ds B1 B2 _ _ k1 k2 D RA rc w' h
      rw [rightD_yes hrd] at hDR
      have hDE := fun w' (h : DfaIn w' ds B1 B2 D.next.length D.acc.length k1 k2 D RA rc) => D8.dends_any ds B1 B2 _ _ k1 k2 D RA rc s' w' h x (by omega)
      rw [hE s' x] at hDE
      have hRE := fun w' (h : DfaIn w' ds B1 B2 D.next.length D.acc.length k1 k2 D RA rc) => reached_any ds B1 B2 _ _ k1 k2 D RA rc w' h hrd
      have HDR := Lib.hid hDR
      have HDE := Lib.hid hDE
      have HRE := Lib.hid hRE
      have HMK := Lib.hid hmk
      have HFW := Lib.hid (fun w' => few_any A n c (S : Int) a z w')
      have HLA := Lib.hid hLA
      obtain ⟨k, hk⟩ : ∃ k, k = D.next.length := ⟨_, rfl⟩
      have HK := Lib.hid hk
      rw [← hk] at hal HRE
      obtain ⟨gd, hgd⟩ : ∃ g, g = w4.heap.size := ⟨_, rfl⟩
      clear hLA hE hs' hDR hDE hRE hmk hcls hls hmid hdf hrd hnl hk hst0
      go_upto_region 2 with (fail)
      rw [← hgd] at HLA ⊢
      clear hst
      generalize (w4.alloc (.cells zs30 30)).setRow gd ds = w5 at HLA ⊢
      clear hgd
      obtain ⟨r0, r1, r2, r3⟩ := HLA.out.ncells
      go_upto_region 6 with (go_at_call 8; refine (HRR.out _ HLA.out.nfa).mono ?_; rintro e w6 ⟨rfl, hb6⟩; have HL6 := Lib.hid (HLA.out.go hb6); clear hb6)
      clear r0 r1 r2 r3
      have hld := HL6.out.load
      go_upto_region 8 with (go_at_call 12; refine (HDR.out _ HL6.out.dfa).mono ?_; rintro e w7 ⟨rfl, hb7⟩; have HL7 := Lib.hid (HL6.out.go hb7); clear hb7)
      clear hld
      have hld := HL7.out.load
      go_upto_region 9 with (go_at_call 13; refine (HRE.out _ (by have h9 := HL7.out.dfa; rw [← HK.out] at h9; exact h9)).mono ?_; rintro e w8 ⟨gm, seen, rfl, hbm, hsl, hs0, hcl, hb8⟩; have HL8 := Lib.hid (HL7.out.go hb8); have HM8 := Lib.hid (And.intro hbm (And.intro hsl (HMK.out seen hs0 (by rw [← HK.out]; exact hcl)))); clear hb8 hbm hsl hs0 hcl)
      clear hld
      go_loopw [43] (fun iv wr => ∃ q : Nat, iv = .int .i64 (q : Int) ∧ q ≤ k ∧ wr = w8) (fun iv _ => k - (intOf iv).toNat)
      case atStart => exact ⟨0, rfl, by omega, rfl⟩
      case round =>
        obtain ⟨q, rfl, hq, hwr⟩ := hrel
        subst hwr
        by_cases hlt : q < k
        · have d1 : decide ((q : Int) < (k : Int)) = true := by simp; omega
          have t0 : wr.cell? ⟨gm, q, none⟩ = some (.int .i64 1) := by
            rw [HM8.out.1.cell, bitsV_get (by rw [HM8.out.2.1]; exact hlt), HM8.out.2.2 q (by rw [← HK.out]; exact hlt), if_pos rfl]
          go_wp2_with fail
          go_roundw
          case rel => exact ⟨q + 1, by go_num, by omega, by first | rfl | trivial⟩
          case measure => simp [intOf]; omega
        · obtain rfl : q = k := by omega
          have d1 : decide ((q : Int) < (q : Int)) = false := by simp
          go_upto_region 15 with (go_at_call 14; refine (HSS.out _).mono ?_; rintro e w9 ⟨rfl, rfl⟩)
          have hr8 := HL8.out.ncells
          obtain ⟨r0, r1, r2, r3⟩ := hr8
          obtain ⟨fb, hfb⟩ : ∃ fb, fb = fewB (S : Int) n := ⟨_, rfl⟩
          rw [← hfb] at HFW
          clear hfb hq hlt
          cases fb with
          | false =>
            go_wp2_with (go_at_call 9; refine (HFW.out _).mono ?_; rintro e w9 ⟨rfl, hb9⟩; have HL9 := Lib.hid (HL8.out.go hb9); clear hb9)
            go_returns
            exact ⟨by first | rfl | simp, HL9.out.bel⟩
          | true =>
            rcases (by omega : x < 0 ∨ (0 ≤ x ∧ (s'.size : Int) < x) ∨ (0 ≤ x ∧ x ≤ (s'.size : Int))) with h9 | ⟨h8, h9⟩ | ⟨h8, h9⟩
            · have d2 : decide (x < 0) = true := by simpa using h9
              clear h9
              go_wp2_with (go_at_call 9; refine (HFW.out _).mono ?_; rintro e w9 ⟨rfl, hb9⟩; have HL9 := Lib.hid (HL8.out.go hb9); clear hb9)
              go_returns
              exact ⟨by first | rfl | simp, HL9.out.bel⟩
            · have d2 : decide (x < 0) = false := by simp; omega
              have d3 : decide ((s'.size : Int) < x) = true := by simpa using h9
              clear h8 h9
              go_wp2_with (go_at_call 9; refine (HFW.out _).mono ?_; rintro e w9 ⟨rfl, hb9⟩; have HL9 := Lib.hid (HL8.out.go hb9); clear hb9)
              go_returns
              exact ⟨by first | rfl | simp, HL9.out.bel⟩
            · obtain ⟨p, rfl⟩ := Int.eq_ofNat_of_zero_le h8
              have hp : p ≤ s'.size := by omega
              have d2 : decide ((p : Int) < 0) = false := by simp
              have d3 : decide ((s'.size : Int) < (p : Int)) = false := by simp; omega
              have d4 : decide (s'.size < p) = false := by simp; omega
              have hX : endsX E S a z s' (p : Int) = endsN E S a z s' p := by unfold endsX; rw [if_pos ⟨by omega, by omega⟩]; rfl
              have hRU := fun w' (h : NfaIn w' A n ⟨(S : Int), a, z, E⟩) => rruns_ok A n c S a z E s' p w' h HN.out.2.1 HN.out.2.2 hp (by omega)
              have hlen := endsX_len E S a z s' (p : Int)
              have hDE := HDE.out
              rw [hX] at hDE hlen
              obtain ⟨L, hL⟩ : ∃ L, L = endsN E S a z s' p := ⟨_, rfl⟩
              rw [← hL] at hRU hDE hlen
              obtain ⟨kl, hkl⟩ : ∃ kl, kl = L.length := ⟨_, rfl⟩
              rw [← hkl] at hRU hDE hlen
              have HRU := Lib.hid hRU
              have HDE2 := Lib.hid hDE
              have hkl3 : kl ≤ 140737488355328 := by omega
              clear hX hRU hDE hL hkl hlen hp h8 h9 hcs HDE
              go_upto_region 17 with (go_at_call 9; refine (HFW.out _).mono ?_; rintro e w9 ⟨rfl, hb9⟩; have HL9 := Lib.hid (HL8.out.go hb9); clear hb9)
              clear r0 r1 r2 r3
              have HLD := fun w' (h : LA W W.heap.size S a z E A n c gd ds B1 B2 k1 k2 D RA rc w') => h.load
              go_region_held3 (fun w' => LA W W.heap.size S a z E A n c gd ds B1 B2 k1 k2 D RA rc w' ∧ w'.cell? ⟨W.heap.size, 0, none⟩ = some (.int .i64 (S : Int)) ∧ w'.cell? ⟨W.heap.size, 1, none⟩ = some (.int .i64 a) ∧ w'.cell? ⟨W.heap.size, 2, none⟩ = some (.int .i64 z) ∧ w'.cell? ⟨W.heap.size, 3, none⟩ = some (.slice A n c))
                (first
                  | assumption
                  | exact ⟨L12, L12.ncells⟩
                  | exact ⟨L11, L11.ncells⟩
                  | exact ⟨L10, L10.ncells⟩
                  | exact ⟨HL9.out.drew, HL9.out.drew.ncells⟩)
                (first
                  | (go_at_call 16; go_split_ands; refine (HDE2.out _ (LA.dfa (by assumption))).mono ?_; rintro e w10 ⟨A8, c8, rfl, hA8, hb10⟩; have L10 : LA W W.heap.size S a z E A n c gd ds B1 B2 k1 k2 D RA rc w10 := LA.go (by assumption) hb10)
                  | (go_at_call 17; go_split_ands; refine (HRU.out _ (LA.nfa (by assumption))).mono ?_; rintro e w11 ⟨A9, c9, rfl, hA9, hb11⟩; have L11 : LA W W.heap.size S a z E A n c gd ds B1 B2 k1 k2 D RA rc w11 := LA.go (by assumption) hb11; have hA8' := (hA8.below hb11).more hb11.size)
                  | (go_at_call 15; go_split_ands; refine (ints_same A8 A9 kl c8 c9 L _ hkl3 hA8' hA9).mono ?_; rintro e w12 ⟨rfl, mq, rfl⟩; have L12 : LA W W.heap.size S a z E A n c gd ds B1 B2 k1 k2 D RA rc _ := LA.go (by assumption) (below_drewN (Below.refl _ _) mq)))
              go_split_ands
              go_wp2_with fail
              go_returns
              exact ⟨by first | rfl | simp, L12.bel⟩
    · have hs4 := hst0 w4
      have hblk := setRow_same w4
      have hb9 : Below w4.heap.size w4 ((w4.alloc (.cells zs30 30)).setRow w4.heap.size zs30) := below_setRow ((Below.refl _ _).alloc (Nat.le_refl _) _) (Nat.le_refl _) _
      have HBB := Lib.hid ((HB0.out.trans (HB4.out.mono HB0.out.size)).trans (hb9.mono (by have := HB4.out.size; simp at this; omega)))
      have hx9 := ((HX0.out.below HB4.out HX0.out.lt).below hb9 (HX0.out.below HB4.out HX0.out.lt).lt)
      have HNF := Lib.hid ((HN.out.1.keep (HB0.out.trans (HB4.out.mono HB0.out.size))).keep hb9)
      obtain ⟨gd, hgd⟩ : ∃ g, g = w4.heap.size := ⟨_, rfl⟩
      clear hb9 htm hst0
      go_upto_region 2 with (fail)
      rw [← hgd] at hblk hx9 HBB HNF ⊢
      clear hs4
      generalize (w4.alloc (.cells zs30 30)).setRow gd zs30 = w5 at hblk hx9 HBB HNF ⊢
      clear hgd
      have r0 := hx9.cell 0
      have r1 := hx9.cell 1
      have r2 := hx9.cell 2
      have r3 := hx9.cell 3
      simp only [List.getElem?_cons_zero, List.getElem?_cons_succ] at r0 r1 r2 r3
      have HBLK := Lib.hid hblk
      clear hblk hx9
      go_upto_region 5 with (go_at_call 8; refine (HRR.out _ HNF.out).mono ?_; rintro e w6 ⟨rfl, hb6⟩; have HB6 := Lib.hid hb6; have m256 : w6.cell? ⟨gd, 256, none⟩ = some (.slice none 0 0) := by (rw [(HBLK.out.below hb6 HBLK.out.lt).cell, dV_nx]))
      go_wp2_with fail
      go_returns
      exact ⟨by first | rfl | simp, HBB.out.trans (HB6.out.mono HBB.out.size)⟩
  · have HBW := Lib.hid (build_w A n c Si a z E _ (h.keep hb0) hr)
    have HN := Lib.hid h
    have hrt := rightN_no hr
    rw [hrt] at HRR
    clear h hu hr hrt hb0 hx0
    go_enter Try.func4, Try.ntmps4
    have c0 := HX0.out.cell 0
    have c1 := HX0.out.cell 1
    have c2 := HX0.out.cell 2
    have c3 := HX0.out.cell 3
    simp only [List.getElem?_cons_zero, List.getElem?_cons_succ] at c0 c1 c2 c3
    go_wp2_with fail
    clear c0 c1 c2 c3
    refine HBW.out.mono ?_
    rintro e w4 ⟨rfl, hb4⟩
    have HB4 := Lib.hid hb4
    clear hb4
    have hs4 := hst0 w4
    have hblk := setRow_same w4
    have hb9 : Below w4.heap.size w4 ((w4.alloc (.cells zs30 30)).setRow w4.heap.size zs30) := below_setRow ((Below.refl _ _).alloc (Nat.le_refl _) _) (Nat.le_refl _) _
    have HBB := Lib.hid ((HB0.out.trans (HB4.out.mono HB0.out.size)).trans (hb9.mono (by have := HB4.out.size; simp at this; omega)))
    have hx9 := ((HX0.out.below HB4.out HX0.out.lt).below hb9 (HX0.out.below HB4.out HX0.out.lt).lt)
    have HNF := Lib.hid ((HN.out.keep (HB0.out.trans (HB4.out.mono HB0.out.size))).keep hb9)
    obtain ⟨gd, hgd⟩ : ∃ g, g = w4.heap.size := ⟨_, rfl⟩
    clear hb9 hst0
    go_upto_region 2 with (fail)
    rw [← hgd] at hblk hx9 HBB HNF ⊢
    clear hs4
    generalize (w4.alloc (.cells zs30 30)).setRow gd zs30 = w5 at hblk hx9 HBB HNF ⊢
    clear hgd
    have r0 := hx9.cell 0
    have r1 := hx9.cell 1
    have r2 := hx9.cell 2
    have r3 := hx9.cell 3
    simp only [List.getElem?_cons_zero, List.getElem?_cons_succ] at r0 r1 r2 r3
    have HBLK := Lib.hid hblk
    clear hblk hx9
    go_upto_region 3 with (go_at_call 8; refine (HRR.out _ HNF.out).mono ?_; rintro e w6 ⟨rfl, hb6⟩; have HB6 := Lib.hid hb6; have m256 : w6.cell? ⟨gd, 256, none⟩ = some (.slice none 0 0) := by (rw [(HBLK.out.below hb6 HBLK.out.lt).cell, dV_nx]))
    go_wp2_with fail
    go_returns
    exact ⟨by first | rfl | simp, HBB.out.trans (HB6.out.mono HBB.out.size)⟩
end Go.Proofs.Ytfjhcoeehjephaa
