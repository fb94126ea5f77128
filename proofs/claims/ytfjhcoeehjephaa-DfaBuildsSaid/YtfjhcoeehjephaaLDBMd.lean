/- DfaBuilds, with the automaton laid open. -/
import Derived.Test.YtfjhcoeehjephaaLDTMd
import Derived.Test.YtfjhcoeehjephaaSx5Md
namespace Go.Proofs.Ytfjhcoeehjephaa
open Go.RowKit
attribute [local go_sem ↓] Go.wp_at_zero Go.wp_at_succ
attribute [local go_sem ↓] load_dfa store_dfa

set_option maxRecDepth 100000 in
set_option maxHeartbeats 16000000 in
theorem law_dbuilds (A : Option Addr) (n c : Nat) (Si a z : Int) (E : List Ed) (W : World) (h : NfaIn W A n ⟨Si, a, z, E⟩) (hu : ∀ e ∈ E, U64w e.s0 ∧ U64w e.s1 ∧ U64w e.s2 ∧ U64w e.s3) :
    Calls Try.prog 3 #[.agg #[.int .i64 Si, .int .i64 a, .int .i64 z, .slice A n c]] W fun e w' => e = .returned (.bool true) ∧ Below W.heap.size W w' := by
  have hb0 : Below W.heap.size W (W.alloc (.cells #[.int .i64 Si, .int .i64 a, .int .i64 z, .slice A n c] 24)) := (Below.refl _ _).alloc (Nat.le_refl _) _
  have hx0 := Blk.new W 24 [.int .i64 Si, .int .i64 a, .int .i64 z, .slice A n c]
  have hzV := zeroV30
  have hst0 : ∀ w4 : World, (storeD (.pointer (some ⟨w4.heap.size, 0, none⟩)) (.agg zs30)).run Try.prog (w4.alloc (.cells zs30 30)) = .ok () ((w4.alloc (.cells zs30 30)).setRow w4.heap.size zs30) := fun w4 => store30 (new30 w4) (dV_len _ _ _) (dV (fun _ => 0) (.slice none 0 0) (.slice none 0 0)) (dV_len _ _ _) (dV_one _ _ _ _ _ _ _)
  have HRR := Lib.hid (fun w' (h9 : NfaIn w' A n ⟨Si, a, z, E⟩) => nrright_any A n c Si a z E w' h9)
  have HFW := Lib.hid (fun w' => few_any A n c Si a z w')
  have HH := Lib.hid h
  have HB0 := Lib.hid hb0
  have HX0 := Lib.hid hx0
  have c0 := hx0.cell 0
  have c1 := hx0.cell 1
  have c2 := hx0.cell 2
  have c3 := hx0.cell 3
  simp only [List.getElem?_cons_zero, List.getElem?_cons_succ] at c0 c1 c2 c3
  by_cases hr : RightN ⟨Si, a, z, E⟩
  · obtain ⟨S, rfl⟩ := Int.eq_ofNat_of_zero_le (show 0 ≤ Si by have := hr.lo; have : (1:Int) ≤ Si := this; omega)
    have hrt := rightN_yes hr
    rw [hrt] at HRR
    have HN := Lib.hid (And.intro hr hu)
    obtain ⟨fb, hfb⟩ : ∃ fb, fb = fewB (S : Int) n := ⟨_, rfl⟩
    rw [← hfb] at HFW
    clear h hu hr hrt hb0 hx0 hfb
    go_enter Try.func3, Try.ntmps3
    cases fb with
    | false =>
      clear hst0 hzV
      go_wp2_with (first
        | (go_at_call 8; refine (HRR.out _ (HH.out.keep HB0.out)).mono ?_; rintro e w3 ⟨rfl, hb3⟩; have HB3 := Lib.hid (HB0.out.trans (hb3.mono HB0.out.size)); have hx3 := HX0.out.below hb3 HX0.out.lt; have d0 := hx3.cell 0; have d1 := hx3.cell 1; have d2 := hx3.cell 2; have d3 := hx3.cell 3; simp only [List.getElem?_cons_zero, List.getElem?_cons_succ] at d0 d1 d2 d3; clear hb3 hx3)
        | (go_at_call 9; refine (HFW.out _).mono ?_; rintro e w4 ⟨rfl, hb4⟩; have HB4 := Lib.hid (HB3.out.trans (hb4.mono HB3.out.size)); clear hb4))
      go_returns
      exact ⟨by first | rfl | simp, HB4.out⟩
    | true =>
      by_cases hS : 14 < S
      · have e1 : decide ((14 : Int) < (S : Int)) = true := by simp; omega
        have e1' : decide (14 < S) = true := by simpa using hS
        clear hst0 hzV hS
        go_wp2_with (first
          | (go_at_call 8; refine (HRR.out _ (HH.out.keep HB0.out)).mono ?_; rintro e w3 ⟨rfl, hb3⟩; have HB3 := Lib.hid (HB0.out.trans (hb3.mono HB0.out.size)); have hx3 := HX0.out.below hb3 HX0.out.lt; have HX3 := Lib.hid hx3; have d0 := hx3.cell 0; have d1 := hx3.cell 1; have d2 := hx3.cell 2; have d3 := hx3.cell 3; simp only [List.getElem?_cons_zero, List.getElem?_cons_succ] at d0 d1 d2 d3; clear hb3 hx3)
          | (go_at_call 9; refine (HFW.out _).mono ?_; rintro e w4 ⟨rfl, hb4⟩; have HB4 := Lib.hid (HB3.out.trans (hb4.mono HB3.out.size)); have hx4 := HX3.out.below hb4 HX3.out.lt; have f0 := hx4.cell 0; simp only [List.getElem?_cons_zero] at f0; clear hb4 hx4))
        go_returns
        exact ⟨by first | rfl | simp, HB4.out⟩
      · have e1 : decide ((14 : Int) < (S : Int)) = false := by simp; omega
        have e1' : decide (14 < S) = false := by simp; omega
        clear hS
        go_upto_region 3 with (first
          | (go_at_call 8; refine (HRR.out _ (HH.out.keep HB0.out)).mono ?_; rintro e w3 ⟨rfl, hb3⟩; have HB3 := Lib.hid (HB0.out.trans (hb3.mono HB0.out.size)); have hx3 := HX0.out.below hb3 HX0.out.lt; have HX3 := Lib.hid hx3; have d0 := hx3.cell 0; have d1 := hx3.cell 1; have d2 := hx3.cell 2; have d3 := hx3.cell 3; simp only [List.getElem?_cons_zero, List.getElem?_cons_succ] at d0 d1 d2 d3; clear hb3 hx3)
          | (go_at_call 9; refine (HFW.out _).mono ?_; rintro e w4 ⟨rfl, hb4⟩; have HB4 := Lib.hid (HB3.out.trans (hb4.mono HB3.out.size)); have hx4 := HX3.out.below hb4 HX3.out.lt; have HX4 := Lib.hid hx4; have f0 := hx4.cell 0; have f1 := hx4.cell 1; have f2 := hx4.cell 2; have f3 := hx4.cell 3; simp only [List.getElem?_cons_zero, List.getElem?_cons_succ] at f0 f1 f2 f3; clear hb4 hx4))
        clear c0 c1 c2 c3 d0 d1 d2 d3
        have HBD := Lib.hid (build_d A n c S a z E w4 (HH.out.keep HB4.out) HN.out.1 (fun e he => HN.out.2 e he))
        have HSE := Lib.hid (fun w' (h9 : NfaIn w' A n ⟨(S : Int), a, z, E⟩) => sets_any A n c S a z E w' h9 HN.out.1 HN.out.2)
        go_wp2_with fail
        refine HBD.out.mono ?_
        rintro e w5 ⟨hsay, hb5⟩
        have HB5 := Lib.hid hb5
        have HX5 := Lib.hid (HX4.out.below hb5 HX4.out.lt)
        have HBW := Lib.hid (HB4.out.trans (hb5.mono HB4.out.size))
        clear hb5 f0 f1 f2 f3
        rcases hsay with ⟨D, all, ls, many, ds, B1, B2, k1, k2, RA, rc, rfl, hdf, hcls, hls, hmid⟩ | ⟨rfl, htm⟩
        · have hst := store_new hdf
          have hb6 : Below w5.heap.size w5 ((w5.alloc (.cells zs30 30)).setRow w5.heap.size ds) := below_setRow ((Below.refl _ _).alloc (Nat.le_refl _) _) (Nat.le_refl _) _
          have hx6 := HX5.out.below hb6 HX5.out.lt
          have hbw6 := HBW.out.trans (hb6.mono HBW.out.size)
          have HSAY := Lib.hid (fun r (hs : SetsSay E S a r) => says_agree hmid hs (fun X hX => built_in hcls hls hmid hX))
          obtain ⟨gd, hgd⟩ : ∃ g, g = w5.heap.size := ⟨_, rfl⟩
          clear hb6 hdf hcls hls hmid hst0
          go_upto_region 4 with (fail)
          rw [← hgd] at hx6 hbw6 ⊢
          clear hst
          generalize (w5.alloc (.cells zs30 30)).setRow gd ds = w6 at hx6 hbw6 ⊢
          clear hgd
          have HX6 := Lib.hid hx6
          have HB6 := Lib.hid hbw6
          have r0 := hx6.cell 0
          have r1 := hx6.cell 1
          have r2 := hx6.cell 2
          have r3 := hx6.cell 3
          simp only [List.getElem?_cons_zero, List.getElem?_cons_succ] at r0 r1 r2 r3
          clear hx6 hbw6
          go_wp2_with (go_at_call 11; refine (HSE.out _ (HH.out.keep HB6.out)).mono ?_; rintro e w7 ⟨r, rfl, hs, hb7⟩; have hle : decide ((r : Int) ≤ 400) = true := (by have := HSAY.out r hs; simp; omega); have hle' : decide (r ≤ 400) = true := (by have := HSAY.out r hs; simpa using this); have HB7 := Lib.hid (HB6.out.trans (hb7.mono HB6.out.size)); clear hs hb7)
          go_returns
          exact ⟨by first | rfl | simp, HB7.out⟩
        · have hst := hst0 w5
          have hb6 : Below w5.heap.size w5 ((w5.alloc (.cells zs30 30)).setRow w5.heap.size zs30) := below_setRow ((Below.refl _ _).alloc (Nat.le_refl _) _) (Nat.le_refl _) _
          have hx6 := HX5.out.below hb6 HX5.out.lt
          have hbw6 := HBW.out.trans (hb6.mono HBW.out.size)
          have HSAY := Lib.hid (fun r (hs : SetsSay E S a r) => says_over htm hs)
          obtain ⟨gd, hgd⟩ : ∃ g, g = w5.heap.size := ⟨_, rfl⟩
          clear hb6 htm hst0
          go_upto_region 4 with (fail)
          rw [← hgd] at hx6 hbw6 ⊢
          clear hst
          generalize (w5.alloc (.cells zs30 30)).setRow gd zs30 = w6 at hx6 hbw6 ⊢
          clear hgd
          have HX6 := Lib.hid hx6
          have HB6 := Lib.hid hbw6
          have r0 := hx6.cell 0
          have r1 := hx6.cell 1
          have r2 := hx6.cell 2
          have r3 := hx6.cell 3
          simp only [List.getElem?_cons_zero, List.getElem?_cons_succ] at r0 r1 r2 r3
          clear hx6 hbw6
          go_wp2_with (go_at_call 11; refine (HSE.out _ (HH.out.keep HB6.out)).mono ?_; rintro e w7 ⟨r, rfl, hs, hb7⟩; have hle : decide ((r : Int) ≤ 400) = false := (by have := HSAY.out r hs; simp; omega); have hle' : decide (r ≤ 400) = false := (by have := HSAY.out r hs; simp; omega); have HB7 := Lib.hid (HB6.out.trans (hb7.mono HB6.out.size)); clear hs hb7)
          go_returns
          exact ⟨by first | rfl | simp, HB7.out⟩
  · have hrt := rightN_no hr
    rw [hrt] at HRR
    clear h hu hr hrt hb0 hx0 hst0 hzV
    go_enter Try.func3, Try.ntmps3
    go_wp2_with (go_at_call 8; refine (HRR.out _ (HH.out.keep HB0.out)).mono ?_; rintro e w3 ⟨rfl, hb3⟩; have HB3 := Lib.hid (HB0.out.trans (hb3.mono HB0.out.size)); clear hb3)
    go_returns
    exact ⟨by first | rfl | simp, HB3.out⟩
end Go.Proofs.Ytfjhcoeehjephaa
