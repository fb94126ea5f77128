/- TransJoins, with its rules and text laid open. -/
import Derived.Test.YthjnkpoalbddkaaLTRulesY
import Derived.Test.YthjnkpoalbddkaaLTThenY
namespace Go.Proofs.Ythjnkpoalbddkaa
open Go.RowKit
set_option maxRecDepth 100000 in
theorem alive12 (w : World) : Calls Try.prog 35 #[] w fun e w' => e = .returned (.bool true) ∧ Below w.heap.size w w' := by
  go_enter Try.func35, Try.ntmps35
  go_wp2_with (first
    | (go_at_call 63; refine (Try.utf8_RuneCountInString ⟨#[97]⟩ _ (by decide)).mono ?_; rw [count_a]; rintro e w1 ⟨rfl, pos, rfl⟩)
    | go_in)
  go_returns
  exact ⟨rfl, (Below.refl _ _).alloc (Nat.le_refl _) _⟩
/-- what Build comes to, in any case -/
def BAny (l : List SR) (w : World) (e : Ending) (w' : World) : Prop :=
  ∃ (A0 A1 A2 A3 : Option Addr) (n0 n1 n2 n3 c0 c1 c2 c3 : Nat) (ee : Int), e = .returned (.tuple #[.agg #[.slice A0 n0 c0, .slice A1 n1 c1, .slice A2 n2 c2, .slice A3 n3 c3], .int .i64 ee]) ∧ Below w.heap.size w w' ∧
    (ee = 0 → AllOk l ∧ ∃ m RA rc PA pc fl, RunI (stepB (rulesOf l)) (finB (rulesOf l)) [] (OpenW (rulesOf l)) (fun _ _ => false) (fun _ => false) m m.all.length 0 fl ∧ RightM m.mach ∧ MachIn w' A0 A1 A2 A3 n0 n1 n2 n3 m.mach RA rc PA pc)
theorem bbuild_any (A : Option Addr) (n c : Nat) (l : List SR) (w : World) (h : RulesIn w A n l) : Calls Try.prog 34 #[.slice A n c] w (BAny l w) := by
  by_cases h0 : rightE l = 0
  · have hok := allOk_of h0
    refine (bbuild_ok A n c l w h.len h.arr hok).mono ?_
    intro e w' h1
    rcases h1 with ⟨rfl, hb, _⟩ | ⟨m, A0, A1, A2, A3, n0, n1, n2, n3, c0, c1, c2, c3, RA, rc, PA, pc, rfl, hb, ⟨fl, hrn⟩, hbad, hmm⟩
    · exact ⟨none, none, none, none, 0, 0, 0, 0, 0, 0, 0, 0, 80, rfl, hb, fun h => by omega⟩
    · exact ⟨A0, A1, A2, A3, n0, n1, n2, n3, c0, c1, c2, c3, 0, rfl, hb, fun _ => ⟨hok, m, RA, rc, PA, pc, fl, hrn, hrn.ok.right hbad, hmm⟩⟩
  · refine (bbuild_no A n c l w h.len h.arr h.le (fun k hk => (h.sizes k hk).1) h0).mono ?_
    rintro e w' ⟨rfl, hb⟩
    exact ⟨none, none, none, none, 0, 0, 0, 0, 0, 0, 0, 0, rightE l, rfl, hb, fun h => absurd h h0⟩
theorem after_le (m : Mach) (s : Bs) (k : Nat) : (after m (s.take k)).1.length ≤ (total m s).length := Nat.le_trans (after_take m s k) (total_ge m s)
set_option maxRecDepth 100000 in
set_option maxHeartbeats 16000000 in
theorem law_tjoins (A B : Option Addr) (n q c d : Nat) (k l : List SR) (s : ByteArray) (w : World) (hA : RulesIn w A n k) (hB : RulesIn w B q l) :
    Calls Try.prog 12 #[.slice A n c, .slice B q d, .string s] w fun e w' => e = .returned (.bool true) ∧ Below w.heap.size w w' := by
  have HA := Lib.hid hA
  have HB := Lib.hid hB
  clear hA hB
  go_enter Try.func12, Try.ntmps12
  go_wp2_with fail
  refine (alive12 _).mono ?_
  rintro e w1 ⟨rfl, hb1⟩
  have HB1 := Lib.hid hb1
  clear hb1
  go_wp2_with fail
  refine (bbuild_any A n c k w1 (HA.out.keep HB1.out)).mono ?_
  rintro e w2 ⟨A0, A1, A2, A3, n0, n1, n2, n3, c0, c1, c2, c3, ea, rfl, hb2, hma⟩
  have hb2' := hb2.trans (((Below.refl w2.heap.size w2).alloc (Nat.le_refl _) (.cells #[.slice A0 n0 c0, .slice A1 n1 c1, .slice A2 n2 c2, .slice A3 n3 c3] 42)).mono hb2.size)
  have HB2 := Lib.hid (HB1.out.trans (hb2'.mono HB1.out.size))
  have HXA := Lib.hid (box_new w2 A0 A1 A2 A3 n0 n1 n2 n3 c0 c1 c2 c3)
  have hal := (Below.refl w2.heap.size w2).alloc (Nat.le_refl _) (.cells #[.slice A0 n0 c0, .slice A1 n1 c1, .slice A2 n2 c2, .slice A3 n3 c3] 42)
  have HMA := Lib.hid (show ea = 0 → AllOk k ∧ ∃ m RA rc PA pc fl, RunI (stepB (rulesOf k)) (finB (rulesOf k)) [] (OpenW (rulesOf k)) (fun _ _ => false) (fun _ => false) m m.all.length 0 fl ∧ RightM m.mach ∧ MachIn (w2.alloc (.cells #[.slice A0 n0 c0, .slice A1 n1 c1, .slice A2 n2 c2, .slice A3 n3 c3] 42)) A0 A1 A2 A3 n0 n1 n2 n3 m.mach RA rc PA pc from fun h0 => by
    obtain ⟨hok, m, RA, rc, PA, pc, fl, h1, h2, h3⟩ := hma h0
    exact ⟨hok, m, RA, rc, PA, pc, fl, h1, h2, h3.keep hal⟩)
  clear hb2 hb2' hma hal
  go_wp2_with fail
  obtain ⟨ba, hba⟩ : ∃ ba, ba = w2.heap.size := ⟨_, rfl⟩
  rw [← hba] at HXA ⊢
  clear hba
  generalize w2.alloc (.cells #[.slice A0 n0 c0, .slice A1 n1 c1, .slice A2 n2 c2, .slice A3 n3 c3] 42) = w3 at HB2 HXA HMA ⊢
  refine (bbuild_any B q d l w3 (HB.out.keep HB2.out)).mono ?_
  rintro e w4 ⟨B0, B1, B2, B3, k0, k1, k2, k3, d0, d1, d2, d3, eb, rfl, hb4, hmb⟩
  have hb4' := hb4.trans (((Below.refl w4.heap.size w4).alloc (Nat.le_refl _) (.cells #[.slice B0 k0 d0, .slice B1 k1 d1, .slice B2 k2 d2, .slice B3 k3 d3] 42)).mono hb4.size)
  have HB4 := Lib.hid (HB2.out.trans (hb4'.mono HB2.out.size))
  have HXB := Lib.hid (box_new w4 B0 B1 B2 B3 k0 k1 k2 k3 d0 d1 d2 d3)
  have hal := (Below.refl w4.heap.size w4).alloc (Nat.le_refl _) (.cells #[.slice B0 k0 d0, .slice B1 k1 d1, .slice B2 k2 d2, .slice B3 k3 d3] 42)
  have HXA4 := Lib.hid (HXA.out.below hb4' HXA.out.lt)
  have HMA4 := Lib.hid (show ea = 0 → AllOk k ∧ ∃ m RA rc PA pc fl, RunI (stepB (rulesOf k)) (finB (rulesOf k)) [] (OpenW (rulesOf k)) (fun _ _ => false) (fun _ => false) m m.all.length 0 fl ∧ RightM m.mach ∧ MachIn (w4.alloc (.cells #[.slice B0 k0 d0, .slice B1 k1 d1, .slice B2 k2 d2, .slice B3 k3 d3] 42)) A0 A1 A2 A3 n0 n1 n2 n3 m.mach RA rc PA pc from fun h0 => by
    obtain ⟨hok, m, RA, rc, PA, pc, fl, h1, h2, h3⟩ := HMA.out h0
    exact ⟨hok, m, RA, rc, PA, pc, fl, h1, h2, h3.keep hb4'⟩)
  have HMB := Lib.hid (show eb = 0 → AllOk l ∧ ∃ m RA rc PA pc fl, RunI (stepB (rulesOf l)) (finB (rulesOf l)) [] (OpenW (rulesOf l)) (fun _ _ => false) (fun _ => false) m m.all.length 0 fl ∧ RightM m.mach ∧ MachIn (w4.alloc (.cells #[.slice B0 k0 d0, .slice B1 k1 d1, .slice B2 k2 d2, .slice B3 k3 d3] 42)) B0 B1 B2 B3 k0 k1 k2 k3 m.mach RA rc PA pc from fun h0 => by
    obtain ⟨hok, m, RA, rc, PA, pc, fl, h1, h2, h3⟩ := hmb h0
    exact ⟨hok, m, RA, rc, PA, pc, fl, h1, h2, h3.keep hal⟩)
  clear hb4 hb4' hmb hal HXA HMA HB2
  go_upto_region 5 with (fail)
  obtain ⟨bb, hbb⟩ : ∃ bb, bb = w4.heap.size := ⟨_, rfl⟩
  rw [← hbb] at HXB ⊢
  clear hbb
  generalize w4.alloc (.cells #[.slice B0 k0 d0, .slice B1 k1 d1, .slice B2 k2 d2, .slice B3 k3 d3] 42) = w5 at HB4 HXB HXA4 HMA4 HMB ⊢
  obtain ⟨q0, q1, q2, q3⟩ := four_cells HXA4.out
  obtain ⟨p0, p1, p2, p3⟩ := four_cells HXB.out
  by_cases hea : ea = 0
  · subst hea
    by_cases heb : eb = 0
    · subst heb
      by_cases h6 : 60 < n0
      · have g1 : decide ((60 : Int) < (n0 : Int)) = true := by simp; omega
        go_wp2_with fail
        go_returns
        exact ⟨by first | rfl | simp, HB4.out⟩
      · have g1 : decide ((60 : Int) < (n0 : Int)) = false := by simp; omega
        by_cases h7 : 60 < k0
        · have g2 : decide ((60 : Int) < (k0 : Int)) = true := by simp; omega
          go_wp2_with fail
          go_returns
          exact ⟨by first | rfl | simp, HB4.out⟩
        · have g2 : decide ((60 : Int) < (k0 : Int)) = false := by simp; omega
          obtain ⟨hoka, ma, RAa, rca, PAa, pca, fla, hra, hrma, hmma⟩ := HMA4.out rfl
          obtain ⟨hokb, mb, RAb, rcb, PAb, pcb, flb, hrb, hrmb, hmmb⟩ := HMB.out rfl
          have HOK := Lib.hid (And.intro hoka hokb)
          have HRN := Lib.hid (And.intro hra hrb)
          have hcs := cutS_le s 100
          obtain ⟨s', hs'⟩ : ∃ s', s' = cutS s 100 := ⟨_, rfl⟩
          have HSH := Lib.hid (fun w => tshort_any s 100 (by omega) w)
          rw [← hs'] at hcs HSH
          have HT : Hid (Calls Try.prog 32 #[.agg #[.slice A0 n0 c0, .slice A1 n1 c1, .slice A2 n2 c2, .slice A3 n3 c3], .agg #[.slice B0 k0 d0, .slice B1 k1 d1, .slice B2 k2 d2, .slice B3 k3 d3]] w5 (ThRes ma.mach mb.mach w5)) :=
            Lib.hid (tthen_ok ma.mach mb.mach (fun i => [A0, A1, A2, A3].getD i none) (fun i => [B0, B1, B2, B3].getD i none) (fun i => [n0, n1, n2, n3].getD i 0) (fun i => [k0, k1, k2, k3].getD i 0) (fun i => [c0, c1, c2, c3].getD i 0) (fun i => [d0, d1, d2, d3].getD i 0) RAa rca PAa pca RAb rcb PAb pcb w5 hmma hmmb hrma hrmb)
          clear hoka hokb hra hrb hmma hmmb hrma hrmb hs' HMA4 HMB
          go_wp2_with fail
          refine (HSH.out _).mono ?_
          rintro e w6 ⟨rfl, rfl⟩
          go_wp2_with fail
          refine HT.out.mono ?_
          rintro e w7 h7
          rcases h7 with ⟨rfl, hb7, _⟩ | ⟨m, M0, M1, M2, M3, j0, j1, j2, j3, e0, e1, e2, e3, RM, rm, PM, pm, rfl, hb7, hrn, hbad, hmm⟩
          · have HB7 := Lib.hid (HB4.out.trans (hb7.mono HB4.out.size))
            have HBF := Lib.hid (HB7.out.alloc HB7.out.size (.cells #[.slice none 0 0, .slice none 0 0, .slice none 0 0, .slice none 0 0] 42))
            clear hb7
            go_wp2_with fail
            go_returns
            exact ⟨by first | rfl | simp, HBF.out⟩
          · have HB7 := Lib.hid (HB4.out.trans (hb7.mono HB4.out.size))
            have HB8 := Lib.hid (HB7.out.alloc HB7.out.size (.cells #[.slice M0 j0 e0, .slice M1 j1 e1, .slice M2 j2 e2, .slice M3 j3 e3] 42))
            have hal := (Below.refl w7.heap.size w7).alloc (Nat.le_refl _) (.cells #[.slice M0 j0 e0, .slice M1 j1 e1, .slice M2 j2 e2, .slice M3 j3 e3] 42)
            have HX := Lib.hid (And.intro (box_new w7 M0 M1 M2 M3 j0 j1 j2 j3 e0 e1 e2 e3) (hmm.keep hal))
            have HM := Lib.hid (And.intro hrn (hrn.ok.right hbad))
            have r1 := rules_total HOK.out.1 HRN.out.1 s'.data.toList
            have r2 := rules_total HOK.out.2 HRN.out.2 (total ma.mach s'.data.toList)
            have l1 := rew_32 HOK.out.1.fit (rules32 HOK.out.1) r1
            have l2 := rew_32 HOK.out.2.fit (rules32 HOK.out.2) r2
            rw [size_data] at l1
            have hnt : ¬ TooLongL 262144 mb.mach (total ma.mach s'.data.toList) := by
              rintro (⟨i, _, hl⟩ | hl)
              · have := after_le mb.mach (total ma.mach s'.data.toList) i
                omega
              · omega
            have hres := then_short hrn s'.data.toList hnt
            obtain ⟨x, hx⟩ : ∃ x : ByteArray, x = ⟨(total ma.mach s'.data.toList).toArray⟩ := ⟨_, rfl⟩
            obtain ⟨y, hy⟩ : ∃ y : ByteArray, y = ⟨(total mb.mach (total ma.mach s'.data.toList)).toArray⟩ := ⟨_, rfl⟩
            have hxl : x.data.toList = total ma.mach s'.data.toList := by rw [hx]
            have hyl : y.data.toList = total mb.mach (total ma.mach s'.data.toList) := by rw [hy]
            rw [← hyl] at hres r2
            rw [← hxl] at r1 r2 l1
            have hxs : x.size ≤ 262144 := by rw [← size_data]; omega
            have HRW := Lib.hid (And.intro r1 (And.intro r2 hres))
            clear hb7 hrn hbad hmm hal r1 r2 l1 l2 hnt hres hx hy hxl hyl q0 q1 q2 q3 p0 p1 p2 p3 HT HB7
            go_upto_region 11 with (fail)
            obtain ⟨bm, hbm⟩ : ∃ bm, bm = w7.heap.size := ⟨_, rfl⟩
            rw [← hbm] at HX ⊢
            clear hbm
            generalize w7.alloc (.cells #[.slice M0 j0 e0, .slice M1 j1 e1, .slice M2 j2 e2, .slice M3 j3 e3] 42) = w8 at HB8 HX ⊢
            have HA8 := Lib.hid (HA.out.keep HB8.out)
            go_wp2_with fail
            refine (apply_ok A n c k s' w8 HA8.out.len HA8.out.arr HA8.out.sizes HOK.out.1 (by omega)).mono ?_
            rintro e w9 ⟨o, hrew, hol, rfl, hb9⟩
            have ho : (⟨o.toArray⟩ : ByteArray) = x := str_ext (by have := hrew.unique HOK.out.1.fit HRW.out.1; simpa using this)
            rw [ho]
            have HB9 := Lib.hid (HB8.out.trans (hb9.mono HB8.out.size))
            have HX9 := Lib.hid (And.intro (HX.out.1.below hb9 HX.out.1.lt) (HX.out.2.keep hb9))
            have HQ9 := Lib.hid (HB.out.keep HB9.out)
            clear hrew hol ho hb9 HX HA8
            go_wp2_with fail
            refine (apply_ok B q d l x w9 HQ9.out.len HQ9.out.arr HQ9.out.sizes HOK.out.2 hxs).mono ?_
            rintro e w10 ⟨o, hrew, hol, rfl, hb10⟩
            have ho : (⟨o.toArray⟩ : ByteArray) = y := str_ext (by have := hrew.unique HOK.out.2.fit HRW.out.2.1; simpa using this)
            rw [ho]
            have HB10 := Lib.hid (HB9.out.trans (hb10.mono HB9.out.size))
            have HX10 := Lib.hid (And.intro (HX9.out.1.below hb10 HX9.out.1.lt) (HX9.out.2.keep hb10))
            clear hrew hol ho hb10 HX9 HQ9
            obtain ⟨x0, x1, x2, x3⟩ := four_cells HX10.out.1
            have HTR := Lib.hid (trun_any M0 M1 M2 M3 j0 j1 j2 j3 e0 e1 e2 e3 m.mach RM rm PM pm s' w10 HX10.out.2 HM.out.2 (by omega))
            rw [HRW.out.2.2] at HTR
            go_wp2_with fail
            refine HTR.out.mono ?_
            rintro e w11 ⟨rfl, hb11⟩
            have HB11 := Lib.hid (HB10.out.trans (hb11.mono HB10.out.size))
            clear hb11
            go_wp2_with fail
            go_returns
            exact ⟨by first | rfl | simp, HB11.out⟩
    · have g1 : (eb != 0) = true := by simpa using heb
      go_wp2_with fail
      go_returns
      exact ⟨by first | rfl | simp, HB4.out⟩
  · have g1 : (ea != 0) = true := by simpa using hea
    go_wp2_with fail
    go_returns
    exact ⟨by first | rfl | simp, HB4.out⟩
end Go.Proofs.Ythjnkpoalbddkaa
