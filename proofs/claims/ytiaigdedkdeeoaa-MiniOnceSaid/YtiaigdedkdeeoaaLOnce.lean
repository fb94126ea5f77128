/- MiniOnce, with its automaton laid open. -/
import Derived.Test.YtiaigdedkdeeoaaOnce1
import Derived.Test.YtiaigdedkdeeoaaLMaps
import Derived.Test.YtiaigdedkdeeoaaAlive
namespace Go.Proofs.Ytiaigdedkdeeoaa
open Go.RowKit Go.Maps Go.WideMaps
attribute [local go_sem ↓] load_22 load_26 store_22 store_26 build_26

set_option maxRecDepth 100000 in
set_option maxHeartbeats 16000000 in
theorem law_once (ds : Array Value) (A1 A2 : Option Addr) (n n2 c1 c2 : Nat) (D : Dfa) (RA : Nat → Option Addr) (rc : Nat → Nat) (w : World) (h : DfaIn w ds A1 A2 n n2 c1 c2 D RA rc) :
    Calls Try.prog 4 #[.agg ds] w fun e w' => e = .returned (.bool true) ∧ Below w.heap.size w w' := by
  have hds := h.cells.size
  have hbox := blk_alloc w 26 ds
  have hbl : Below w.heap.size w (w.alloc (.cells ds 26)) := (Below.refl _ _).alloc (Nat.le_refl _) _
  have H := Lib.hid h
  have HB := Lib.hid (And.intro hbox hbl)
  clear h hbox hbl
  go_enter Try.func4, Try.ntmps4
  go_upto_region 1 with (fail)
  generalize w.alloc (.cells ds 26) = w1 at HB ⊢
  go_wp2_with fail
  refine (alive_any w1).mono ?_
  rintro e w2 ⟨rfl, hb2⟩
  have hbl := HB.out.2.trans (hb2.mono HB.out.2.size)
  have hbx := HB.out.1.below hb2 HB.out.1.lt
  have hld := ldB hbx hds
  have HC := Lib.hid (And.intro hbx hbl)
  clear HB hb2 hbl hbx
  go_wp2_with fail
  refine (drright_any ds A1 A2 n n2 c1 c2 D RA rc w2 (H.out.keep HC.out.2)).mono ?_
  rintro e w3 ⟨rfl, hb3⟩
  have hbl := HC.out.2.trans (hb3.mono HC.out.2.size)
  have hbx := HC.out.1.below hb3 HC.out.1.lt
  have hld := ldB hbx hds
  have q1 := hbx.cell 256
  rw [Array.getElem?_toList, H.out.cells.nx] at q1
  have HD := Lib.hid (And.intro hbx hbl)
  clear HC hb3 hbl hbx
  by_cases hr : RightD D
  · rw [rightD_yes hr]
    by_cases hn : n ≤ 150
    · have d1 : decide ((150 : Int) < (n : Int)) = false := by simp; omega
      have d2 : decide (150 < n) = false := by simp; omega
      have HR := Lib.hid hr
      clear hr
      go_wp2_with fail
      clear d1 d2
      refine (least_right ds A1 A2 n n2 c1 c2 D RA rc w3 (H.out.keep HD.out.2) HR.out).mono ?_
      rintro e w4 ⟨dm, A3, c3, A4, c4, k3, RM, rm, M, rfl, hdm, hlm, hb4⟩
      have hz26 := zeroV26
      have hb0 := blk_alloc w4 26 zs26
      have hst := storeB_run 26 hb0 (.inl rfl) dm (by rw [Array.length_toList, size26]; rfl) (by rw [hdm.here.cells.size]; rfl) (cells_one hdm.here.cells)
      have hmb := hb0.row dm
      have hb9 : Below w4.heap.size w4 ((w4.alloc (.cells zs26 26)).setRow w4.heap.size dm) := below_setRow ((Below.refl _ _).alloc (Nat.le_refl _) _) (Nat.le_refl _) _
      have hbx := (HD.out.1.below hb4 HD.out.1.lt).below hb9 (Nat.lt_of_lt_of_le HD.out.1.lt hb4.size)
      have hbl := (HD.out.2.trans (hb4.mono HD.out.2.size)).trans (hb9.mono (Nat.le_trans HD.out.2.size hb4.size))
      have him := hdm.here.keep hb9
      have hld2 := ldB hmb him.cells.size
      have HM := Lib.hid (And.intro (LmW.mk hbl hbx hmb him) hlm)
      clear hb0 hmb hb9 hbx hbl him hlm hdm hb4 HD hld q1
      go_upto_region 6 with (fail)
      clear hst
      obtain ⟨g3, hg3⟩ : ∃ g3, g3 = w4.heap.size := ⟨_, rfl⟩
      rw [← hg3] at HM hld2 ⊢
      clear hg3
      generalize (w4.alloc (.cells zs26 26)).setRow g3 dm = w5 at HM hld2 ⊢
      have hrM := HM.out.2.right HR.out
      have HRM := Lib.hid hrM
      clear hrM
      go_wp2_with fail
      refine (least_right dm A3 A4 k3 k3 c3 c4 M RM rm w5 HM.out.1.dm HRM.out.1).mono ?_
      rintro e w6 ⟨dn, B3, e3, B4, e4, k4, RN, rn, N, rfl, hdn, hln, hb6⟩
      have hNM := least_same HRM.out.1 HR.out HRM.out.2.2 hln HM.out.2
      have hb0 := blk_alloc w6 26 zs26
      have hst := storeB_run 26 hb0 (.inl rfl) dn (by rw [Array.length_toList, size26]; rfl) (by rw [hdn.here.cells.size]; rfl) (cells_one hdn.here.cells)
      have hnb := hb0.row dn
      have hb9 : Below w6.heap.size w6 ((w6.alloc (.cells zs26 26)).setRow w6.heap.size dn) := below_setRow ((Below.refl _ _).alloc (Nat.le_refl _) _) (Nat.le_refl _) _
      have hb5 := hb6.trans (hb9.mono hb6.size)
      have hm7 := HM.out.1.go hb5
      have hin := hdn.here.keep hb9
      have hldm := ldB hm7.mb hm7.dm.cells.size
      have hldn := ldB hnb hin.cells.size
      have HM7 := Lib.hid (And.intro hm7 (And.intro hin hNM))
      clear hb0 hnb hb9 hb5 hm7 hin hdn hb6 hln hld2 hNM
      go_upto_region 7 with (fail)
      clear hst hz26
      obtain ⟨g5, hg5⟩ : ∃ g5, g5 = w6.heap.size := ⟨_, rfl⟩
      rw [← hg5] at hldn HM7 hldm ⊢
      clear hg5
      generalize (w6.alloc (.cells zs26 26)).setRow g5 dn = w7 at HM7 hldm hldn ⊢
      go_wp2_with fail
      refine (like_eq dm dn A3 A4 B3 B4 k3 k4 c3 c4 e3 e4 M N RM RN rm rn w7 HM7.out.1.dm HM7.out.2.1 HM7.out.2.2.symm).mono ?_
      rintro e wB ⟨rfl, hb8⟩
      have hmB := HM7.out.1.go hb8
      have HMB := Lib.hid (And.intro hmB HM.out.2)
      clear hb8 hmB hldm hldn HM7 HM
      go_upto_region 9 with (fail)
      go_cut [7] from 47 (fun v W => ∃ (gt : Nat) (Ab : Option Addr) (cb : Nat), v = .pointer (some ⟨gt, 0, none⟩) ∧ Below wB.heap.size wB W ∧ wB.heap.size ≤ gt ∧ Blk W gt 26 (dVals D.cls (.slice none 0 0) (.slice Ab (n2 + n2) cb)) ∧ W.ownsRow wB.heap.size 4 1 (.slice Ab (n2 + n2) cb) (n2 + n2) ((D.acc ++ D.acc).map Value.bool) ∧ wB.heap.size + 1 ≤ W.heap.size)
      case first =>
        have hal := H.out.alen
        have hra := HR.out.alen
        have hln := H.out.next.len
        have hlo := HR.out.lo
        have hn1 : 0 < n2 := by omega
        have hn3 : n2 ≤ 150 := by omega
        obtain ⟨b2, o2, e2, hb2, -⟩ := H.out.aarr.one (k := 0) hn1
        have HA := Lib.hid (H.out.aarr)
        have HCELLS := Lib.hid H.out.cells
        subst e2
        obtain ⟨acl, hacl⟩ : ∃ acl, acl = D.acc := ⟨_, rfl⟩
        obtain ⟨cv, hcv⟩ : ∃ cv, cv = (clsV D.cls).toArray := ⟨_, rfl⟩
        have hac : (∀ W, Below wB.heap.size wB W → ∀ j u, (acl.map Value.bool)[j]? = some u → W.cell? ((⟨b2, o2, none⟩ : Addr).add j) = some u) ∧ (acl.map Value.bool).length = n2 * 1 ∧ (∀ u ∈ acl.map Value.bool, u.oneCell' = true) := by
          refine ⟨fun W hW j u hu => ?_, by rw [List.length_map, hacl, hal]; omega, fun u hu => ?_⟩
          · have hj : j < n2 := by
              have := (List.getElem?_eq_some_iff.1 hu).1
              rw [List.length_map, hacl, hal] at this
              exact this
            obtain ⟨b9, o9, e9, hb9, hc9⟩ := HA.out.one hj
            injection e9 with e9
            injection e9 with e91 e92
            subst e91
            subst e92
            have hk := HMB.out.1.bel.trans (hW.mono HMB.out.1.bel.size)
            rw [add_plain', hk.cell (p := ⟨b2, o2 + j, none⟩) hb9, hc9, ← hu, hacl]
            unfold BoolC
            have : j < D.acc.length := by omega
            simp [this]
          · obtain ⟨b, _, rfl⟩ := List.mem_map.1 hu
            rfl
        have HAC := Lib.hid hac
        have HACL := Lib.hid (show acl.length = n2 by rw [hacl, hal])
        have HL1 := Lib.hid (show ([] ++ acl : List Bool).length = n2 by rw [List.nil_append, hacl, hal])
        have hT0 : TwA wB wB.drew (.slice none 0 0) [] none := TwA.start (Below.refl _ _).drew
        let RR : World → Prop := fun W => Blk W w.heap.size 26 ds.toList
        have hrl : ∀ W, Below wB.heap.size wB W → RR W := fun W hW => HMB.out.1.box.below hW HMB.out.1.box.lt
        have HRL := Lib.hid hrl
        have hrr : ∀ W, RR W → (loadB 22 (.pointer (some ⟨w.heap.size, 0, none⟩))).run Try.prog W = .ok (.agg cv) W ∧ W.cell? ⟨w.heap.size, 257, none⟩ = some (.slice (some ⟨b2, o2, none⟩) n2 c2) := fun W hW => by
          have hW : Blk W w.heap.size 26 ds.toList := hW
          refine ⟨by rw [hcv]; exact cls_load hW HCELLS.out, ?_⟩
          rw [hW.cell, Array.getElem?_toList, HCELLS.out.ac]
        have HRR := Lib.hid hrr
        have hbd : ∀ (A : Option Addr) (m c : Nat) (W : World), (buildB #[(0, .agg cv), (2, .slice A m c)]).run Try.prog W = .ok (.agg (dVals D.cls (.slice none 0 0) (.slice A m c)).toArray) W := fun A m c W => by rw [hcv]; exact buildB_run D.cls A m c W
        obtain ⟨i4, hi4, hz4, hsz4, hbt4⟩ := info_parts info4
        have hz26 := zeroV26
        have HL2 := Lib.hid (show (([] ++ acl) ++ acl : List Bool).length = n2 + n2 by rw [List.length_append, List.nil_append, hacl, hal])
        have HACC := Lib.hid hacl
        clear hrl hac hrr hacl hal hra hln hb2 hcv
        clear_value RR
        refine wp_region_L (S := SL [(11, RR)]) (by kernel_rfl) (SL.cons (HRL.out _ hT0.bel) SL.nil) (fun hHeld => ?_)
        obtain ⟨w0, hw0⟩ : ∃ w0, w0 = wB.drew := ⟨_, rfl⟩
        rw [← hw0] at hT0 hHeld ⊢
        clear hw0
        refine takeP (i := 0) (v := ?v0_1) (List.getElem?_toArray.trans rfl) (by kernel_rfl) (by kernel_rfl) (by kernel_rfl) (fun _ _ _ h => h) (by kernel_rfl) (Or.inl ⟨by rfl, ?hy0_1⟩) hHeld (fun hHeld => ?rest0_1)
        case hy0_1 => (intro W hSw; go_simp <;> (with_reducible rfl))
        simp only [Act.put, List.setIfInBounds_toArray, List.set_cons_zero, List.set_cons_succ]
        refine takeP (i := 3) (v := ?v3_2) (List.getElem?_toArray.trans rfl) (by kernel_rfl) (by kernel_rfl) (by kernel_rfl) (fun _ _ _ h => h) (by kernel_rfl) (Or.inl ⟨by rfl, ?hy3_2⟩) hHeld (fun hHeld => ?rest3_2)
        case hy3_2 => (intro W hSw; go_simp <;> (with_reducible rfl))
        simp only [Act.put, List.setIfInBounds_toArray, List.set_cons_zero, List.set_cons_succ]
        refine takeP (i := 6) (v := ?v6_3) (List.getElem?_toArray.trans rfl) (by kernel_rfl) (by kernel_rfl) (by kernel_rfl) (fun _ _ _ h => h) (by kernel_rfl) (Or.inl ⟨by rfl, ?hy6_3⟩) hHeld (fun hHeld => ?rest6_3)
        case hy6_3 => (intro W hSw; go_simp <;> (with_reducible rfl))
        simp only [Act.put, List.setIfInBounds_toArray, List.set_cons_zero, List.set_cons_succ]
        refine takeL (i := 1) (v := ?v1_4) 11 (RR) [1, 9, 11] (by simp) (List.getElem?_toArray.trans rfl) (by kernel_rfl) (by kernel_rfl) (by kernel_rfl) (fun _ _ _ h => h) (by kernel_rfl) (Or.inl ⟨by rfl, ?hy1_4⟩) hHeld (fun hHeld => ?rest1_4)
        case hy1_4 => (intro W hSw; obtain ⟨r1, r2⟩ := HRR.out W hSw; go_simp <;> (with_reducible rfl))
        simp only [Act.put, List.setIfInBounds_toArray, List.set_cons_zero, List.set_cons_succ]
        refine takeL (i := 4) (v := ?v4_5) 11 (RR) [4, 5, 8, 9, 11] (by simp) (List.getElem?_toArray.trans rfl) (by kernel_rfl) (by kernel_rfl) (by kernel_rfl) (fun _ _ _ h => h) (by kernel_rfl) (Or.inl ⟨by rfl, ?hy4_5⟩) hHeld (fun hHeld => ?rest4_5)
        case hy4_5 => (intro W hSw; obtain ⟨r1, r2⟩ := HRR.out W hSw; go_simp <;> (with_reducible rfl))
        simp only [Act.put, List.setIfInBounds_toArray, List.set_cons_zero, List.set_cons_succ]
        refine takeL (i := 7) (v := ?v7_6) 11 (RR) [7, 8, 9, 11] (by simp) (List.getElem?_toArray.trans rfl) (by kernel_rfl) (by kernel_rfl) (by kernel_rfl) (fun _ _ _ h => h) (by kernel_rfl) (Or.inl ⟨by rfl, ?hy7_6⟩) hHeld (fun hHeld => ?rest7_6)
        case hy7_6 => (intro W hSw; obtain ⟨r1, r2⟩ := HRR.out W hSw; go_simp <;> (with_reducible rfl))
        simp only [Act.put, List.setIfInBounds_toArray, List.set_cons_zero, List.set_cons_succ]
        refine wpAnyL_ready (rs := [2, 10]) (by kernel_rfl) (by simp) ?_
        refine AllReadyL.cons (List.getElem?_toArray.trans rfl) (fun K hK => ?w2_13) (AllReadyL.cons (List.getElem?_toArray.trans rfl) (fun K hK => ?w10_13) (AllReadyL.nil))
        case w2_13 =>
          go_simp
          have hT1 := hT0.build
          refine hK.out _ _ (SL.cons (HRL.out _ hT1.bel) SL.nil) (fun hHeld => ?_)
          clear hK K
          try simp only [Act.put, List.setIfInBounds_toArray, List.set_cons_zero, List.set_cons_succ]
          refine wpAnyL_ready (rs := [5, 10]) (by kernel_rfl) (by simp) ?_
          refine AllReadyL.cons (List.getElem?_toArray.trans rfl) (fun K hK => ?w5_11) (AllReadyL.cons (List.getElem?_toArray.trans rfl) (fun K hK => ?w10_11) (AllReadyL.nil))
          case w5_11 =>
            refine step_append_lies _ rfl (.tmp 49) (.tmp 51) 24 rfl wB.heap.size 4 i4 (.bool false) 1 1 Try.underlying24 hi4 hz4 hsz4 hbt4 rfl (by decide) (.slice (some ⟨w0.heap.size, 0, none⟩) 0 0) 0 [] rfl hT1.own ⟨b2, o2, none⟩ n2 c2 (acl.map Value.bool) rfl HAC.out.2.1 (HAC.out.1 _ hT1.bel) HAC.out.2.2 hn1 (by unfold maxLen; omega) (by omega) hT1.bel.size _ rfl ?_
            intro ghT2 chT2 whT2 hownhT2 hgrowhT2 hathT2 hlthT2
            simp only [Nat.zero_add] at hownhT2
            have hT2 := hT1.app (n := n2) (v' := (.slice (some ⟨ghT2, 0, none⟩) n2 chT2)) (l' := acl) (by rw [List.nil_append]; exact HACL.out.symm) hownhT2 hgrowhT2
            refine hK.out _ _ (SL.cons (HRL.out _ hT2.bel) SL.nil) (fun hHeld => ?_)
            clear hK K
            try simp only [Act.put, List.setIfInBounds_toArray, List.set_cons_zero, List.set_cons_succ]
            try simp only [Nat.zero_add]
            refine wpAnyL_ready (rs := [8, 10]) (by kernel_rfl) (by simp) ?_
            refine AllReadyL.cons (List.getElem?_toArray.trans rfl) (fun K hK => ?w8_9) (AllReadyL.cons (List.getElem?_toArray.trans rfl) (fun K hK => ?w10_9) (AllReadyL.nil))
            case w8_9 =>
              refine step_append_lies _ rfl (.tmp 52) (.tmp 54) 24 rfl wB.heap.size 4 i4 (.bool false) 1 1 Try.underlying24 hi4 hz4 hsz4 hbt4 rfl (by decide) (.slice (some ⟨ghT2, 0, none⟩) n2 chT2) n2 (([] ++ acl).map Value.bool) rfl (by have h9 := hT2.own; rw [HL1.out] at h9; exact h9) ⟨b2, o2, none⟩ n2 c2 (acl.map Value.bool) rfl HAC.out.2.1 (HAC.out.1 _ hT2.bel) HAC.out.2.2 hn1 (by unfold maxLen; omega) (by omega) hT2.bel.size _ rfl ?_
              intro ghT3 chT3 whT3 hownhT3 hgrowhT3 hathT3 hlthT3
              have hT3 := hT2.app (n := n2 + n2) (v' := (.slice (some ⟨ghT3, 0, none⟩) (n2 + n2) chT3)) (l' := acl) (by rw [List.length_append, HL1.out, HACL.out]) hownhT3 hgrowhT3
              refine hK.out _ _ (SL.cons (HRL.out _ hT3.bel) SL.nil) (fun hHeld => ?_)
              clear hK K
              try simp only [Act.put, List.setIfInBounds_toArray, List.set_cons_zero, List.set_cons_succ]
              refine takeP (i := 9) (v := ?v9_7) (List.getElem?_toArray.trans rfl) (by kernel_rfl) (by kernel_rfl) (by kernel_rfl) (fun _ _ _ h => h) (by kernel_rfl) (Or.inl ⟨by rfl, ?hy9_7⟩) hHeld (fun hHeld => ?rest9_7)
              case hy9_7 => (intro W hSw; go_simp <;> (with_reducible rfl))
              simp only [Act.put, List.setIfInBounds_toArray, List.set_cons_zero, List.set_cons_succ]
              refine wpAnyL_ready (rs := [10]) (by kernel_rfl) (by simp) ?_
              refine AllReadyL.cons (List.getElem?_toArray.trans rfl) (fun K hK => ?_) AllReadyL.nil
              go_simp
              have hT4 := hT3.alloc
              try rw [size_al] at hT4
              refine hK.out _ _ (SL.cons (HRL.out _ hT4.bel) SL.nil) (fun hHeld => ?_)
              clear hK K
              try simp only [Act.put, List.setIfInBounds_toArray, List.set_cons_zero, List.set_cons_succ]
              refine wpAnyL_ready (rs := [11]) (by kernel_rfl) (by simp) ?_
              refine AllReadyL.cons (List.getElem?_toArray.trans rfl) (fun K hK => ?_) AllReadyL.nil
              have hbx := (hT4.box _ rfl).1
              have hst := storeB_run 26 hbx (.inl rfl) (dVals D.cls (.slice none 0 0) (.slice (some ⟨ghT3, 0, none⟩) (n2 + n2) chT3)).toArray (by rw [zs26_cells, dCells_len]; rfl) (by rw [List.size_toArray, dVals_len]; rfl) (dVals_one D.cls none _ 0 (n2 + n2) 0 _)
              go_simp
              have hfin := hT4.fin HL2.out D.cls
              refine hK.out _ _ (SL.off (by kernel_rfl) SL.nil) (fun hHeld => ?_)
              clear hK K
              try simp only [Act.put, List.setIfInBounds_toArray, List.set_cons_zero, List.set_cons_succ]
              refine wpAnyL_done (by kernel_rfl) ?_ _
              go_wp2_with fail
              go_meet
              exact ⟨_, _, _, rfl, hfin.1, hfin.2.1, hfin.2.2.1, by rw [← HACC.out]; exact hfin.2.2.2.1, hfin.2.2.2.2⟩
            case w10_9 =>
              go_simp
              have hT5 := hT2.alloc
              try rw [size_al] at hT5
              refine hK.out _ _ (SL.cons (HRL.out _ hT5.bel) SL.nil) (fun hHeld => ?_)
              clear hK K
              try simp only [Act.put, List.setIfInBounds_toArray, List.set_cons_zero, List.set_cons_succ]
              refine wpAnyL_ready (rs := [8]) (by kernel_rfl) (by simp) ?_
              refine AllReadyL.cons (List.getElem?_toArray.trans rfl) (fun K hK => ?_) AllReadyL.nil
              refine step_append_lies _ rfl (.tmp 52) (.tmp 54) 24 rfl wB.heap.size 4 i4 (.bool false) 1 1 Try.underlying24 hi4 hz4 hsz4 hbt4 rfl (by decide) (.slice (some ⟨ghT2, 0, none⟩) n2 chT2) n2 (([] ++ acl).map Value.bool) rfl (by have h9 := hT5.own; rw [HL1.out] at h9; exact h9) ⟨b2, o2, none⟩ n2 c2 (acl.map Value.bool) rfl HAC.out.2.1 (HAC.out.1 _ hT5.bel) HAC.out.2.2 hn1 (by unfold maxLen; omega) (by omega) hT5.bel.size _ rfl ?_
              intro ghT6 chT6 whT6 hownhT6 hgrowhT6 hathT6 hlthT6
              have hT6 := hT5.app (n := n2 + n2) (v' := (.slice (some ⟨ghT6, 0, none⟩) (n2 + n2) chT6)) (l' := acl) (by rw [List.length_append, HL1.out, HACL.out]) hownhT6 hgrowhT6
              refine hK.out _ _ (SL.cons (HRL.out _ hT6.bel) SL.nil) (fun hHeld => ?_)
              clear hK K
              try simp only [Act.put, List.setIfInBounds_toArray, List.set_cons_zero, List.set_cons_succ]
              refine takeP (i := 9) (v := ?v9_8) (List.getElem?_toArray.trans rfl) (by kernel_rfl) (by kernel_rfl) (by kernel_rfl) (fun _ _ _ h => h) (by kernel_rfl) (Or.inl ⟨by rfl, ?hy9_8⟩) hHeld (fun hHeld => ?rest9_8)
              case hy9_8 => (intro W hSw; go_simp <;> (with_reducible rfl))
              simp only [Act.put, List.setIfInBounds_toArray, List.set_cons_zero, List.set_cons_succ]
              refine wpAnyL_ready (rs := [11]) (by kernel_rfl) (by simp) ?_
              refine AllReadyL.cons (List.getElem?_toArray.trans rfl) (fun K hK => ?_) AllReadyL.nil
              have hbx := (hT6.box _ rfl).1
              have hst := storeB_run 26 hbx (.inl rfl) (dVals D.cls (.slice none 0 0) (.slice (some ⟨ghT6, 0, none⟩) (n2 + n2) chT6)).toArray (by rw [zs26_cells, dCells_len]; rfl) (by rw [List.size_toArray, dVals_len]; rfl) (dVals_one D.cls none _ 0 (n2 + n2) 0 _)
              go_simp
              have hfin := hT6.fin HL2.out D.cls
              refine hK.out _ _ (SL.off (by kernel_rfl) SL.nil) (fun hHeld => ?_)
              clear hK K
              try simp only [Act.put, List.setIfInBounds_toArray, List.set_cons_zero, List.set_cons_succ]
              refine wpAnyL_done (by kernel_rfl) ?_ _
              go_wp2_with fail
              go_meet
              exact ⟨_, _, _, rfl, hfin.1, hfin.2.1, hfin.2.2.1, by rw [← HACC.out]; exact hfin.2.2.2.1, hfin.2.2.2.2⟩
          case w10_11 =>
            go_simp
            have hT7 := hT1.alloc
            try rw [size_al] at hT7
            refine hK.out _ _ (SL.cons (HRL.out _ hT7.bel) SL.nil) (fun hHeld => ?_)
            clear hK K
            try simp only [Act.put, List.setIfInBounds_toArray, List.set_cons_zero, List.set_cons_succ]
            refine wpAnyL_ready (rs := [5]) (by kernel_rfl) (by simp) ?_
            refine AllReadyL.cons (List.getElem?_toArray.trans rfl) (fun K hK => ?_) AllReadyL.nil
            refine step_append_lies _ rfl (.tmp 49) (.tmp 51) 24 rfl wB.heap.size 4 i4 (.bool false) 1 1 Try.underlying24 hi4 hz4 hsz4 hbt4 rfl (by decide) (.slice (some ⟨w0.heap.size, 0, none⟩) 0 0) 0 [] rfl hT7.own ⟨b2, o2, none⟩ n2 c2 (acl.map Value.bool) rfl HAC.out.2.1 (HAC.out.1 _ hT7.bel) HAC.out.2.2 hn1 (by unfold maxLen; omega) (by omega) hT7.bel.size _ rfl ?_
            intro ghT8 chT8 whT8 hownhT8 hgrowhT8 hathT8 hlthT8
            simp only [Nat.zero_add] at hownhT8
            have hT8 := hT7.app (n := n2) (v' := (.slice (some ⟨ghT8, 0, none⟩) n2 chT8)) (l' := acl) (by rw [List.nil_append]; exact HACL.out.symm) hownhT8 hgrowhT8
            refine hK.out _ _ (SL.cons (HRL.out _ hT8.bel) SL.nil) (fun hHeld => ?_)
            clear hK K
            try simp only [Act.put, List.setIfInBounds_toArray, List.set_cons_zero, List.set_cons_succ]
            try simp only [Nat.zero_add]
            refine wpAnyL_ready (rs := [8]) (by kernel_rfl) (by simp) ?_
            refine AllReadyL.cons (List.getElem?_toArray.trans rfl) (fun K hK => ?_) AllReadyL.nil
            refine step_append_lies _ rfl (.tmp 52) (.tmp 54) 24 rfl wB.heap.size 4 i4 (.bool false) 1 1 Try.underlying24 hi4 hz4 hsz4 hbt4 rfl (by decide) (.slice (some ⟨ghT8, 0, none⟩) n2 chT8) n2 (([] ++ acl).map Value.bool) rfl (by have h9 := hT8.own; rw [HL1.out] at h9; exact h9) ⟨b2, o2, none⟩ n2 c2 (acl.map Value.bool) rfl HAC.out.2.1 (HAC.out.1 _ hT8.bel) HAC.out.2.2 hn1 (by unfold maxLen; omega) (by omega) hT8.bel.size _ rfl ?_
            intro ghT9 chT9 whT9 hownhT9 hgrowhT9 hathT9 hlthT9
            have hT9 := hT8.app (n := n2 + n2) (v' := (.slice (some ⟨ghT9, 0, none⟩) (n2 + n2) chT9)) (l' := acl) (by rw [List.length_append, HL1.out, HACL.out]) hownhT9 hgrowhT9
            refine hK.out _ _ (SL.cons (HRL.out _ hT9.bel) SL.nil) (fun hHeld => ?_)
            clear hK K
            try simp only [Act.put, List.setIfInBounds_toArray, List.set_cons_zero, List.set_cons_succ]
            refine takeP (i := 9) (v := ?v9_10) (List.getElem?_toArray.trans rfl) (by kernel_rfl) (by kernel_rfl) (by kernel_rfl) (fun _ _ _ h => h) (by kernel_rfl) (Or.inl ⟨by rfl, ?hy9_10⟩) hHeld (fun hHeld => ?rest9_10)
            case hy9_10 => (intro W hSw; go_simp <;> (with_reducible rfl))
            simp only [Act.put, List.setIfInBounds_toArray, List.set_cons_zero, List.set_cons_succ]
            refine wpAnyL_ready (rs := [11]) (by kernel_rfl) (by simp) ?_
            refine AllReadyL.cons (List.getElem?_toArray.trans rfl) (fun K hK => ?_) AllReadyL.nil
            have hbx := (hT9.box _ rfl).1
            have hst := storeB_run 26 hbx (.inl rfl) (dVals D.cls (.slice none 0 0) (.slice (some ⟨ghT9, 0, none⟩) (n2 + n2) chT9)).toArray (by rw [zs26_cells, dCells_len]; rfl) (by rw [List.size_toArray, dVals_len]; rfl) (dVals_one D.cls none _ 0 (n2 + n2) 0 _)
            go_simp
            have hfin := hT9.fin HL2.out D.cls
            refine hK.out _ _ (SL.off (by kernel_rfl) SL.nil) (fun hHeld => ?_)
            clear hK K
            try simp only [Act.put, List.setIfInBounds_toArray, List.set_cons_zero, List.set_cons_succ]
            refine wpAnyL_done (by kernel_rfl) ?_ _
            go_wp2_with fail
            go_meet
            exact ⟨_, _, _, rfl, hfin.1, hfin.2.1, hfin.2.2.1, by rw [← HACC.out]; exact hfin.2.2.2.1, hfin.2.2.2.2⟩
        case w10_13 =>
          go_simp
          have hT10 := hT0.alloc
          try rw [size_al] at hT10
          refine hK.out _ _ (SL.cons (HRL.out _ hT10.bel) SL.nil) (fun hHeld => ?_)
          clear hK K
          try simp only [Act.put, List.setIfInBounds_toArray, List.set_cons_zero, List.set_cons_succ]
          refine wpAnyL_ready (rs := [2]) (by kernel_rfl) (by simp) ?_
          refine AllReadyL.cons (List.getElem?_toArray.trans rfl) (fun K hK => ?_) AllReadyL.nil
          go_simp
          have hT11 := hT10.build
          rw [size_al] at hT11
          refine hK.out _ _ (SL.cons (HRL.out _ hT11.bel) SL.nil) (fun hHeld => ?_)
          clear hK K
          try simp only [Act.put, List.setIfInBounds_toArray, List.set_cons_zero, List.set_cons_succ]
          refine wpAnyL_ready (rs := [5]) (by kernel_rfl) (by simp) ?_
          refine AllReadyL.cons (List.getElem?_toArray.trans rfl) (fun K hK => ?_) AllReadyL.nil
          refine step_append_lies _ rfl (.tmp 49) (.tmp 51) 24 rfl wB.heap.size 4 i4 (.bool false) 1 1 Try.underlying24 hi4 hz4 hsz4 hbt4 rfl (by decide) (.slice (some ⟨w0.heap.size + 1, 0, none⟩) 0 0) 0 [] rfl hT11.own ⟨b2, o2, none⟩ n2 c2 (acl.map Value.bool) rfl HAC.out.2.1 (HAC.out.1 _ hT11.bel) HAC.out.2.2 hn1 (by unfold maxLen; omega) (by omega) hT11.bel.size _ rfl ?_
          intro ghT12 chT12 whT12 hownhT12 hgrowhT12 hathT12 hlthT12
          simp only [Nat.zero_add] at hownhT12
          have hT12 := hT11.app (n := n2) (v' := (.slice (some ⟨ghT12, 0, none⟩) n2 chT12)) (l' := acl) (by rw [List.nil_append]; exact HACL.out.symm) hownhT12 hgrowhT12
          refine hK.out _ _ (SL.cons (HRL.out _ hT12.bel) SL.nil) (fun hHeld => ?_)
          clear hK K
          try simp only [Act.put, List.setIfInBounds_toArray, List.set_cons_zero, List.set_cons_succ]
          try simp only [Nat.zero_add]
          refine wpAnyL_ready (rs := [8]) (by kernel_rfl) (by simp) ?_
          refine AllReadyL.cons (List.getElem?_toArray.trans rfl) (fun K hK => ?_) AllReadyL.nil
          refine step_append_lies _ rfl (.tmp 52) (.tmp 54) 24 rfl wB.heap.size 4 i4 (.bool false) 1 1 Try.underlying24 hi4 hz4 hsz4 hbt4 rfl (by decide) (.slice (some ⟨ghT12, 0, none⟩) n2 chT12) n2 (([] ++ acl).map Value.bool) rfl (by have h9 := hT12.own; rw [HL1.out] at h9; exact h9) ⟨b2, o2, none⟩ n2 c2 (acl.map Value.bool) rfl HAC.out.2.1 (HAC.out.1 _ hT12.bel) HAC.out.2.2 hn1 (by unfold maxLen; omega) (by omega) hT12.bel.size _ rfl ?_
          intro ghT13 chT13 whT13 hownhT13 hgrowhT13 hathT13 hlthT13
          have hT13 := hT12.app (n := n2 + n2) (v' := (.slice (some ⟨ghT13, 0, none⟩) (n2 + n2) chT13)) (l' := acl) (by rw [List.length_append, HL1.out, HACL.out]) hownhT13 hgrowhT13
          refine hK.out _ _ (SL.cons (HRL.out _ hT13.bel) SL.nil) (fun hHeld => ?_)
          clear hK K
          try simp only [Act.put, List.setIfInBounds_toArray, List.set_cons_zero, List.set_cons_succ]
          refine takeP (i := 9) (v := ?v9_12) (List.getElem?_toArray.trans rfl) (by kernel_rfl) (by kernel_rfl) (by kernel_rfl) (fun _ _ _ h => h) (by kernel_rfl) (Or.inl ⟨by rfl, ?hy9_12⟩) hHeld (fun hHeld => ?rest9_12)
          case hy9_12 => (intro W hSw; go_simp <;> (with_reducible rfl))
          simp only [Act.put, List.setIfInBounds_toArray, List.set_cons_zero, List.set_cons_succ]
          refine wpAnyL_ready (rs := [11]) (by kernel_rfl) (by simp) ?_
          refine AllReadyL.cons (List.getElem?_toArray.trans rfl) (fun K hK => ?_) AllReadyL.nil
          have hbx := (hT13.box _ rfl).1
          have hst := storeB_run 26 hbx (.inl rfl) (dVals D.cls (.slice none 0 0) (.slice (some ⟨ghT13, 0, none⟩) (n2 + n2) chT13)).toArray (by rw [zs26_cells, dCells_len]; rfl) (by rw [List.size_toArray, dVals_len]; rfl) (dVals_one D.cls none _ 0 (n2 + n2) 0 _)
          go_simp
          have hfin := hT13.fin HL2.out D.cls
          refine hK.out _ _ (SL.off (by kernel_rfl) SL.nil) (fun hHeld => ?_)
          clear hK K
          try simp only [Act.put, List.setIfInBounds_toArray, List.set_cons_zero, List.set_cons_succ]
          refine wpAnyL_done (by kernel_rfl) ?_ _
          go_wp2_with fail
          go_meet
          exact ⟨_, _, _, rfl, hfin.1, hfin.2.1, hfin.2.2.1, by rw [← HACC.out]; exact hfin.2.2.2.1, hfin.2.2.2.2⟩
      case rest =>
        obtain ⟨gt, Ab, cb, rfl, hbe, hgt, htb, hown, hsz⟩ := hcut
        obtain ⟨w9, rfl⟩ : ∃ w9 : World, w9 = wc := ⟨_, rfl⟩
        have hal := H.out.alen
        have hra := HR.out.alen
        have hln := H.out.next.len
        have hlo := HR.out.lo
        have hmy := HR.out.mhi
        have hn1 : 0 < n := by omega
        have ht0 : TwO wB w9 gt D.cls (.slice none 0 0) (.slice Ab (n2 + n2) cb) (n2 + n2) (D.acc ++ D.acc) := ⟨hbe, hgt, htb, hown, hsz⟩
        have hx0 : NarX wB w9 0 0 (.slice none 0 0) (.slice none 0 0) (fun _ => none) (fun _ => 0) ((List.range 0).map (row2 D)) [] := ⟨rfl, rfl, World.ownsRow_nil _ _ _ _, fun i hi => by omega, World.ownsRow_nil _ _ _ _⟩
        have HT := Lib.hid (And.intro ht0 hx0)
        have hmb := HMB.out.1.go (hbe.mono (Nat.le_refl _))
        have q1 := hmb.box.cell 256
        rw [Array.getElem?_toList, H.out.cells.nx] at q1
        have e2n : IntKind.i64.wrap (2 * (n : Int)) = 2 * (n : Int) := IntWalk.i64_in _ (by omega)
        have HLN := Lib.hid (And.intro hln (And.intro hal hra))
        obtain ⟨i3, hi3, hz3, hsz3, hbt3⟩ := info_parts info3
        obtain ⟨i34, hi34, hz34, hsz34, hbt34⟩ := info_parts info34
        clear hbe hgt htb hown hsz ht0 hx0 hmb hal hra hln
        go_wp2_with fail
        go_loopw [61] (fun i wr => ∃ (k : Nat) (nx : Value) (RA2 : Nat → Option Addr) (rc2 : Nat → Nat), k ≤ 2 * n ∧ i = .int .i64 k ∧ TwO wB wr gt D.cls nx (.slice Ab (n2 + n2) cb) (n2 + n2) (D.acc ++ D.acc) ∧ NarX wB wr k 0 nx (.slice none 0 0) RA2 rc2 ((List.range k).map (row2 D)) []) (fun i _ => 2 * n - (intOf i).toNat)
        case atStart => exact ⟨0, _, _, _, by omega, rfl, HT.out.1, HT.out.2⟩
        case round =>
          obtain ⟨k, nx, RA2, rc2, hk, rfl, ho, hx⟩ := hrel
          have HK := Lib.hid (And.intro ho hx)
          clear ho hx HT
          by_cases hlt : k < 2 * n
          · have dt : decide ((k : Int) < 2 * (n : Int)) = true := by simp; omega
            have hmb := HMB.out.1.go (HK.out.1.bel.mono (Nat.le_refl _))
            have q1 := hmb.box.cell 256
            rw [Array.getElem?_toList, H.out.cells.nx] at q1
            obtain ⟨j, hj⟩ : ∃ j, j = k % n := ⟨_, rfl⟩
            have hjn : j < n := by rw [hj]; exact Nat.mod_lt _ hn1
            have hrem : ((k : Int)).tmod (n : Int) = (j : Int) := by rw [hj]; exact (Int.ofNat_tmod k n).symm
            have hz0 : ((n : Int) == 0) = false := by simp; omega
            have hz1 : ¬ (n : Int) = 0 := by omega
            obtain ⟨b1, o1, e1, hb1, hc1⟩ := H.out.next.arr.one hjn
            have HA1 := Lib.hid e1
            rw [e1] at q1
            unfold RowC at hc1
            have hrw := (HR.out.row (i := j) (by rw [HLN.out.1]; exact hjn))
            rw [hrw.1] at hc1
            replace hc1 := (hmb.bel.cell (p := ⟨b1, o1 + j, none⟩) hb1).trans hc1
            have hrowA := H.out.next.row j hjn
            rw [hrw.1] at hrowA
            obtain ⟨r, hr⟩ : ∃ r, r = D.next.getD j [] := ⟨_, rfl⟩
            rw [← hr] at hrowA hrw
            obtain ⟨mm, hmm⟩ : ∃ mm, mm = D.many := ⟨_, rfl⟩
            rw [← hmm] at hc1 hrowA hrw hmy
            obtain ⟨Ar, hAr⟩ : ∃ Ar, Ar = RA j := ⟨_, rfl⟩
            rw [← hAr] at hc1 hrowA
            have HRW := Lib.hid (And.intro hrowA (And.intro hrw.2 (And.intro hr (And.intro hmm (And.intro hj hmb.bel)))))
            clear hrowA hrw hr hmm hj hAr hb1 hmb e1
            go_wp2_with fail
            go_quiet (fail)
            have hqd : Below wr.heap.size wr (wr.drewN nq) := below_drewN (Below.refl _ _) nq
            have hk4 := HK.out.1.go hqd
            have hx4 := HK.out.2.go hqd
            have q1 : (wr.drewN nq).cell? ⟨w.heap.size, 256, none⟩ = some (.slice (some ⟨b1, o1, none⟩) n c1) := q1
            have HK4 := Lib.hid (And.intro hk4 (And.intro hx4 (HRW.out.2.2.2.2.2.trans (hqd.mono HRW.out.2.2.2.2.2.size))))
            clear hk4 hx4 hc1 hqd hrem hz0 hz1
            generalize wr.drewN nq = w4 at HK4 q1 ⊢
            go_wp2_with fail
            clear dt
            go_loopw [9, 74] (fun v i wx => ∃ (c : Nat) (A : Option Addr) (cp : Nat), c ≤ mm ∧ v = .slice A c cp ∧ i = .int .i64 c ∧ Below w4.heap.size w4 wx ∧ wx.ownsRow w4.heap.size 3 1 (.slice A c cp) c (numsV .i64 ((List.range c).map (fun c => twoX D.next.length k c (r.getD c 0))))) (fun _ i _ => mm - (intOf i).toNat)
            case atStart => exact ⟨0, _, _, by omega, rfl, rfl, Below.refl _ _, World.ownsRow_nil _ _ _ _⟩
            case round =>
              obtain ⟨c, A, cp, hc, rfl, rfl, hb, hown⟩ := hrel
              have HT2 := Lib.hid (And.intro hb hown)
              clear hb hown
              by_cases hcl : c < mm
              · obtain ⟨b5, o5, e5, hb5, hc5⟩ := HRW.out.1.one hcl
                have HAr := Lib.hid e5
                subst e5
                unfold NumC at hc5
                replace hc5 := ((HK4.out.2.2.trans (HT2.out.1.mono HK4.out.2.2.size)).cell (p := ⟨b5, o5 + c, none⟩) hb5).trans hc5
                have hxb := HRW.out.2.1 c hcl
                obtain ⟨x, hx⟩ : ∃ x, x = r.getD c 0 := ⟨_, rfl⟩
                rw [← hx] at hc5 hxb
                have hxl := hxb.1
                have hxh := hxb.2
                rw [HLN.out.1] at hxh
                have q1' := (HT2.out.1.cell (p := ⟨w.heap.size, 256, none⟩) (World.block_lt_of_cell? w4 _ q1)).trans q1
                have hpar : ((k : Int) + (c : Int)).tmod 2 = (((k + c) % 2 : Nat) : Int) := by rw [← Int.natCast_add]; exact (Int.ofNat_tmod (k + c) 2).symm
                obtain ⟨pa, hpa⟩ : ∃ pa, pa = (k + c) % 2 := ⟨_, rfl⟩
                rw [← hpa] at hpar
                have hts : (List.range (c + 1)).map (fun c => twoX D.next.length k c (r.getD c 0)) = (List.range c).map (fun c => twoX D.next.length k c (r.getD c 0)) ++ [twoX D.next.length k c x] := by
                  rw [List.range_succ, List.map_append, List.map_singleton, ← hx]
                have HTS := Lib.hid (And.intro hts hpa)
                have y1 : (c + 1) * 8 ≤ 140737488355328 := by omega
                have y2 : c + 1 ≤ maxLen := by unfold maxLen; omega
                clear hts hx hpa hb5 hxb
                by_cases h0 : x < 0
                · have d0 : decide (0 ≤ x) = false := by simp; omega
                  have hval : twoX D.next.length k c x = x := by unfold twoX; rw [if_neg (by omega)]
                  have HV := Lib.hid hval
                  clear hval
                  have y3 : ∀ v ∈ [Value.int .i64 x], v.oneCell' = true := by intro v hv9; simp at hv9; rw [hv9]; rfl
                  have hown3 := own_kept HT2.out.2 ((Below.refl _ _).alloc (Nat.le_refl _) (.cells #[.int .i64 x] 3))
                  have y4 : w4.heap.size ≤ (wr.alloc (.cells #[.int .i64 x] 3)).heap.size := (HT2.out.1.alloc HT2.out.1.size _).size
                  go_wp2_with (first
                    | (at_builtin; refine wpList_append_lies _ rfl (.tmp 93) (.tmp 95) 34 rfl w4.heap.size 3 i3 (.int .i64 0) 1 8 Try.underlying34 hi3 hz3 hsz3 hbt3 rfl (by decide) (.slice A c cp) c (numsV .i64 ((List.range c).map (fun c => twoX D.next.length k c (r.getD c 0)))) rfl hown3 ⟨_, 0, none⟩ 1 1 [.int .i64 x] rfl rfl (World.news_of_block (heap_alloc_new _ _)) y3 (by decide) y2 y1 y4 _ rfl ?_; intro g8 c8 w8 hown8 hg8 hat8 hlt8))
                  have H8 := Lib.hid (And.intro hown8 hg8)
                  clear hown8 hg8 hat8 hlt8
                  go_roundw
                  case rel => exact ⟨c + 1, _, c8, by omega, rfl, by go_num, (HT2.out.1.alloc HT2.out.1.size _).grown H8.out.2 y4 (fun j hj => (HT2.out.2.lt j hj).1), by
                    rw [HTS.out.1, numsV_snoc, HV.out]
                    exact H8.out.1⟩
                  case measure => simp [intOf]; omega
                · have d0 : decide (0 ≤ x) = true := by simp; omega
                  by_cases hp1 : pa = 1
                  · have hpar1 : ((k : Int) + (c : Int)).tmod 2 = 1 := by rw [hpar, hp1]; rfl
                    have hval : twoX D.next.length k c x = x + (n : Int) := by unfold twoX; rw [if_pos ⟨by omega, by rw [← HTS.out.2]; exact hp1⟩, HLN.out.1]
                    have HV := Lib.hid hval
                    clear hval hpar hp1
                    have y3 : ∀ v ∈ [Value.int .i64 (x + (n : Int))], v.oneCell' = true := by intro v hv9; simp at hv9; rw [hv9]; rfl
                    have hown3 := own_kept HT2.out.2 ((Below.refl _ _).alloc (Nat.le_refl _) (.cells #[.int .i64 (x + (n : Int))] 3))
                    have y4 : w4.heap.size ≤ (wr.alloc (.cells #[.int .i64 (x + (n : Int))] 3)).heap.size := (HT2.out.1.alloc HT2.out.1.size _).size
                    go_wp2_with (first
                      | (at_builtin; refine wpList_append_lies _ rfl (.tmp 93) (.tmp 95) 34 rfl w4.heap.size 3 i3 (.int .i64 0) 1 8 Try.underlying34 hi3 hz3 hsz3 hbt3 rfl (by decide) (.slice A c cp) c (numsV .i64 ((List.range c).map (fun c => twoX D.next.length k c (r.getD c 0)))) rfl hown3 ⟨_, 0, none⟩ 1 1 [.int .i64 (x + (n : Int))] rfl rfl (World.news_of_block (heap_alloc_new _ _)) y3 (by decide) y2 y1 y4 _ rfl ?_; intro g8 c8 w8 hown8 hg8 hat8 hlt8))
                    have H8 := Lib.hid (And.intro hown8 hg8)
                    clear hown8 hg8 hat8 hlt8
                    go_roundw
                    case rel => exact ⟨c + 1, _, c8, by omega, rfl, by go_num, (HT2.out.1.alloc HT2.out.1.size _).grown H8.out.2 y4 (fun j hj => (HT2.out.2.lt j hj).1), by
                      rw [HTS.out.1, numsV_snoc, HV.out]
                      exact H8.out.1⟩
                    case measure => simp [intOf]; omega
                  · have hp0 : pa = 0 := by have := HTS.out.2; omega
                    have hpar0 : ((k : Int) + (c : Int)).tmod 2 = 0 := by rw [hpar, hp0]; rfl
                    have hval : twoX D.next.length k c x = x := by unfold twoX; rw [if_neg (fun h9 => hp1 (by rw [HTS.out.2]; exact h9.2))]
                    have HV := Lib.hid hval
                    clear hval hpar hp1 hp0
                    have y3 : ∀ v ∈ [Value.int .i64 x], v.oneCell' = true := by intro v hv9; simp at hv9; rw [hv9]; rfl
                    have hown3 := own_kept HT2.out.2 ((Below.refl _ _).alloc (Nat.le_refl _) (.cells #[.int .i64 x] 3))
                    have y4 : w4.heap.size ≤ (wr.alloc (.cells #[.int .i64 x] 3)).heap.size := (HT2.out.1.alloc HT2.out.1.size _).size
                    go_wp2_with (first
                      | (at_builtin; refine wpList_append_lies _ rfl (.tmp 93) (.tmp 95) 34 rfl w4.heap.size 3 i3 (.int .i64 0) 1 8 Try.underlying34 hi3 hz3 hsz3 hbt3 rfl (by decide) (.slice A c cp) c (numsV .i64 ((List.range c).map (fun c => twoX D.next.length k c (r.getD c 0)))) rfl hown3 ⟨_, 0, none⟩ 1 1 [.int .i64 x] rfl rfl (World.news_of_block (heap_alloc_new _ _)) y3 (by decide) y2 y1 y4 _ rfl ?_; intro g8 c8 w8 hown8 hg8 hat8 hlt8))
                    have H8 := Lib.hid (And.intro hown8 hg8)
                    clear hown8 hg8 hat8 hlt8
                    go_roundw
                    case rel => exact ⟨c + 1, _, c8, by omega, rfl, by go_num, (HT2.out.1.alloc HT2.out.1.size _).grown H8.out.2 y4 (fun j hj => (HT2.out.2.lt j hj).1), by
                      rw [HTS.out.1, numsV_snoc, HV.out]
                      exact H8.out.1⟩
                    case measure => simp [intOf]; omega
              · obtain rfl : c = mm := by omega
                obtain ⟨Ax, cx, rfl⟩ := own_sl HK4.out.2.1.on
                have hw6 := HK4.out.1.go HT2.out.1
                have hx6 := HK4.out.2.1.go HT2.out.1
                have hrow := own_less HT2.out.2 HK4.out.1.sz
                obtain ⟨l, hl⟩ : ∃ l, l = row2 D k := ⟨_, rfl⟩
                have hll9 : l.length = c := by rw [hl, row2_len, HRW.out.2.2.2.1]
                have hle : (List.range c).map (fun c => twoX D.next.length k c (r.getD c 0)) = l := by
                  rw [hl, HRW.out.2.2.2.1, HRW.out.2.2.1, HRW.out.2.2.2.2.1, ← HLN.out.1]; rfl
                rw [hle] at hrow
                have hxa := hx6.go ((Below.refl _ _).alloc (Nat.le_refl _) (.cells #[.slice A c cp] 34))
                have hwa := hw6.go ((Below.refl _ _).alloc (Nat.le_refl _) (.cells #[.slice A c cp] 34))
                have hrowa := own_kept hrow ((Below.refl _ _).alloc (Nat.le_refl _) (.cells #[.slice A c cp] 34))
                have hrowa : (wr.alloc (.cells #[.slice A c cp] 34)).ownsRow (wB.heap.size + 1) 3 1 (.slice A l.length cp) l.length (numsV .i64 l) := by rw [hll9]; exact hrowa
                have hona := hxa.on
                have hcb := hw6.box.cell 256
                rw [dVals_256] at hcb
                have hcba := hwa.box.cell 256
                rw [dVals_256] at hcba
                obtain ⟨xs, hxs⟩ : ∃ xs, xs = (List.range k).map (fun i => Value.slice (RA2 i) (((List.range k).map (row2 D)).getD i []).length (rc2 i)) := ⟨_, rfl⟩
                rw [← hxs] at hona
                have HA := Lib.hid (And.intro hxa (And.intro hwa (And.intro hrowa (And.intro hxs (And.intro hl hll9)))))
                have y1 : (k + 1) * 24 ≤ 140737488355328 := by omega
                have y2 : k + 1 ≤ maxLen := by unfold maxLen; omega
                have y3 : ∀ v ∈ [Value.slice A c cp], v.oneCell' = true := by intro v hv9; simp at hv9; rw [hv9]; rfl
                have y4 : wB.heap.size + 1 ≤ (wr.alloc (.cells #[.slice A c cp] 34)).heap.size := hwa.sz
                clear hxa hwa hrowa hxs hl hll9 hrow hw6 hx6 hle
                go_wp2_with (first
                  | (at_builtin; refine wpList_append_lies _ rfl (.tmp 99) (.tmp 101) 23 rfl (wB.heap.size + 1) 34 i34 (.slice none 0 0) 1 24 Try.underlying23 hi34 hz34 hsz34 hbt34 rfl (by decide) (.slice Ax k cx) k xs rfl hona ⟨_, 0, none⟩ 1 1 [.slice A c cp] rfl rfl (World.news_of_block (heap_alloc_new _ _)) y3 (by decide) y2 y1 y4 _ rfl ?_; intro g8 c8 w8 hown8 hg8 hat8 hlt8; have HW8 := Lib.hid (HA.out.2.1.grew HA.out.1.on hg8); have hc8 := HW8.out.box.cell 256; rw [dVals_256] at hc8; have hf8 := HW8.out.box.frozen 256))
                go_roundw
                case rel =>
                  have hx8 := HA.out.1.addRow (W' := w8) (v := .slice (some ⟨g8, 0, none⟩) (k + 1) c8) (A := A) (c := cp) (l := l) HA.out.2.2.1 (by rw [← HA.out.2.2.2.1, HA.out.2.2.2.2.2]; exact hown8) hg8
                  have hx9 := hx8.box2 HW8.out.box 256 (.slice (some ⟨g8, 0, none⟩) (k + 1) c8)
                  have hw9 := HW8.out.put (.slice (some ⟨g8, 0, none⟩) (k + 1) c8)
                  refine ⟨k + 1, _, updA RA2 k A, updA rc2 k cp, by omega, by go_num, hw9, ?_⟩
                  rw [List.range_succ, List.map_append, List.map_singleton, ← HA.out.2.2.2.2.1]
                  exact hx9
                case measure => simp [intOf]; omega
          · have hke : k = 2 * n := by omega
            have dt : decide ((k : Int) < 2 * (n : Int)) = false := by simp; omega
            obtain ⟨Ax, cx, rfl⟩ := own_sl HK.out.2.on
            have hdf := twice_in HK.out.1 HK.out.2 (by rw [HLN.out.1]; exact hke) (by rw [HLN.out.2.1]) (by have := HLN.out; omega) (by omega) hmy H.out.cells.lt
            have hr2 := HR.out.twice (by rw [HLN.out.1]; exact hn)
            have hld := loadB_run 26 HK.out.1.box.range (.inl rfl) (by rw [dVals_len]; rfl)
            obtain ⟨dt2, hdt2⟩ : ∃ dt2, dt2 = (dVals D.cls (.slice Ax k cx) (.slice Ab (n2 + n2) cb)).toArray := ⟨_, rfl⟩
            rw [← hdt2] at hld hdf
            have HE := Lib.hid (And.intro hdf hr2)
            clear hdf hr2 hdt2 hke q1 e2n
            have hkn2 : n2 + n2 = k := by have := HLN.out; omega
            have hmB := HMB.out.1.go HK.out.1.bel
            have HMW := Lib.hid hmB
            clear hmB
            go_wp2_with fail
            refine (least_right dt2 Ax Ab k (n2 + n2) cx cb (twiceD D) RA2 rc2 wr HE.out.1 HE.out.2).mono ?_
            rintro e w12 ⟨dk, C3, f3, C4, f4, k5, RK, rk, K, rfl, hdk, hlk, hb12⟩
            have hKM := least_same HE.out.2 HR.out (twice_le HR.out) hlk HMB.out.2
            have hz26 := zeroV26
            have hb0 := blk_alloc w12 26 zs26
            have hst := storeB_run 26 hb0 (.inl rfl) dk (by rw [Array.length_toList, size26]; rfl) (by rw [hdk.here.cells.size]; rfl) (cells_one hdk.here.cells)
            have hkb := hb0.row dk
            have hb9 : Below w12.heap.size w12 ((w12.alloc (.cells zs26 26)).setRow w12.heap.size dk) := below_setRow ((Below.refl _ _).alloc (Nat.le_refl _) _) (Nat.le_refl _) _
            have hm7 := HMW.out.go (hb12.trans (hb9.mono hb12.size))
            have hik := hdk.here.keep hb9
            have hldk := ldB hkb hik.cells.size
            have hldm := ldB hm7.mb hm7.dm.cells.size
            have HF := Lib.hid (And.intro hm7 (And.intro hik hKM))
            clear hb0 hkb hb9 hm7 hik hdk hlk hb12 hKM hld
            go_upto_region 24 with (fail)
            clear hst hz26
            obtain ⟨g12, hg12⟩ : ∃ g12, g12 = w12.heap.size := ⟨_, rfl⟩
            rw [← hg12] at HF hldk hldm ⊢
            clear hg12
            generalize (w12.alloc (.cells zs26 26)).setRow g12 dk = w13 at HF hldk hldm ⊢
            go_wp2_with fail
            refine (like_eq dk dm C3 C4 A3 A4 k5 k3 f3 f4 c3 c4 K M RK RM rk rm w13 HF.out.2.1 HF.out.1.dm HF.out.2.2).mono ?_
            rintro e w14 ⟨rfl, hb14⟩
            have hbl := HF.out.1.bel.trans (hb14.mono HF.out.1.bel.size)
            have HBL := Lib.hid hbl
            clear hbl hb14
            go_wp2_with fail
            go_returns
            exact ⟨by first | rfl | simp, HBL.out⟩
    · have d1 : decide ((150 : Int) < (n : Int)) = true := by simp; omega
      have d2 : decide (150 < n) = true := by simp; omega
      clear hr
      go_wp2_with fail
      go_returns
      exact ⟨by first | rfl | simp, HD.out.2⟩
  · rw [rightD_no hr]
    clear hr
    go_wp2_with fail
    go_returns
    exact ⟨by first | rfl | simp, HD.out.2⟩
end Go.Proofs.Ytiaigdedkdeeoaa
