/- Step6 of this seat, in one text. -/
import Derived.Test.YtgejpggbmgiocaaM30
import Derived.Test.YtgejpggbmgiocaaM4
/- The step Text. -/
namespace Go.Proofs.Ytgejpggbmgiocaa
open Go.RowKit
attribute [local go_sem ↓] store_ins
set_option maxRecDepth 100000 in
set_option maxHeartbeats 8000000 in
theorem st_13 (B g : Nat) (w0 W : World) (prg : List Value) (room fuel : Int) (s : St) (vs vp vg vt : Value) (mg : List Int → Option (List Int)) (p : Prog) (h : RS B g w0 W prg room fuel s vs vp vg vt) (hc : CodeIn w0 B prg p.code) (hu : (s.used : Int) ≤ fuel) (hfu : fuel ≤ 35184372088832) (k : Nat) (hpc : s.pc = (k : Int)) (hk : k < p.code.length) (i : Ins) (hi : p.code.getD k noIns = i) (hf : fitsF i = true) (ho : i.op = 13) (ht : TextsIn w0 B prg p.texts) (hpl : s.put.length ≤ 262144) (hrg : ∀ k, -9223372036854775808 ≤ s.regs.getD k 0 ∧ s.regs.getD k 0 ≤ 9223372036854775807)
    (HD : ∀ W', RS B g w0 W' prg room fuel { s with used := s.used + (1 + (textF p s i).length), pc := s.pc + 1 } vs vp vg vt → s.put.length + (textF p s i).length ≤ 262144 → Calls Try.prog 32 #[.pointer (some ⟨g, 0, none⟩), insV i, .int .i64 0, .string ⟨(textF p s i).toArray⟩] W' (Res B g w0 prg room fuel (doF mg p room { s with used := s.used + (1 + (textF p s i).length), pc := s.pc + 1 } i))) :
    Calls Try.prog 20 #[.pointer (some ⟨g, 0, none⟩)] W (Res B g w0 prg room fuel (stepF mg p room fuel s)) := by
  obtain ⟨r, hr⟩ : ∃ r, r = stepF mg p room fuel s := ⟨_, rfl⟩
  rw [stepF_at mg p room fuel s k hpc hk i hi] at hr
  have H := Lib.hid h
  have c1 := h.cells.pc
  have c2 := h.cells.p 4 (by omega)
  have hle := hc.le
  obtain ⟨b4, o4, c4, h4, hb4, i0, i1, i2, i3', i4⟩ := hc.at h.below hk
  rw [h4] at c2
  rw [hi] at i0 i1 i2 i3' i4
  obtain ⟨op, a, b, c, d⟩ := i
  simp only at i0 i1 i2 i3' i4
  obtain ⟨n4, hn4⟩ : ∃ n4, n4 = p.code.length := ⟨_, rfl⟩
  rw [← hn4] at c2 hk hle
  rw [hpc] at c1
  have hgB := h.gB
  have hlt := h.lt
  have hki : (k : Int) < (n4 : Int) := by omega
  have e1 : decide ((k : Int) < 0) = false := by simp
  have e2 : decide ((n4 : Int) ≤ (k : Int)) = false := by simp; omega
  simp only at ho
  subst ho
  have hst : ∀ n, (storeIns (.pointer (some ⟨W.heap.size, 0, none⟩)) (.agg #[.int .i64 13, .int .i64 a, .int .i64 b, .int .i64 c, .int .i64 d])).run Try.prog ((W.drewN n).alloc (.cells #[.int .i64 0, .int .i64 0, .int .i64 0, .int .i64 0, .int .i64 0] 40)) = .ok () ((W.drewN n).alloc (.cells #[.int .i64 13, .int .i64 a, .int .i64 b, .int .i64 c, .int .i64 d] 40)) := fun n => ins_store (W.drewN n) 13 a b c d
  have e2' : decide (n4 ≤ k) = false := by simp; omega
  have a1 := fun n o => cell_al (W := W.drewN n) c1 o
  have a2 := fun n o => cell_al (W := W.drewN n) c2 o
  have a3 := fun n o => cell_al (W := W.drewN n) i0 o
  have a4 := fun n o => cell_al (W := W.drewN n) i1 o
  have a5 := fun n o => cell_al (W := W.drewN n) i2 o
  have a6 := fun n o => cell_al (W := W.drewN n) i3' o
  have a7 := fun n o => cell_al (W := W.drewN n) i4 o
  have HF := Lib.hid (fun W => fits_any g ⟨13, a, b, c, d⟩ W)
  rw [hf] at HF
  have HFIT := Lib.hid hf
  have hf2 : isReg b = true ∧ isReg a = true := by simpa [fitsF] using hf
  obtain ⟨ka, hka, rfl⟩ := reg_nat hf2.2
  obtain ⟨kb, hkb, rfl⟩ := reg_nat hf2.1
  have HREG := Lib.hid (show s.reg (ka : Int) = s.regs.getD ka 0 ∧ s.reg (kb : Int) = s.regs.getD kb 0 from ⟨rfl, rfl⟩)
  have HTX := Lib.hid ht
  have HRG := Lib.hid hrg
  have HPL := Lib.hid hpl
  clear hf2 ht hrg hpl
  have HRR := Lib.hid hr
  rw [show stepF mg p room fuel s = r by rw [hr, stepF_at mg p room fuel s k hpc (by rw [← hn4]; exact hk) _ hi]]
  have HPC := Lib.hid hpc
  have HD0 := Lib.hid HD
  clear h hc h4 hi hf hr HD hn4
  go_enter Try.func20, Try.ntmps20
  go_wp2_with fail
  go_quiet (fail)
  go_wp2_with fail
  go_region
  have hI : Blk ((W.drewN (nq + 1)).alloc (.cells #[.int .i64 13, .int .i64 (ka : Int), .int .i64 (kb : Int), .int .i64 c, .int .i64 d] 40)) W.heap.size 40 [.int .i64 13, .int .i64 (ka : Int), .int .i64 (kb : Int), .int .i64 c, .int .i64 d] := Blk.new (W.drewN (nq + 1)) 40 [.int .i64 13, .int .i64 (ka : Int), .int .i64 (kb : Int), .int .i64 c, .int .i64 d]
  have hX := (H.out.drewN (nq + 1)).alloc (.cells #[.int .i64 13, .int .i64 (ka : Int), .int .i64 (kb : Int), .int .i64 c, .int .i64 d] 40)
  obtain ⟨ib, hib⟩ : ∃ ib, ib = W.heap.size := ⟨_, rfl⟩
  rw [← hib] at hI ⊢
  generalize (W.drewN (nq + 1)).alloc (.cells #[.int .i64 13, .int .i64 (ka : Int), .int .i64 (kb : Int), .int .i64 c, .int .i64 d] 40) = w3 at hI hX ⊢
  have X3 := Lib.hid hX
  have I3 := Lib.hid hI
  have j0 := hI.cell 0
  have j1 := hI.cell 1
  have j2 := hI.cell 2
  have j3 := hI.cell 3
  have j4 := hI.cell 4
  simp only [List.getElem?_cons_zero, List.getElem?_cons_succ] at j0 j1 j2 j3 j4
  clear hI hX a1 a2 a3 a4 a5 a6 a7 hst i0 i1 i2 i3' i4 c1 c2 hib
  go_wp2_with fail
  refine (HF.out _).mono ?_
  rintro e w4 ⟨rfl, hb4⟩
  have X4 := Lib.hid (X3.out.call hb4)
  have I4 := Lib.hid (I3.out.below hb4 I3.out.lt)
  clear hb4 j0 j1 j2 j3 j4 X3 I3 HF
  have j0 := I4.out.cell 0
  have j1 := I4.out.cell 1
  have j2 := I4.out.cell 2
  have j3 := I4.out.cell 3
  have j4 := I4.out.cell 4
  simp only [List.getElem?_cons_zero, List.getElem?_cons_succ] at j0 j1 j2 j3 j4
  obtain ⟨rv, hrv⟩ : ∃ x, x = s.regs.getD ka 0 := ⟨_, rfl⟩
  obtain ⟨rb, hrb⟩ : ∃ x, x = s.regs.getD kb 0 := ⟨_, rfl⟩
  have v1 := X4.out.cells.reg ka hka
  have v2 := X4.out.cells.reg kb hkb
  have HB1 := Lib.hid (HRG.out ka)
  have hreg := HREG.out
  rw [← hrv] at v1 hreg HB1
  rw [← hrb] at v2 hreg
  have HREG := Lib.hid hreg
  clear hreg
  obtain ⟨A6, c6, h6, ha6⟩ := HTX.out.arr
  have ha6 := ha6.below X4.out.below
  have v3 := X4.out.cells.p 6 (by omega)
  rw [h6] at v3
  obtain ⟨nt, hnt⟩ : ∃ n, n = p.texts.length := ⟨_, rfl⟩
  have hle6 := HTX.out.le
  rw [← hnt] at v3 hle6
  have HA6 := Lib.hid ha6
  have HNT := Lib.hid hnt
  have HRV := Lib.hid (And.intro hrv hrb)
  clear hnt h6 ha6 hrv hrb
  have HIB := Lib.hid (fun w => isByte_any rb w)
  obtain ⟨bb, hbb⟩ : ∃ x, x = isB rb := ⟨_, rfl⟩
  rw [← hbb] at HIB
  have HBB := Lib.hid hbb
  clear hbb
  by_cases hneg : rv < 0
  · as_aux_lemma =>
      have d1 : decide (rv < 0) = true := by simpa using hneg
      have HX := Lib.hid hneg
      clear hneg
      go_wp2_with fail
      go_quiet (fail)
      go_wp2_with fail
      go_quiet (fail)
      have hrr : r = (s, some 3) := by
        rw [HRR.out]
        unfold costF
        rw [if_neg (by simp [HFIT.out])]
        rw [if_neg (by show ¬ (13 : Int) = 8; decide)]
        rw [if_neg (by show ¬ (13 : Int) = 12; decide)]
        rw [if_pos rfl]
        rw [if_pos (fun h9 : textOk p s _ => by have h1 := h9.1; have h2 := HREG.out.1; have h3 := HX.out; simp only at h1; omega)]
      subst hrr
      go_wp2_with fail
      (try go_quiet (fail))
      (try go_wp2_with fail)
      go_returns
      exact ⟨by first | rfl | simp, vs, vp, vg, vt, (by first | exact X4.out | exact X4.out.drewN _ | exact (X4.out.drewN _).drewN _)⟩
  have d1 : decide (rv < 0) = false := by simpa using hneg
  have hq2 : wrap64 (rv / 2) = rv / 2 := IntWalk.wrap64_in _ (by have := HB1.out; omega)
  obtain ⟨kt, hkt⟩ : ∃ kt : Nat, rv / 2 = (kt : Int) := ⟨(rv / 2).toNat, by omega⟩
  have hq3 : wrap64 (rv.tdiv 2) = (kt : Int) := by rw [Int.tdiv_eq_ediv_of_nonneg (by omega), hq2, hkt]
  rw [hkt] at hq2
  have hq4 : IntKind.i64.wrap (rv.tdiv 2) = (kt : Int) := by rw [Int.tdiv_eq_ediv_of_nonneg (by omega), hkt]; exact IntWalk.i64_in _ (by have := HB1.out; omega)
  have hmod4 : rv.tmod 2 = rv % 2 := Int.tmod_eq_emod_of_nonneg (by omega)
  have hmod : wrap64 (rv.tmod 2) = rv % 2 := by
    rw [Int.tmod_eq_emod_of_nonneg (by omega)]
    exact IntWalk.wrap64_in _ (by omega)
  have HKT := Lib.hid hkt
  by_cases hbig : (nt : Int) ≤ (kt : Int)
  · as_aux_lemma =>
      have d4 : decide ((nt : Int) ≤ (kt : Int)) = true := by simpa using hbig
      have d5 : decide (nt ≤ kt) = true := by simp; omega
      have HX := Lib.hid (And.intro hneg hbig)
      clear hneg hbig hkt
      go_wp2_with fail
      go_quiet (fail)
      go_wp2_with fail
      go_quiet (fail)
      have hrr : r = (s, some 3) := by
        rw [HRR.out]
        unfold costF
        rw [if_neg (by simp [HFIT.out])]
        rw [if_neg (by show ¬ (13 : Int) = 8; decide)]
        rw [if_neg (by show ¬ (13 : Int) = 12; decide)]
        rw [if_pos rfl]
        rw [if_pos (fun h9 : textOk p s _ => by have h1 := h9.2.1; rw [show s.reg _ = rv from HREG.out.1, HKT.out, ← HNT.out] at h1; have h3 := HX.out.2; omega)]
      subst hrr
      go_wp2_with fail
      (try go_quiet (fail))
      (try go_wp2_with fail)
      go_returns
      exact ⟨by first | rfl | simp, vs, vp, vg, vt, (by first | exact X4.out | exact X4.out.drewN _ | exact (X4.out.drewN _).drewN _)⟩
  have d4 : decide ((nt : Int) ≤ (kt : Int)) = false := by simpa using hbig
  have hktn : kt < nt := by omega
  have d5 : decide (nt ≤ kt) = false := by simp; omega
  have hkti : (kt : Int) < (nt : Int) := by omega
  obtain ⟨b6, o6, rfl, _, hc6⟩ := HA6.out.one (by rw [← HNT.out]; exact hktn)
  unfold TxtC at hc6
  obtain ⟨t0, ht0⟩ : ∃ t, t = p.texts.getD kt ⟨#[]⟩ := ⟨_, rfl⟩
  have hsz : t0.size ≤ 140737488355328 := by rw [ht0]; exact HTX.out.led kt
  rw [← ht0] at hc6
  have HT0 := Lib.hid ht0
  have HNB := Lib.hid (And.intro hneg hbig)
  obtain ⟨np, hnp⟩ : ∃ n, n = s.put.length := ⟨_, rfl⟩
  have hnp2 : np ≤ 262144 := by rw [hnp]; exact HPL.out
  obtain ⟨Ap, cp, hvp⟩ := own_sl X4.out.put
  have v4 := X4.out.cells.vp
  rw [← hnp] at hvp
  rw [hvp] at v4
  have HNP := Lib.hid (And.intro hnp hvp)
  clear ht0 hneg hbig hkt hnp hvp
  by_cases hpar : rv % 2 = 1
  · rw [hpar] at hmod hmod4
    have HPAR := Lib.hid hpar
    have hmod2 : wrap64 (rv % 2) = 1 := by rw [hpar]; exact IntWalk.wrap64_in _ (by omega)
    clear hpar
    cases bb with
    | false =>
      as_aux_lemma =>
        have HX := Lib.hid (show True from trivial)
        have n1 : decide ((kb : Int) < 0) = false := by simp
        have n2 : decide ((8 : Int) ≤ (kb : Int)) = false := by simp; omega
        have n3 : decide (8 ≤ kb) = false := by simp; omega
        have n4' : decide (kb < 8) = true := by simpa using hkb
        have n5 : ¬ 8 ≤ kb := by omega
        have n6 : (kb : Int) < 8 := by omega
        have n7 : ¬ (8 : Int) ≤ (kb : Int) := by omega
        go_wp2_with fail
        go_quiet ((go_at_call 29; exact (HIB.out _).mono (fun e w h => ⟨h.1, ⟨_, h.2⟩⟩)))
        go_wp2_with fail
        go_quiet ((go_at_call 29; exact (HIB.out _).mono (fun e w h => ⟨h.1, ⟨_, h.2⟩⟩)))
        have hrr : r = (s, some 3) := by
          rw [HRR.out]
          unfold costF
          rw [if_neg (by simp [HFIT.out])]
          rw [if_neg (by show ¬ (13 : Int) = 8; decide)]
          rw [if_neg (by show ¬ (13 : Int) = 12; decide)]
          rw [if_pos rfl]
          rw [if_pos (fun h9 : textOk p s _ => by have h1 := h9.2.2 (by rw [show s.reg _ = rv from HREG.out.1]; exact HPAR.out); rw [show s.reg _ = rb from HREG.out.2, ← HBB.out] at h1; cases h1)]
        subst hrr
        go_wp2_with fail
        (try go_quiet (fail))
        (try go_wp2_with fail)
        go_returns
        exact ⟨by first | rfl | simp, vs, vp, vg, vt, (by first | exact X4.out | exact X4.out.drewN _ | exact (X4.out.drewN _).drewN _)⟩
    | true =>
      as_aux_lemma =>
      have n1 : decide ((kb : Int) < 0) = false := by simp
      have n2 : decide ((8 : Int) ≤ (kb : Int)) = false := by simp; omega
      have n3 : decide (8 ≤ kb) = false := by simp; omega
      have n4' : decide (kb < 8) = true := by simpa using hkb
      have n5 : ¬ 8 ≤ kb := by omega
      have n6 : (kb : Int) < 8 := by omega
      have n7 : ¬ (8 : Int) ≤ (kb : Int) := by omega
      go_wp2_with fail
      go_quiet ((go_at_call 29; exact (HIB.out _).mono (fun e w h => ⟨h.1, ⟨_, h.2⟩⟩)))
      go_wp2_with fail
      go_quiet ((go_at_call 29; exact (HIB.out _).mono (fun e w h => ⟨h.1, ⟨_, h.2⟩⟩)))
      rename_i nq1 K1 a1 K2 a2
      have X4 := Lib.hid ((X4.out.drewN nq1).drewN nq)
      have I4 := Lib.hid ((I4.out.drewN nq1).drewN nq)
      have hc9 : ((w4.drewN nq1).drewN nq).cell? ⟨b6, o6 + kt, none⟩ = some (.string t0) := by simpa using hc6
      have v9 : ((w4.drewN nq1).drewN nq).cell? ⟨g, 6, none⟩ = some (.slice (some ⟨b6, o6, none⟩) nt c6) := by simpa using v3
      clear v1 v2 v3 v4 hc6 j0 j1 j2 j3 j4
      generalize (w4.drewN nq1).drewN nq = w9 at X4 I4 hc9 v9 ⊢
      have j0 := I4.out.cell 0
      have j1 := I4.out.cell 1
      have j2 := I4.out.cell 2
      have j3 := I4.out.cell 3
      have j4 := I4.out.cell 4
      simp only [List.getElem?_cons_zero, List.getElem?_cons_succ] at j0 j1 j2 j3 j4
      have v4 := X4.out.cells.vp
      rw [HNP.out.2] at v4
      have v2 := X4.out.cells.reg kb hkb
      rw [← HRV.out.2] at v2
      have hcv := byte_str w9 rb HBB.out
      obtain ⟨tt, htt⟩ : ∃ tt, tt = t0 ++ { data := #[UInt8.ofNat rb.toNat] } := ⟨_, rfl⟩
      have htf : textF p s ⟨13, (ka : Int), (kb : Int), c, d⟩ = tt.data.toList := by
        rw [htt, odd_text, HT0.out]; exact textF_odd p s 13 _ _ c d rv rb kt HREG.out.1 HREG.out.2 HPAR.out HKT.out
      have hok : textOk p s ⟨13, (ka : Int), (kb : Int), c, d⟩ := textOk_odd p s 13 _ _ c d rv rb kt HREG.out.1 HREG.out.2 (by first | exact HNB.out.1 | exact Int.not_lt.2 HNB.out.1) HBB.out.symm HKT.out (by rw [← HNT.out]; exact hktn)
      obtain ⟨cst, hcst⟩ : ∃ n, n = 1 + (textF p s ⟨13, (ka : Int), (kb : Int), c, d⟩).length := ⟨_, rfl⟩
      have hlen : (textF p s ⟨13, (ka : Int), (kb : Int), c, d⟩).length = tt.size := by rw [htf]; exact data_len tt
      have hcst2 : cst = 1 + tt.size := hcst.trans (congrArg (1 + ·) hlen)
      have htsz : tt.size ≤ 140737488355329 := by rw [htt]; exact odd_size t0 _ hsz
      have HC9 := Lib.hid (cost_cast tt.size cst hcst2)
      have HTF := Lib.hid (And.intro htf (And.intro hok (And.intro hlen hcst)))
      have hcb : cst ≤ 140737488355330 := hcst2 ▸ Nat.add_comm 1 _ ▸ Nat.succ_le_succ htsz
      clear hcst2 htf hok hlen hcst
      go_wp2_with fail
      go_region
      rw [← htt]
      clear hcv htt hc9 v9
      have hb9 : Below w9.heap.size w9 ((w9.alloc (.cells #[.int .u8 (rb % 256)] 5)).drew) := ((Below.refl _ _).alloc (Nat.le_refl _) _).drew
      have X4 := Lib.hid (X4.out.call hb9)
      have I4 := Lib.hid (I4.out.below hb9 I4.out.lt)
      clear hb9 v2 v4 j0 j1 j2 j3 j4
      generalize (w9.alloc (.cells #[.int .u8 (rb % 256)] 5)).drew = w8 at X4 I4 ⊢
      have j0 := I4.out.cell 0
      have j1 := I4.out.cell 1
      have j2 := I4.out.cell 2
      have j3 := I4.out.cell 3
      have j4 := I4.out.cell 4
      simp only [List.getElem?_cons_zero, List.getElem?_cons_succ] at j0 j1 j2 j3 j4
      by_cases hfull : (262144 : Int) < (np : Int) + (tt.size : Int)
      · as_aux_lemma =>
          have d9 : decide ((262144 : Int) < (np : Int) + (tt.size : Int)) = true := by simpa using hfull
          have HFULL := Lib.hid hfull
          clear hfull
          have v4 := X4.out.cells.vp
          rw [HNP.out.2] at v4
          have hrr : r = (s, some 1) := by
            rw [HRR.out]
            unfold costF
            rw [if_neg (by simp [HFIT.out])]
            rw [if_neg (by show ¬ (13 : Int) = 8; decide)]
            rw [if_neg (by show ¬ (13 : Int) = 12; decide)]
            rw [if_pos rfl]
            rw [if_neg (fun h9 => h9 HTF.out.2.1), if_pos (by rw [HTF.out.2.2.1, ← HNP.out.1]; exact lt_put _ _ HFULL.out)]
          subst hrr
          go_wp2_with fail
          (try go_quiet (fail))
          (try go_wp2_with fail)
          go_returns
          exact ⟨by first | rfl | simp, vs, vp, vg, vt, (by first | exact X4.out | exact X4.out.drewN _ | exact (X4.out.drewN _).drewN _)⟩
      · have d9 : decide ((262144 : Int) < (np : Int) + (tt.size : Int)) = false := by simpa using hfull
        have HFULL := Lib.hid hfull
        clear hfull
        have v4 := X4.out.cells.vp
        rw [HNP.out.2] at v4
        have HD0 := Lib.hid (show ∀ W', RS B g w0 W' prg room fuel { s with used := s.used + cst, pc := s.pc + 1 } vs vp vg vt → Calls Try.prog 32 #[.pointer (some ⟨g, 0, none⟩), insV ⟨13, (ka : Int), (kb : Int), c, d⟩, .int .i64 0, .string tt] W' (Res B g w0 prg room fuel (doF mg p room { s with used := s.used + cst, pc := s.pc + 1 } ⟨13, (ka : Int), (kb : Int), c, d⟩)) from fun W' h9 => by
          have h8 := HD0.out W' (by rw [← HTF.out.2.2.2]; exact h9) (by rw [HTF.out.2.2.1, ← HNP.out.1]; exact Nat.le_of_not_lt (le_put _ _ (by first | exact HFULL.out | exact Int.not_lt.2 HFULL.out)))
          rw [← HTF.out.2.2.2, HTF.out.1] at h8
          exact h8)
        have hcc := HC9.out
        have hrp : r = (if fuel - (s.used : Int) < ((cst : Nat) : Int) then (s, some 1) else doF mg p room { s with used := s.used + cst, pc := s.pc + 1 } ⟨13, (ka : Int), (kb : Int), c, d⟩) := by
          rw [HRR.out]
          unfold costF
          rw [if_neg (by simp [HFIT.out])]
          rw [if_neg (by show ¬ (13 : Int) = 8; decide)]
          rw [if_neg (by show ¬ (13 : Int) = 12; decide)]
          rw [if_pos rfl]
          rw [if_neg (fun h9 => h9 HTF.out.2.1), if_neg (by rw [HTF.out.2.2.1, ← HNP.out.1]; exact le_put _ _ (by first | exact HFULL.out | exact Int.not_lt.2 HFULL.out)), ← HTF.out.2.2.2]
        by_cases hltf : fuel - (s.used : Int) < ((cst : Nat) : Int)
        · rw [if_pos hltf] at hrp
          subst hrp
          go_wp2_with fail
          refine (pay_no B g w0 _ prg room fuel s vs vp vg vt cst X4.out hu hfu (by omega)).mono ?_
          rintro e w5 ⟨rfl, hx5⟩
          have X5 := Lib.hid (X4.out.call hx5)
          clear hx5
          go_wp2_with fail
          go_returns
          exact ⟨by first | rfl | simp, vs, vp, vg, vt, X5.out⟩
        · rw [if_neg hltf] at hrp
          go_wp2_with fail
          refine (pay_yes B g w0 _ prg room fuel s vs vp vg vt cst X4.out hu hfu (by omega)).mono ?_
          rintro e w5 ⟨rfl, hx5, hfar⟩
          have hne : ib ≠ g := fun e9 => by
            have h1 := I4.out
            have h2 := X4.out.box
            rw [e9] at h1
            unfold Blk at h1 h2
            rw [h1] at h2
            injection (Option.some.inj h2) with e1 e2
            exact absurd e2 (by decide)
          have I5 := Lib.hid (show Blk w5 ib 40 _ from (hfar ib hne).trans I4.out)
          have hpc5 := hx5.cells.pc
          have hfr5 := hx5.cells.fr 25
          simp only [HPC.out] at hpc5
          have hx6 := hx5.setPc ((k : Int) + 1)
          have hi6 : Blk (w5.setCell ⟨g, 25, none⟩ (.int .i64 ((k : Int) + 1))) ib 40 [.int .i64 13, .int .i64 (ka : Int), .int .i64 (kb : Int), .int .i64 c, .int .i64 d] := I5.out.same (Below.heap_setCell _ _ _ ib hne)
          have X6 := Lib.hid hx6
          clear hx5 hfar j0 j1 j2 j3 j4 hx6
          have j0 := hi6.cell 0
          have j1 := hi6.cell 1
          have j2 := hi6.cell 2
          have j3 := hi6.cell 3
          have j4 := hi6.cell 4
          simp only [List.getElem?_cons_zero, List.getElem?_cons_succ] at j0 j1 j2 j3 j4
          clear hi6
          have hD := HD0.out _ (by rw [HPC.out]; exact X6.out)
          unfold insV at hD
          simp only at hD
          rw [← hrp] at hD
          have HD' := Lib.hid hD
          clear hD hrp hltf
          go_wp2_with fail
          refine HD'.out.mono ?_
          rintro e w7 ⟨rfl, h7⟩
          have H7 := Lib.hid h7
          clear h7
          go_wp2_with fail
          go_returns
          exact ⟨by first | rfl | simp, H7.out⟩
  · have hpar0 : rv % 2 = 0 := by omega
    rw [hpar0] at hmod hmod4
    have HPAR := Lib.hid hpar0
    have hmod2 : wrap64 (rv % 2) = 0 := by rw [hpar0]; exact IntWalk.wrap64_in _ (by omega)
    clear hpar hpar0
    have htf : textF p s ⟨13, (ka : Int), (kb : Int), c, d⟩ = t0.data.toList := by
      rw [HT0.out]; exact textF_even p s 13 _ _ c d rv kt HREG.out.1 HPAR.out HKT.out
    have hok : textOk p s ⟨13, (ka : Int), (kb : Int), c, d⟩ := textOk_even p s 13 _ _ c d rv kt HREG.out.1 HNB.out.1 HPAR.out HKT.out (by rw [← HNT.out]; exact hktn)
    obtain ⟨cst, hcst⟩ : ∃ n, n = 1 + (textF p s ⟨13, (ka : Int), (kb : Int), c, d⟩).length := ⟨_, rfl⟩
    have hlen : (textF p s ⟨13, (ka : Int), (kb : Int), c, d⟩).length = t0.size := by rw [htf]; exact data_len t0
    have hcst2 : cst = 1 + t0.size := hcst.trans (congrArg (1 + ·) hlen)
    have HC9 := Lib.hid (show (1 + (t0.size : Int)) = (cst : Int) by rw [hcst2]; exact Int.natCast_add 1 _)
    have HTF := Lib.hid (And.intro htf (And.intro hok (And.intro hlen hcst)))
    have hcb : cst ≤ 140737488355329 := hcst2 ▸ Nat.add_comm 1 _ ▸ Nat.succ_le_succ hsz
    clear hcst2
    clear htf hok hlen hcst
    by_cases hfull : (262144 : Int) < (np : Int) + (t0.size : Int)
    · as_aux_lemma =>
        have d9 : decide ((262144 : Int) < (np : Int) + (t0.size : Int)) = true := by simpa using hfull
        have HFULL := Lib.hid hfull
        clear hfull
        go_wp2_with fail
        go_quiet (fail)
        go_wp2_with fail
        go_quiet (fail)
        have hrr : r = (s, some 1) := by
          rw [HRR.out]
          unfold costF
          rw [if_neg (by simp [HFIT.out])]
          rw [if_neg (by show ¬ (13 : Int) = 8; decide)]
          rw [if_neg (by show ¬ (13 : Int) = 12; decide)]
          rw [if_pos rfl]
          rw [if_neg (fun h9 => h9 HTF.out.2.1), if_pos (by rw [HTF.out.2.2.1, ← HNP.out.1]; exact lt_put _ _ HFULL.out)]
        subst hrr
        go_wp2_with fail
        (try go_quiet (fail))
        (try go_wp2_with fail)
        go_returns
        exact ⟨by first | rfl | simp, vs, vp, vg, vt, (by first | exact X4.out | exact X4.out.drewN _ | exact (X4.out.drewN _).drewN _)⟩
    · have d9 : decide ((262144 : Int) < (np : Int) + (t0.size : Int)) = false := by simpa using hfull
      have HFULL := Lib.hid hfull
      clear hfull
      go_wp2_with fail
      go_quiet (fail)
      go_wp2_with fail
      go_quiet (fail)
      rename_i nq1 K1 a1 K2 a2
      have X4 := Lib.hid ((X4.out.drewN nq1).drewN nq)
      have I4 := Lib.hid ((I4.out.drewN nq1).drewN nq)
      have hc9 : ((w4.drewN nq1).drewN nq).cell? ⟨b6, o6 + kt, none⟩ = some (.string t0) := by simpa using hc6
      have v9 : ((w4.drewN nq1).drewN nq).cell? ⟨g, 6, none⟩ = some (.slice (some ⟨b6, o6, none⟩) nt c6) := by simpa using v3
      clear v1 v2 v3 v4 hc6 j0 j1 j2 j3 j4
      generalize (w4.drewN nq1).drewN nq = w9 at X4 I4 hc9 v9 ⊢
      have j0 := I4.out.cell 0
      have j1 := I4.out.cell 1
      have j2 := I4.out.cell 2
      have j3 := I4.out.cell 3
      have j4 := I4.out.cell 4
      simp only [List.getElem?_cons_zero, List.getElem?_cons_succ] at j0 j1 j2 j3 j4
      have v4 := X4.out.cells.vp
      rw [HNP.out.2] at v4
      have HD0 := Lib.hid (show ∀ W', RS B g w0 W' prg room fuel { s with used := s.used + cst, pc := s.pc + 1 } vs vp vg vt → Calls Try.prog 32 #[.pointer (some ⟨g, 0, none⟩), insV ⟨13, (ka : Int), (kb : Int), c, d⟩, .int .i64 0, .string t0] W' (Res B g w0 prg room fuel (doF mg p room { s with used := s.used + cst, pc := s.pc + 1 } ⟨13, (ka : Int), (kb : Int), c, d⟩)) from fun W' h9 => by
        have h8 := HD0.out W' (by rw [← HTF.out.2.2.2]; exact h9) (by rw [HTF.out.2.2.1, ← HNP.out.1]; exact Nat.le_of_not_lt (le_put _ _ (by first | exact HFULL.out | exact Int.not_lt.2 HFULL.out)))
        rw [← HTF.out.2.2.2, HTF.out.1] at h8
        exact h8)
      have hcc := HC9.out
      have hrp : r = (if fuel - (s.used : Int) < ((cst : Nat) : Int) then (s, some 1) else doF mg p room { s with used := s.used + cst, pc := s.pc + 1 } ⟨13, (ka : Int), (kb : Int), c, d⟩) := by
        rw [HRR.out]
        unfold costF
        rw [if_neg (by simp [HFIT.out])]
        rw [if_neg (by show ¬ (13 : Int) = 8; decide)]
        rw [if_neg (by show ¬ (13 : Int) = 12; decide)]
        rw [if_pos rfl]
        rw [if_neg (fun h9 => h9 HTF.out.2.1), if_neg (by rw [HTF.out.2.2.1, ← HNP.out.1]; exact le_put _ _ (by first | exact HFULL.out | exact Int.not_lt.2 HFULL.out)), ← HTF.out.2.2.2]
      by_cases hltf : fuel - (s.used : Int) < ((cst : Nat) : Int)
      · rw [if_pos hltf] at hrp
        subst hrp
        go_wp2_with fail
        refine (pay_no B g w0 _ prg room fuel s vs vp vg vt cst X4.out hu hfu (by omega)).mono ?_
        rintro e w5 ⟨rfl, hx5⟩
        have X5 := Lib.hid (X4.out.call hx5)
        clear hx5
        go_wp2_with fail
        go_returns
        exact ⟨by first | rfl | simp, vs, vp, vg, vt, X5.out⟩
      · rw [if_neg hltf] at hrp
        go_wp2_with fail
        refine (pay_yes B g w0 _ prg room fuel s vs vp vg vt cst X4.out hu hfu (by omega)).mono ?_
        rintro e w5 ⟨rfl, hx5, hfar⟩
        have hne : ib ≠ g := fun e9 => by
          have h1 := I4.out
          have h2 := X4.out.box
          rw [e9] at h1
          unfold Blk at h1 h2
          rw [h1] at h2
          injection (Option.some.inj h2) with e1 e2
          exact absurd e2 (by decide)
        have I5 := Lib.hid (show Blk w5 ib 40 _ from (hfar ib hne).trans I4.out)
        have hpc5 := hx5.cells.pc
        have hfr5 := hx5.cells.fr 25
        simp only [HPC.out] at hpc5
        have hx6 := hx5.setPc ((k : Int) + 1)
        have hi6 : Blk (w5.setCell ⟨g, 25, none⟩ (.int .i64 ((k : Int) + 1))) ib 40 [.int .i64 13, .int .i64 (ka : Int), .int .i64 (kb : Int), .int .i64 c, .int .i64 d] := I5.out.same (Below.heap_setCell _ _ _ ib hne)
        have X6 := Lib.hid hx6
        clear hx5 hfar j0 j1 j2 j3 j4 hx6
        have j0 := hi6.cell 0
        have j1 := hi6.cell 1
        have j2 := hi6.cell 2
        have j3 := hi6.cell 3
        have j4 := hi6.cell 4
        simp only [List.getElem?_cons_zero, List.getElem?_cons_succ] at j0 j1 j2 j3 j4
        clear hi6
        have hD := HD0.out _ (by rw [HPC.out]; exact X6.out)
        unfold insV at hD
        simp only at hD
        rw [← hrp] at hD
        have HD' := Lib.hid hD
        clear hD hrp hltf
        go_wp2_with fail
        refine HD'.out.mono ?_
        rintro e w7 ⟨rfl, h7⟩
        have H7 := Lib.hid h7
        clear h7
        go_wp2_with fail
        go_returns
        exact ⟨by first | rfl | simp, H7.out⟩
end Go.Proofs.Ytgejpggbmgiocaa
