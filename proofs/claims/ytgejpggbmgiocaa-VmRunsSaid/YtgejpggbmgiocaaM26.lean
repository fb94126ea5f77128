/- Step4 of this seat, in one text. -/
import Derived.Test.YtgejpggbmgiocaaM25
/- Steps of instructions that have a test of their own: Sign, Join. -/
namespace Go.Proofs.Ytgejpggbmgiocaa
open Go.RowKit
attribute [local go_sem ↓] store_ins
set_option maxRecDepth 100000 in
set_option maxHeartbeats 8000000 in
theorem st_15 (B g : Nat) (w0 W : World) (prg : List Value) (room fuel : Int) (s : St) (vs vp vg vt : Value) (mg : List Int → Option (List Int)) (p : Prog) (h : RS B g w0 W prg room fuel s vs vp vg vt) (hc : CodeIn w0 B prg p.code) (hu : (s.used : Int) ≤ fuel) (hfu : fuel ≤ 35184372088832) (k : Nat) (hpc : s.pc = (k : Int)) (hk : k < p.code.length) (i : Ins) (hi : p.code.getD k noIns = i) (hf : fitsF i = true) (ho : i.op = 15) (hp3 : prg[3]? = some (.int .i64 p.signs))
    (HD : ∀ W', RS B g w0 W' prg room fuel { s with used := s.used + 1, pc := s.pc + 1 } vs vp vg vt → Calls Try.prog 32 #[.pointer (some ⟨g, 0, none⟩), insV i, .int .i64 0, .string ⟨#[]⟩] W' (Res B g w0 prg room fuel (doF mg p room { s with used := s.used + 1, pc := s.pc + 1 } i))) :
    Calls Try.prog 20 #[.pointer (some ⟨g, 0, none⟩)] W (Res B g w0 prg room fuel (stepF mg p room fuel s)) := by
  obtain ⟨r, hr⟩ : ∃ r, r = stepF mg p room fuel s := ⟨_, rfl⟩
  rw [stepF_at mg p room fuel s k hpc hk i hi] at hr
  have H := Lib.hid h
  have c1 := h.cells.pc
  have c2 := h.cells.p 4 (by omega)
  have hle := hc.le
  obtain ⟨b4, o4, c4, h4, hb4, i0, i1, i2, i3', i4⟩ := hc.at h.below hk
  rw [h4] at c2
  rw [hi] at i0 i1 i2 i3' i4
  obtain ⟨op, a, b, c, d⟩ := i
  simp only at i0 i1 i2 i3' i4
  obtain ⟨n4, hn4⟩ : ∃ n4, n4 = p.code.length := ⟨_, rfl⟩
  rw [← hn4] at c2 hk hle
  rw [hpc] at c1
  have hgB := h.gB
  have hlt := h.lt
  have hki : (k : Int) < (n4 : Int) := by omega
  have e1 : decide ((k : Int) < 0) = false := by simp
  have e2 : decide ((n4 : Int) ≤ (k : Int)) = false := by simp; omega
  simp only at ho
  subst ho
  have hst : ∀ n, (storeIns (.pointer (some ⟨W.heap.size, 0, none⟩)) (.agg #[.int .i64 15, .int .i64 a, .int .i64 b, .int .i64 c, .int .i64 d])).run Try.prog ((W.drewN n).alloc (.cells #[.int .i64 0, .int .i64 0, .int .i64 0, .int .i64 0, .int .i64 0] 40)) = .ok () ((W.drewN n).alloc (.cells #[.int .i64 15, .int .i64 a, .int .i64 b, .int .i64 c, .int .i64 d] 40)) := fun n => ins_store (W.drewN n) 15 a b c d
  have e2' : decide (n4 ≤ k) = false := by simp; omega
  have a1 := fun n o => cell_al (W := W.drewN n) c1 o
  have a2 := fun n o => cell_al (W := W.drewN n) c2 o
  have a3 := fun n o => cell_al (W := W.drewN n) i0 o
  have a4 := fun n o => cell_al (W := W.drewN n) i1 o
  have a5 := fun n o => cell_al (W := W.drewN n) i2 o
  have a6 := fun n o => cell_al (W := W.drewN n) i3' o
  have a7 := fun n o => cell_al (W := W.drewN n) i4 o
  have HF := Lib.hid (fun W => fits_any g ⟨15, a, b, c, d⟩ W)
  rw [hf] at HF
  have HFIT := Lib.hid hf
  have hf2 : isReg a = true := by simpa [fitsF] using hf
  obtain ⟨ka, hka, rfl⟩ := reg_nat hf2
  have HREG : s.reg (ka : Int) = s.regs.getD ka 0 := rfl
  have HRR := Lib.hid hr
  rw [show stepF mg p room fuel s = r by rw [hr, stepF_at mg p room fuel s k hpc (by rw [← hn4]; exact hk) _ hi]]
  have HPC := Lib.hid hpc
  have HD0 := Lib.hid HD
  clear h hc h4 hi hf hr HD hn4
  go_enter Try.func20, Try.ntmps20
  go_wp2_with fail
  go_quiet (fail)
  go_wp2_with fail
  go_region
  have hI : Blk ((W.drewN (nq + 1)).alloc (.cells #[.int .i64 15, .int .i64 (ka : Int), .int .i64 b, .int .i64 c, .int .i64 d] 40)) W.heap.size 40 [.int .i64 15, .int .i64 (ka : Int), .int .i64 b, .int .i64 c, .int .i64 d] := Blk.new (W.drewN (nq + 1)) 40 [.int .i64 15, .int .i64 (ka : Int), .int .i64 b, .int .i64 c, .int .i64 d]
  have hX := (H.out.drewN (nq + 1)).alloc (.cells #[.int .i64 15, .int .i64 (ka : Int), .int .i64 b, .int .i64 c, .int .i64 d] 40)
  obtain ⟨ib, hib⟩ : ∃ ib, ib = W.heap.size := ⟨_, rfl⟩
  rw [← hib] at hI ⊢
  generalize (W.drewN (nq + 1)).alloc (.cells #[.int .i64 15, .int .i64 (ka : Int), .int .i64 b, .int .i64 c, .int .i64 d] 40) = w3 at hI hX ⊢
  have X3 := Lib.hid hX
  have I3 := Lib.hid hI
  have j0 := hI.cell 0
  have j1 := hI.cell 1
  have j2 := hI.cell 2
  have j3 := hI.cell 3
  have j4 := hI.cell 4
  simp only [List.getElem?_cons_zero, List.getElem?_cons_succ] at j0 j1 j2 j3 j4
  clear hI hX a1 a2 a3 a4 a5 a6 a7 hst i0 i1 i2 i3' i4 c1 c2 hib
  go_wp2_with fail
  refine (HF.out _).mono ?_
  rintro e w4 ⟨rfl, hb4⟩
  have X4 := Lib.hid (X3.out.call hb4)
  have I4 := Lib.hid (I3.out.below hb4 I3.out.lt)
  clear hb4 j0 j1 j2 j3 j4 X3 I3 HF
  have j0 := I4.out.cell 0
  have j1 := I4.out.cell 1
  have j2 := I4.out.cell 2
  have j3 := I4.out.cell 3
  have j4 := I4.out.cell 4
  simp only [List.getElem?_cons_zero, List.getElem?_cons_succ] at j0 j1 j2 j3 j4
  obtain ⟨rv, hrv⟩ : ∃ x, x = s.regs.getD ka 0 := ⟨_, rfl⟩
  have v1 := X4.out.cells.reg ka hka
  rw [← hrv] at v1
  rw [← hrv] at HREG
  have v3 := (X4.out.cells.p 3 (by omega)).trans hp3
  obtain ⟨sg, hsg⟩ : ∃ x, x = p.signs := ⟨_, rfl⟩
  rw [← hsg] at v3
  have HSG := Lib.hid hsg
  obtain ⟨Ag, cg, hvg⟩ := own_sl X4.out.sgn
  obtain ⟨ng, hng⟩ : ∃ n, n = s.signs.length := ⟨_, rfl⟩
  have v2 := X4.out.cells.vg
  rw [← hng] at hvg
  rw [hvg] at v2
  have HNG := Lib.hid (And.intro hng hvg)
  clear hng hvg hrv hsg hp3
  by_cases hneg : rv < 0
  · as_aux_lemma =>
      have d1 : decide (rv < 0) = true := by simpa using hneg
      have HX := Lib.hid hneg
      have hneg2 := hneg
      go_wp2_with fail
      go_quiet (fail)
      have hrr : r = (s, some 3) := by
        rw [HRR.out]
        unfold costF
        rw [if_neg (by simp [HFIT.out])]
        rw [if_neg (by show ¬ (15 : Int) = 8; decide)]
        rw [if_neg (by show ¬ (15 : Int) = 12; decide)]
        rw [if_neg (by show ¬ (15 : Int) = 13; decide)]
        rw [if_pos rfl]
        rw [HREG, if_pos (.inl HX.out)]
      subst hrr
      go_wp2_with fail
      (try go_quiet (fail))
      (try go_wp2_with fail)
      go_returns
      exact ⟨by first | rfl | simp, vs, vp, vg, vt, (by first | exact X4.out | exact X4.out.drewN _)⟩
  have d1 : decide (rv < 0) = false := by simpa using hneg
  by_cases hbig : 65536 < sg
  · have d2 : decide (65536 < sg) = true := by simpa using hbig
    by_cases hge : 65536 ≤ rv
    · as_aux_lemma =>
        have d4 : decide (65536 ≤ rv) = true := by simpa using hge
        have HX := Lib.hid (And.intro hneg (And.intro hbig hge))
        have hbig2 := hbig
        go_wp2_with fail
        go_quiet (fail)
        have hrr : r = (s, some 3) := by
          rw [HRR.out]
          unfold costF
          rw [if_neg (by simp [HFIT.out])]
          rw [if_neg (by show ¬ (15 : Int) = 8; decide)]
          rw [if_neg (by show ¬ (15 : Int) = 12; decide)]
          rw [if_neg (by show ¬ (15 : Int) = 13; decide)]
          rw [if_pos rfl]
          rw [HREG, if_pos (.inr (by rw [← HSG.out]; have h1 := HX.out.2.1; have h2 := HX.out.2.2; omega))]
        subst hrr
        go_wp2_with fail
        (try go_quiet (fail))
        (try go_wp2_with fail)
        go_returns
        exact ⟨by first | rfl | simp, vs, vp, vg, vt, (by first | exact X4.out | exact X4.out.drewN _)⟩
    have d4 : decide (65536 ≤ rv) = false := by simpa using hge
    by_cases hfull : 262144 ≤ ng
    · as_aux_lemma =>
        have d9 : decide ((262144 : Int) ≤ (ng : Int)) = true := by simp; omega
        have HX := Lib.hid (And.intro hneg (And.intro hbig (And.intro hge hfull)))
        have hbig2 := hbig
        go_wp2_with fail
        go_quiet (fail)
        have hrr : r = (s, some 1) := by
          rw [HRR.out]
          unfold costF
          rw [if_neg (by simp [HFIT.out])]
          rw [if_neg (by show ¬ (15 : Int) = 8; decide)]
          rw [if_neg (by show ¬ (15 : Int) = 12; decide)]
          rw [if_neg (by show ¬ (15 : Int) = 13; decide)]
          rw [if_pos rfl]
          rw [HREG, if_neg (by rw [← HSG.out]; have h0 := HX.out.1; have h1 := HX.out.2.1; have h2 := HX.out.2.2.1; omega), if_pos (by rw [← HNG.out.1]; exact HX.out.2.2.2)]
        subst hrr
        go_wp2_with fail
        (try go_quiet (fail))
        (try go_wp2_with fail)
        go_returns
        exact ⟨by first | rfl | simp, vs, vp, vg, vt, (by first | exact X4.out | exact X4.out.drewN _)⟩
    · as_aux_lemma =>
        have d9 : decide ((262144 : Int) ≤ (ng : Int)) = false := by simp; omega
        have HX := Lib.hid (And.intro hneg (And.intro hbig (And.intro hge hfull)))
        have hbig2 := hbig
        go_wp2_with fail
        go_quiet (fail)
        have X4 := Lib.hid (X4.out.drewN nq)
        have I4 := Lib.hid (I4.out.drewN nq)
        clear v1 v2 v3 j0 j1 j2 j3 j4
        generalize w4.drewN nq = w9 at X4 I4 ⊢
        have j0 := I4.out.cell 0
        have j1 := I4.out.cell 1
        have j2 := I4.out.cell 2
        have j3 := I4.out.cell 3
        have j4 := I4.out.cell 4
        simp only [List.getElem?_cons_zero, List.getElem?_cons_succ] at j0 j1 j2 j3 j4
        have v2 := X4.out.cells.vg
        rw [HNG.out.2] at v2
        have hrp : r = (if fuel - (s.used : Int) < ((1 : Nat) : Int) then (s, some 1) else doF mg p room { s with used := s.used + 1, pc := s.pc + 1 } ⟨15, (ka : Int), b, c, d⟩) := by
          rw [HRR.out]
          unfold costF
          rw [if_neg (by simp [HFIT.out])]
          rw [if_neg (by show ¬ (15 : Int) = 8; decide)]
          rw [if_neg (by show ¬ (15 : Int) = 12; decide)]
          rw [if_neg (by show ¬ (15 : Int) = 13; decide)]
          rw [if_pos rfl]
          rw [HREG, if_neg (by rw [← HSG.out]; have h0 := HX.out.1; have h1 := HX.out.2.1; have h2 := HX.out.2.2.1; omega), if_neg (by rw [← HNG.out.1]; exact HX.out.2.2.2)]
        by_cases hltf : fuel - (s.used : Int) < ((1 : Nat) : Int)
        · rw [if_pos hltf] at hrp
          subst hrp
          go_wp2_with fail
          refine (pay_no B g w0 _ prg room fuel s vs vp vg vt 1 X4.out hu hfu (by omega)).mono ?_
          rintro e w5 ⟨rfl, hx5⟩
          have X5 := Lib.hid (X4.out.call hx5)
          clear hx5
          go_wp2_with fail
          go_returns
          exact ⟨by first | rfl | simp, vs, vp, vg, vt, X5.out⟩
        · rw [if_neg hltf] at hrp
          go_wp2_with fail
          refine (pay_yes B g w0 _ prg room fuel s vs vp vg vt 1 X4.out hu hfu (by omega)).mono ?_
          rintro e w5 ⟨rfl, hx5, hfar⟩
          have hne : ib ≠ g := fun e9 => by
            have h1 := I4.out
            have h2 := X4.out.box
            rw [e9] at h1
            unfold Blk at h1 h2
            rw [h1] at h2
            injection (Option.some.inj h2) with e1 e2
            exact absurd e2 (by decide)
          have I5 := Lib.hid (show Blk w5 ib 40 _ from (hfar ib hne).trans I4.out)
          have hpc5 := hx5.cells.pc
          have hfr5 := hx5.cells.fr 25
          simp only [HPC.out] at hpc5
          have hx6 := hx5.setPc ((k : Int) + 1)
          have hi6 : Blk (w5.setCell ⟨g, 25, none⟩ (.int .i64 ((k : Int) + 1))) ib 40 [.int .i64 15, .int .i64 (ka : Int), .int .i64 b, .int .i64 c, .int .i64 d] := I5.out.same (Below.heap_setCell _ _ _ ib hne)
          have X6 := Lib.hid hx6
          clear hx5 hfar j0 j1 j2 j3 j4 hx6
          have j0 := hi6.cell 0
          have j1 := hi6.cell 1
          have j2 := hi6.cell 2
          have j3 := hi6.cell 3
          have j4 := hi6.cell 4
          simp only [List.getElem?_cons_zero, List.getElem?_cons_succ] at j0 j1 j2 j3 j4
          clear hi6
          have hD := HD0.out _ (by rw [HPC.out]; exact X6.out)
          unfold insV at hD
          simp only at hD
          rw [← hrp] at hD
          have HD' := Lib.hid hD
          clear hD hrp hltf
          go_wp2_with fail
          refine HD'.out.mono ?_
          rintro e w7 ⟨rfl, h7⟩
          have H7 := Lib.hid h7
          clear h7
          go_wp2_with fail
          go_returns
          exact ⟨by first | rfl | simp, H7.out⟩
  · have d2 : decide (65536 < sg) = false := by simpa using hbig
    by_cases hge : sg ≤ rv
    · as_aux_lemma =>
        have d4 : decide (sg ≤ rv) = true := by simpa using hge
        have HX := Lib.hid (And.intro hneg (And.intro hbig hge))
        have hbig2 := hbig
        go_wp2_with fail
        go_quiet (fail)
        have hrr : r = (s, some 3) := by
          rw [HRR.out]
          unfold costF
          rw [if_neg (by simp [HFIT.out])]
          rw [if_neg (by show ¬ (15 : Int) = 8; decide)]
          rw [if_neg (by show ¬ (15 : Int) = 12; decide)]
          rw [if_neg (by show ¬ (15 : Int) = 13; decide)]
          rw [if_pos rfl]
          rw [HREG, if_pos (.inr (by rw [← HSG.out]; have h1 := HX.out.2.1; have h2 := HX.out.2.2; omega))]
        subst hrr
        go_wp2_with fail
        (try go_quiet (fail))
        (try go_wp2_with fail)
        go_returns
        exact ⟨by first | rfl | simp, vs, vp, vg, vt, (by first | exact X4.out | exact X4.out.drewN _)⟩
    have d4 : decide (sg ≤ rv) = false := by simpa using hge
    by_cases hfull : 262144 ≤ ng
    · as_aux_lemma =>
        have d9 : decide ((262144 : Int) ≤ (ng : Int)) = true := by simp; omega
        have HX := Lib.hid (And.intro hneg (And.intro hbig (And.intro hge hfull)))
        have hbig2 := hbig
        go_wp2_with fail
        go_quiet (fail)
        have hrr : r = (s, some 1) := by
          rw [HRR.out]
          unfold costF
          rw [if_neg (by simp [HFIT.out])]
          rw [if_neg (by show ¬ (15 : Int) = 8; decide)]
          rw [if_neg (by show ¬ (15 : Int) = 12; decide)]
          rw [if_neg (by show ¬ (15 : Int) = 13; decide)]
          rw [if_pos rfl]
          rw [HREG, if_neg (by rw [← HSG.out]; have h0 := HX.out.1; have h1 := HX.out.2.1; have h2 := HX.out.2.2.1; omega), if_pos (by rw [← HNG.out.1]; exact HX.out.2.2.2)]
        subst hrr
        go_wp2_with fail
        (try go_quiet (fail))
        (try go_wp2_with fail)
        go_returns
        exact ⟨by first | rfl | simp, vs, vp, vg, vt, (by first | exact X4.out | exact X4.out.drewN _)⟩
    · as_aux_lemma =>
        have d9 : decide ((262144 : Int) ≤ (ng : Int)) = false := by simp; omega
        have HX := Lib.hid (And.intro hneg (And.intro hbig (And.intro hge hfull)))
        have hbig2 := hbig
        go_wp2_with fail
        go_quiet (fail)
        have X4 := Lib.hid (X4.out.drewN nq)
        have I4 := Lib.hid (I4.out.drewN nq)
        clear v1 v2 v3 j0 j1 j2 j3 j4
        generalize w4.drewN nq = w9 at X4 I4 ⊢
        have j0 := I4.out.cell 0
        have j1 := I4.out.cell 1
        have j2 := I4.out.cell 2
        have j3 := I4.out.cell 3
        have j4 := I4.out.cell 4
        simp only [List.getElem?_cons_zero, List.getElem?_cons_succ] at j0 j1 j2 j3 j4
        have v2 := X4.out.cells.vg
        rw [HNG.out.2] at v2
        have hrp : r = (if fuel - (s.used : Int) < ((1 : Nat) : Int) then (s, some 1) else doF mg p room { s with used := s.used + 1, pc := s.pc + 1 } ⟨15, (ka : Int), b, c, d⟩) := by
          rw [HRR.out]
          unfold costF
          rw [if_neg (by simp [HFIT.out])]
          rw [if_neg (by show ¬ (15 : Int) = 8; decide)]
          rw [if_neg (by show ¬ (15 : Int) = 12; decide)]
          rw [if_neg (by show ¬ (15 : Int) = 13; decide)]
          rw [if_pos rfl]
          rw [HREG, if_neg (by rw [← HSG.out]; have h0 := HX.out.1; have h1 := HX.out.2.1; have h2 := HX.out.2.2.1; omega), if_neg (by rw [← HNG.out.1]; exact HX.out.2.2.2)]
        by_cases hltf : fuel - (s.used : Int) < ((1 : Nat) : Int)
        · rw [if_pos hltf] at hrp
          subst hrp
          go_wp2_with fail
          refine (pay_no B g w0 _ prg room fuel s vs vp vg vt 1 X4.out hu hfu (by omega)).mono ?_
          rintro e w5 ⟨rfl, hx5⟩
          have X5 := Lib.hid (X4.out.call hx5)
          clear hx5
          go_wp2_with fail
          go_returns
          exact ⟨by first | rfl | simp, vs, vp, vg, vt, X5.out⟩
        · rw [if_neg hltf] at hrp
          go_wp2_with fail
          refine (pay_yes B g w0 _ prg room fuel s vs vp vg vt 1 X4.out hu hfu (by omega)).mono ?_
          rintro e w5 ⟨rfl, hx5, hfar⟩
          have hne : ib ≠ g := fun e9 => by
            have h1 := I4.out
            have h2 := X4.out.box
            rw [e9] at h1
            unfold Blk at h1 h2
            rw [h1] at h2
            injection (Option.some.inj h2) with e1 e2
            exact absurd e2 (by decide)
          have I5 := Lib.hid (show Blk w5 ib 40 _ from (hfar ib hne).trans I4.out)
          have hpc5 := hx5.cells.pc
          have hfr5 := hx5.cells.fr 25
          simp only [HPC.out] at hpc5
          have hx6 := hx5.setPc ((k : Int) + 1)
          have hi6 : Blk (w5.setCell ⟨g, 25, none⟩ (.int .i64 ((k : Int) + 1))) ib 40 [.int .i64 15, .int .i64 (ka : Int), .int .i64 b, .int .i64 c, .int .i64 d] := I5.out.same (Below.heap_setCell _ _ _ ib hne)
          have X6 := Lib.hid hx6
          clear hx5 hfar j0 j1 j2 j3 j4 hx6
          have j0 := hi6.cell 0
          have j1 := hi6.cell 1
          have j2 := hi6.cell 2
          have j3 := hi6.cell 3
          have j4 := hi6.cell 4
          simp only [List.getElem?_cons_zero, List.getElem?_cons_succ] at j0 j1 j2 j3 j4
          clear hi6
          have hD := HD0.out _ (by rw [HPC.out]; exact X6.out)
          unfold insV at hD
          simp only at hD
          rw [← hrp] at hD
          have HD' := Lib.hid hD
          clear hD hrp hltf
          go_wp2_with fail
          refine HD'.out.mono ?_
          rintro e w7 ⟨rfl, h7⟩
          have H7 := Lib.hid h7
          clear h7
          go_wp2_with fail
          go_returns
          exact ⟨by first | rfl | simp, H7.out⟩
set_option maxRecDepth 100000 in
set_option maxHeartbeats 8000000 in
theorem st_16 (B g : Nat) (w0 W : World) (prg : List Value) (room fuel : Int) (s : St) (vs vp vg vt : Value) (mg : List Int → Option (List Int)) (p : Prog) (h : RS B g w0 W prg room fuel s vs vp vg vt) (hc : CodeIn w0 B prg p.code) (hu : (s.used : Int) ≤ fuel) (hfu : fuel ≤ 35184372088832) (k : Nat) (hpc : s.pc = (k : Int)) (hk : k < p.code.length) (i : Ins) (hi : p.code.getD k noIns = i) (hf : fitsF i = true) (ho : i.op = 16) (hsn : s.signs.length ≤ 262144)
    (HD : ∀ W', RS B g w0 W' prg room fuel { s with used := s.used + (1 + 4 * s.signs.length), pc := s.pc + 1 } vs vp vg vt → Calls Try.prog 32 #[.pointer (some ⟨g, 0, none⟩), insV i, .int .i64 0, .string ⟨#[]⟩] W' (Res B g w0 prg room fuel (doF mg p room { s with used := s.used + (1 + 4 * s.signs.length), pc := s.pc + 1 } i))) :
    Calls Try.prog 20 #[.pointer (some ⟨g, 0, none⟩)] W (Res B g w0 prg room fuel (stepF mg p room fuel s)) := by
  obtain ⟨r, hr⟩ : ∃ r, r = stepF mg p room fuel s := ⟨_, rfl⟩
  rw [stepF_at mg p room fuel s k hpc hk i hi] at hr
  have H := Lib.hid h
  have c1 := h.cells.pc
  have c2 := h.cells.p 4 (by omega)
  have hle := hc.le
  obtain ⟨b4, o4, c4, h4, hb4, i0, i1, i2, i3', i4⟩ := hc.at h.below hk
  rw [h4] at c2
  rw [hi] at i0 i1 i2 i3' i4
  obtain ⟨op, a, b, c, d⟩ := i
  simp only at i0 i1 i2 i3' i4
  obtain ⟨n4, hn4⟩ : ∃ n4, n4 = p.code.length := ⟨_, rfl⟩
  rw [← hn4] at c2 hk hle
  rw [hpc] at c1
  have hgB := h.gB
  have hlt := h.lt
  have hki : (k : Int) < (n4 : Int) := by omega
  have e1 : decide ((k : Int) < 0) = false := by simp
  have e2 : decide ((n4 : Int) ≤ (k : Int)) = false := by simp; omega
  simp only at ho
  subst ho
  have hst : ∀ n, (storeIns (.pointer (some ⟨W.heap.size, 0, none⟩)) (.agg #[.int .i64 16, .int .i64 a, .int .i64 b, .int .i64 c, .int .i64 d])).run Try.prog ((W.drewN n).alloc (.cells #[.int .i64 0, .int .i64 0, .int .i64 0, .int .i64 0, .int .i64 0] 40)) = .ok () ((W.drewN n).alloc (.cells #[.int .i64 16, .int .i64 a, .int .i64 b, .int .i64 c, .int .i64 d] 40)) := fun n => ins_store (W.drewN n) 16 a b c d
  have e2' : decide (n4 ≤ k) = false := by simp; omega
  have a1 := fun n o => cell_al (W := W.drewN n) c1 o
  have a2 := fun n o => cell_al (W := W.drewN n) c2 o
  have a3 := fun n o => cell_al (W := W.drewN n) i0 o
  have a4 := fun n o => cell_al (W := W.drewN n) i1 o
  have a5 := fun n o => cell_al (W := W.drewN n) i2 o
  have a6 := fun n o => cell_al (W := W.drewN n) i3' o
  have a7 := fun n o => cell_al (W := W.drewN n) i4 o
  have HF := Lib.hid (fun W => fits_any g ⟨16, a, b, c, d⟩ W)
  rw [hf] at HF
  have HFIT := Lib.hid hf
  have HRR := Lib.hid hr
  rw [show stepF mg p room fuel s = r by rw [hr, stepF_at mg p room fuel s k hpc (by rw [← hn4]; exact hk) _ hi]]
  have HPC := Lib.hid hpc
  have HD0 := Lib.hid HD
  clear h hc h4 hi hf hr HD hn4
  go_enter Try.func20, Try.ntmps20
  go_wp2_with fail
  go_quiet (fail)
  go_wp2_with fail
  go_region
  have hI : Blk ((W.drewN (nq + 1)).alloc (.cells #[.int .i64 16, .int .i64 a, .int .i64 b, .int .i64 c, .int .i64 d] 40)) W.heap.size 40 [.int .i64 16, .int .i64 a, .int .i64 b, .int .i64 c, .int .i64 d] := Blk.new (W.drewN (nq + 1)) 40 [.int .i64 16, .int .i64 a, .int .i64 b, .int .i64 c, .int .i64 d]
  have hX := (H.out.drewN (nq + 1)).alloc (.cells #[.int .i64 16, .int .i64 a, .int .i64 b, .int .i64 c, .int .i64 d] 40)
  obtain ⟨ib, hib⟩ : ∃ ib, ib = W.heap.size := ⟨_, rfl⟩
  rw [← hib] at hI ⊢
  generalize (W.drewN (nq + 1)).alloc (.cells #[.int .i64 16, .int .i64 a, .int .i64 b, .int .i64 c, .int .i64 d] 40) = w3 at hI hX ⊢
  have X3 := Lib.hid hX
  have I3 := Lib.hid hI
  have j0 := hI.cell 0
  have j1 := hI.cell 1
  have j2 := hI.cell 2
  have j3 := hI.cell 3
  have j4 := hI.cell 4
  simp only [List.getElem?_cons_zero, List.getElem?_cons_succ] at j0 j1 j2 j3 j4
  clear hI hX a1 a2 a3 a4 a5 a6 a7 hst i0 i1 i2 i3' i4 c1 c2 hib
  go_wp2_with fail
  refine (HF.out _).mono ?_
  rintro e w4 ⟨rfl, hb4⟩
  have X4 := Lib.hid (X3.out.call hb4)
  have I4 := Lib.hid (I3.out.below hb4 I3.out.lt)
  clear hb4 j0 j1 j2 j3 j4 X3 I3 HF
  have j0 := I4.out.cell 0
  have j1 := I4.out.cell 1
  have j2 := I4.out.cell 2
  have j3 := I4.out.cell 3
  have j4 := I4.out.cell 4
  simp only [List.getElem?_cons_zero, List.getElem?_cons_succ] at j0 j1 j2 j3 j4
  obtain ⟨Ag, cg, hvg⟩ := own_sl X4.out.sgn
  obtain ⟨ng, hng⟩ : ∃ n, n = s.signs.length := ⟨_, rfl⟩
  have v2 := X4.out.cells.vg
  rw [← hng] at hvg hsn
  rw [hvg] at v2
  have HC := Lib.hid (fun w => cost_any ng w hsn)
  have HNG := Lib.hid (And.intro hng hvg)
  obtain ⟨cs, hcs⟩ : ∃ x, x = 1 + 4 * ng := ⟨_, rfl⟩
  rw [← hcs] at HC
  rw [show (1 + 4 * s.signs.length) = cs by rw [hcs, hng]] at HD0
  have HCS := Lib.hid hcs
  clear hng hvg hcs
  go_wp2_with fail
  refine (HC.out _).mono ?_
  rintro e w9 ⟨rfl, rfl⟩
  have hrp : r = (if fuel - (s.used : Int) < ((cs : Nat) : Int) then (s, some 1) else doF mg p room { s with used := s.used + cs, pc := s.pc + 1 } ⟨16, a, b, c, d⟩) := by
    rw [HRR.out]
    unfold costF
    rw [if_neg (by simp [HFIT.out])]
    rw [if_neg (by show ¬ (16 : Int) = 8; decide)]
    rw [if_neg (by show ¬ (16 : Int) = 12; decide)]
    rw [if_neg (by show ¬ (16 : Int) = 13; decide)]
    rw [if_neg (by show ¬ (16 : Int) = 15; decide)]
    rw [if_neg (by show ¬ (16 : Int) = 17; decide)]
    rw [if_pos rfl]
    rw [show (1 + 4 * s.signs.length) = cs by rw [HCS.out, HNG.out.1]]
  by_cases hltf : fuel - (s.used : Int) < ((cs : Nat) : Int)
  · rw [if_pos hltf] at hrp
    subst hrp
    go_wp2_with fail
    refine (pay_no B g w0 _ prg room fuel s vs vp vg vt cs X4.out hu hfu (by omega)).mono ?_
    rintro e w5 ⟨rfl, hx5⟩
    have X5 := Lib.hid (X4.out.call hx5)
    clear hx5
    go_wp2_with fail
    go_returns
    exact ⟨by first | rfl | simp, vs, vp, vg, vt, X5.out⟩
  · rw [if_neg hltf] at hrp
    go_wp2_with fail
    refine (pay_yes B g w0 _ prg room fuel s vs vp vg vt cs X4.out hu hfu (by omega)).mono ?_
    rintro e w5 ⟨rfl, hx5, hfar⟩
    have hne : ib ≠ g := fun e9 => by
      have h1 := I4.out
      have h2 := X4.out.box
      rw [e9] at h1
      unfold Blk at h1 h2
      rw [h1] at h2
      injection (Option.some.inj h2) with e1 e2
      exact absurd e2 (by decide)
    have I5 := Lib.hid (show Blk w5 ib 40 _ from (hfar ib hne).trans I4.out)
    have hpc5 := hx5.cells.pc
    have hfr5 := hx5.cells.fr 25
    simp only [HPC.out] at hpc5
    have hx6 := hx5.setPc ((k : Int) + 1)
    have hi6 : Blk (w5.setCell ⟨g, 25, none⟩ (.int .i64 ((k : Int) + 1))) ib 40 [.int .i64 16, .int .i64 a, .int .i64 b, .int .i64 c, .int .i64 d] := I5.out.same (Below.heap_setCell _ _ _ ib hne)
    have X6 := Lib.hid hx6
    clear hx5 hfar j0 j1 j2 j3 j4 hx6
    have j0 := hi6.cell 0
    have j1 := hi6.cell 1
    have j2 := hi6.cell 2
    have j3 := hi6.cell 3
    have j4 := hi6.cell 4
    simp only [List.getElem?_cons_zero, List.getElem?_cons_succ] at j0 j1 j2 j3 j4
    clear hi6
    have hD := HD0.out _ (by rw [HPC.out]; exact X6.out)
    unfold insV at hD
    simp only at hD
    rw [← hrp] at hD
    have HD' := Lib.hid hD
    clear hD hrp hltf
    go_wp2_with fail
    refine HD'.out.mono ?_
    rintro e w7 ⟨rfl, h7⟩
    have H7 := Lib.hid h7
    clear h7
    go_wp2_with fail
    go_returns
    exact ⟨by first | rfl | simp, H7.out⟩
end Go.Proofs.Ytgejpggbmgiocaa
