/- Steps of instructions that have a test of their own: Copy, Sign, Join. -/
import Derived.Test.YtgejpggbmgiocaaSteps
import Derived.Test.YtgejpggbmgiocaaJoin
namespace Go.Proofs.Ytgejpggbmgiocaa
open Go.RowKit
attribute [local go_sem ↓] store_ins
theorem cost_any (n : Nat) (w : World) (h : n ≤ 262144) : Calls Try.prog 30 #[.int .i64 (n : Int)] w fun e w' => e = .returned (.int .i64 ((1 + 4 * n : Nat) : Int)) ∧ w' = w := by
  have d1 : decide ((262144 : Int) < (n : Int)) = false := by simp; omega
  have e9 : ((1 + 4 * n : Nat) : Int) = 1 + 4 * (n : Int) := by omega
  rw [e9]
  clear e9
  go_enter Try.func30, Try.ntmps30
  go_wp2_with fail
  go_returns
  exact ⟨by first | rfl | simp, rfl⟩
set_option maxRecDepth 100000 in
set_option maxHeartbeats 8000000 in
theorem st_12 (B g : Nat) (w0 W : World) (prg : List Value) (room fuel : Int) (s : St) (vs vp vg vt : Value) (mg : List Int → Option (List Int)) (p : Prog) (h : RS B g w0 W prg room fuel s vs vp vg vt) (hc : CodeIn w0 B prg p.code) (hu : (s.used : Int) ≤ fuel) (hfu : fuel ≤ 35184372088832) (k : Nat) (hpc : s.pc = (k : Int)) (hk : k < p.code.length) (i : Ins) (hi : p.code.getD k noIns = i) (hf : fitsF i = true) (ho : i.op = 12) 
    (HD : ∀ W', RS B g w0 W' prg room fuel { s with used := s.used + 1, pc := s.pc + 1 } vs vp vg vt → isB (s.reg i.a) = true → Calls Try.prog 32 #[.pointer (some ⟨g, 0, none⟩), insV i, .int .i64 0, .string ⟨#[]⟩] W' (Res B g w0 prg room fuel (doF mg p room { s with used := s.used + 1, pc := s.pc + 1 } i))) :
    Calls Try.prog 20 #[.pointer (some ⟨g, 0, none⟩)] W (Res B g w0 prg room fuel (stepF mg p room fuel s)) := by
  obtain ⟨r, hr⟩ : ∃ r, r = stepF mg p room fuel s := ⟨_, rfl⟩
  rw [stepF_at mg p room fuel s k hpc hk i hi] at hr
  have H := Lib.hid h
  have c1 := h.cells.pc
  have c2 := h.cells.p 4 (by omega)
  have hle := hc.le
  obtain ⟨b4, o4, c4, h4, hb4, i0, i1, i2, i3', i4⟩ := hc.at h.below hk
  rw [h4] at c2
  rw [hi] at i0 i1 i2 i3' i4
  obtain ⟨op, a, b, c, d⟩ := i
  simp only at i0 i1 i2 i3' i4
  obtain ⟨n4, hn4⟩ : ∃ n4, n4 = p.code.length := ⟨_, rfl⟩
  rw [← hn4] at c2 hk hle
  rw [hpc] at c1
  have hgB := h.gB
  have hlt := h.lt
  have hki : (k : Int) < (n4 : Int) := by omega
  have e1 : decide ((k : Int) < 0) = false := by simp
  have e2 : decide ((n4 : Int) ≤ (k : Int)) = false := by simp; omega
  simp only at ho
  subst ho
  have hst : ∀ n, (storeIns (.pointer (some ⟨W.heap.size, 0, none⟩)) (.agg #[.int .i64 12, .int .i64 a, .int .i64 b, .int .i64 c, .int .i64 d])).run Try.prog ((W.drewN n).alloc (.cells #[.int .i64 0, .int .i64 0, .int .i64 0, .int .i64 0, .int .i64 0] 40)) = .ok () ((W.drewN n).alloc (.cells #[.int .i64 12, .int .i64 a, .int .i64 b, .int .i64 c, .int .i64 d] 40)) := fun n => ins_store (W.drewN n) 12 a b c d
  have e2' : decide (n4 ≤ k) = false := by simp; omega
  have a1 := fun n o => cell_al (W := W.drewN n) c1 o
  have a2 := fun n o => cell_al (W := W.drewN n) c2 o
  have a3 := fun n o => cell_al (W := W.drewN n) i0 o
  have a4 := fun n o => cell_al (W := W.drewN n) i1 o
  have a5 := fun n o => cell_al (W := W.drewN n) i2 o
  have a6 := fun n o => cell_al (W := W.drewN n) i3' o
  have a7 := fun n o => cell_al (W := W.drewN n) i4 o
  have HF := Lib.hid (fun W => fits_any g ⟨12, a, b, c, d⟩ W)
  rw [hf] at HF
  have HFIT := Lib.hid hf
  have hf2 : isReg a = true := by simpa [fitsF] using hf
  obtain ⟨ka, hka, rfl⟩ := reg_nat hf2
  have HREG : s.reg (ka : Int) = s.regs.getD ka 0 := rfl
  have HRR := Lib.hid hr
  rw [show stepF mg p room fuel s = r by rw [hr, stepF_at mg p room fuel s k hpc (by rw [← hn4]; exact hk) _ hi]]
  have HPC := Lib.hid hpc
  have HD0 := Lib.hid HD
  clear h hc h4 hi hf hr HD hn4
  go_enter Try.func20, Try.ntmps20
  go_wp2_with fail
  go_quiet (fail)
  go_wp2_with fail
  go_region
  have hI : Blk ((W.drewN (nq + 1)).alloc (.cells #[.int .i64 12, .int .i64 (ka : Int), .int .i64 b, .int .i64 c, .int .i64 d] 40)) W.heap.size 40 [.int .i64 12, .int .i64 (ka : Int), .int .i64 b, .int .i64 c, .int .i64 d] := Blk.new (W.drewN (nq + 1)) 40 [.int .i64 12, .int .i64 (ka : Int), .int .i64 b, .int .i64 c, .int .i64 d]
  have hX := (H.out.drewN (nq + 1)).alloc (.cells #[.int .i64 12, .int .i64 (ka : Int), .int .i64 b, .int .i64 c, .int .i64 d] 40)
  obtain ⟨ib, hib⟩ : ∃ ib, ib = W.heap.size := ⟨_, rfl⟩
  rw [← hib] at hI ⊢
  generalize (W.drewN (nq + 1)).alloc (.cells #[.int .i64 12, .int .i64 (ka : Int), .int .i64 b, .int .i64 c, .int .i64 d] 40) = w3 at hI hX ⊢
  have X3 := Lib.hid hX
  have I3 := Lib.hid hI
  have j0 := hI.cell 0
  have j1 := hI.cell 1
  have j2 := hI.cell 2
  have j3 := hI.cell 3
  have j4 := hI.cell 4
  simp only [List.getElem?_cons_zero, List.getElem?_cons_succ] at j0 j1 j2 j3 j4
  clear hI hX a1 a2 a3 a4 a5 a6 a7 hst i0 i1 i2 i3' i4 c1 c2 hib
  go_wp2_with fail
  refine (HF.out _).mono ?_
  rintro e w4 ⟨rfl, hb4⟩
  have X4 := Lib.hid (X3.out.call hb4)
  have I4 := Lib.hid (I3.out.below hb4 I3.out.lt)
  clear hb4 j0 j1 j2 j3 j4 X3 I3 HF
  have j0 := I4.out.cell 0
  have j1 := I4.out.cell 1
  have j2 := I4.out.cell 2
  have j3 := I4.out.cell 3
  have j4 := I4.out.cell 4
  simp only [List.getElem?_cons_zero, List.getElem?_cons_succ] at j0 j1 j2 j3 j4
  obtain ⟨rv, hrv⟩ : ∃ x, x = s.regs.getD ka 0 := ⟨_, rfl⟩
  have v1 := X4.out.cells.reg ka hka
  rw [← hrv] at v1
  rw [← hrv] at HREG
  have HRV := Lib.hid hrv
  clear hrv
  have HIB := Lib.hid (fun w => isByte_any rv w)
  obtain ⟨bb, hbb⟩ : ∃ x, x = isB rv := ⟨_, rfl⟩
  rw [← hbb] at HIB
  have HBB := Lib.hid hbb
  clear hbb
  cases bb with
  | false =>
    go_wp2_with fail
    go_quiet ((go_at_call 29; exact Calls.quiet_of_same (HIB.out _)))
    have hrr : r = (s, some 3) := by
      rw [HRR.out]
      unfold costF
      rw [if_neg (by simp [HFIT.out])]
      rw [if_neg (by show ¬ (12 : Int) = 8; decide)]
      rw [if_pos rfl]
      rw [HREG, ← HBB.out, if_pos rfl]
    subst hrr
    go_wp2_with fail
    (try go_quiet (fail))
    (try go_wp2_with fail)
    go_returns
    exact ⟨by first | rfl | simp, vs, vp, vg, vt, (by first | exact X4.out | exact X4.out.drewN _)⟩
  | true =>
    obtain ⟨Ap, cp, hvp⟩ := own_sl X4.out.put
    obtain ⟨np, hnp⟩ : ∃ n, n = s.put.length := ⟨_, rfl⟩
    have v2 := X4.out.cells.vp
    rw [← hnp] at hvp
    rw [hvp] at v2
    have HNP := Lib.hid (And.intro hnp hvp)
    clear hnp hvp
    by_cases hfull : 262144 ≤ np
    · have d9 : decide ((262144 : Int) ≤ (np : Int)) = true := by simp; omega
      have HFULL := Lib.hid hfull
      clear hfull
      go_wp2_with fail
      go_quiet ((go_at_call 29; exact Calls.quiet_of_same (HIB.out _)))
      have hrr : r = (s, some 1) := by
        rw [HRR.out]
        unfold costF
        rw [if_neg (by simp [HFIT.out])]
        rw [if_neg (by show ¬ (12 : Int) = 8; decide)]
        rw [if_pos rfl]
        rw [HREG, ← HBB.out, if_neg (by simp), if_pos (by rw [← HNP.out.1]; exact HFULL.out)]
      subst hrr
      go_wp2_with fail
      (try go_quiet (fail))
      (try go_wp2_with fail)
      go_returns
      exact ⟨by first | rfl | simp, vs, vp, vg, vt, (by first | exact X4.out | exact X4.out.drewN _)⟩
    · have d9 : decide ((262144 : Int) ≤ (np : Int)) = false := by simp; omega
      have HFULL := Lib.hid hfull
      clear hfull
      go_wp2_with fail
      go_quiet ((go_at_call 29; exact Calls.quiet_of_same (HIB.out _)))
      have X4 := Lib.hid (X4.out.drewN nq)
      have I4 := Lib.hid (I4.out.drewN nq)
      clear v1 v2 j0 j1 j2 j3 j4
      generalize w4.drewN nq = w9 at X4 I4 ⊢
      have j0 := I4.out.cell 0
      have j1 := I4.out.cell 1
      have j2 := I4.out.cell 2
      have j3 := I4.out.cell 3
      have j4 := I4.out.cell 4
      simp only [List.getElem?_cons_zero, List.getElem?_cons_succ] at j0 j1 j2 j3 j4
      have v2 := X4.out.cells.vp
      rw [HNP.out.2] at v2
      have hrp : r = (if fuel - (s.used : Int) < ((1 : Nat) : Int) then (s, some 1) else doF mg p room { s with used := s.used + 1, pc := s.pc + 1 } ⟨12, (ka : Int), b, c, d⟩) := by
        rw [HRR.out]
        unfold costF
        rw [if_neg (by simp [HFIT.out])]
        rw [if_neg (by show ¬ (12 : Int) = 8; decide)]
        rw [if_pos rfl]
        rw [HREG, ← HBB.out, if_neg (by simp), if_neg (by rw [← HNP.out.1]; exact HFULL.out)]
      by_cases hltf : fuel - (s.used : Int) < ((1 : Nat) : Int)
      · rw [if_pos hltf] at hrp
        subst hrp
        go_wp2_with fail
        refine (pay_no B g w0 _ prg room fuel s vs vp vg vt 1 X4.out hu hfu (by omega)).mono ?_
        rintro e w5 ⟨rfl, hx5⟩
        have X5 := Lib.hid (X4.out.call hx5)
        clear hx5
        go_wp2_with fail
        go_returns
        exact ⟨by first | rfl | simp, vs, vp, vg, vt, X5.out⟩
      · rw [if_neg hltf] at hrp
        go_wp2_with fail
        refine (pay_yes B g w0 _ prg room fuel s vs vp vg vt 1 X4.out hu hfu (by omega)).mono ?_
        rintro e w5 ⟨rfl, hx5, hfar⟩
        have hne : ib ≠ g := fun e9 => by
          have h1 := I4.out
          have h2 := X4.out.box
          rw [e9] at h1
          unfold Blk at h1 h2
          rw [h1] at h2
          injection (Option.some.inj h2) with e1 e2
          exact absurd e2 (by decide)
        have I5 := Lib.hid (show Blk w5 ib 40 _ from (hfar ib hne).trans I4.out)
        have hpc5 := hx5.cells.pc
        have hfr5 := hx5.cells.fr 25
        simp only [HPC.out] at hpc5
        have hx6 := hx5.setPc ((k : Int) + 1)
        have hi6 : Blk (w5.setCell ⟨g, 25, none⟩ (.int .i64 ((k : Int) + 1))) ib 40 [.int .i64 12, .int .i64 (ka : Int), .int .i64 b, .int .i64 c, .int .i64 d] := I5.out.same (Below.heap_setCell _ _ _ ib hne)
        have X6 := Lib.hid hx6
        clear hx5 hfar j0 j1 j2 j3 j4 hx6
        have j0 := hi6.cell 0
        have j1 := hi6.cell 1
        have j2 := hi6.cell 2
        have j3 := hi6.cell 3
        have j4 := hi6.cell 4
        simp only [List.getElem?_cons_zero, List.getElem?_cons_succ] at j0 j1 j2 j3 j4
        clear hi6
        have hD := HD0.out _ (by rw [HPC.out]; exact X6.out) (by show isB (s.regs.getD ka 0) = true; rw [← HRV.out]; exact HBB.out.symm)
        unfold insV at hD
        simp only at hD
        rw [← hrp] at hD
        have HD' := Lib.hid hD
        clear hD hrp hltf
        go_wp2_with fail
        refine HD'.out.mono ?_
        rintro e w7 ⟨rfl, h7⟩
        have H7 := Lib.hid h7
        clear h7
        go_wp2_with fail
        go_returns
        exact ⟨by first | rfl | simp, H7.out⟩
end Go.Proofs.Ytgejpggbmgiocaa
