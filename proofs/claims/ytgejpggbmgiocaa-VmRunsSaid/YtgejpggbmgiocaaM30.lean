/- RF6, Step5 of this seat, in one text. -/
import Derived.Test.YtgejpggbmgiocaaM27
import Derived.Test.YtgejpggbmgiocaaM29
import Derived.Test.YtgejpggbmgiocaaM26
import Derived.Deep.RegionWith
/- What the reference holds for a fault. -/
namespace Go.Proofs.Ytgejpggbmgiocaa
open Go.RowKit
attribute [local go_sem ↓] store_tab
set_option maxRecDepth 100000 in
set_option maxHeartbeats 4000000 in
theorem rf_8 (B g gr gk : Nat) (w0 W : World) (prg : List Value) (room fuel : Int) (s : St) (vs vp vg vt : Value) (ka kb : Nat) (hka : ka < 8) (hkb : kb < 8) (c d : Int) (ha : isReg (ka : Int) = true) (hb : isReg (kb : Int) = true) (p : Prog) (ht : TabsIn w0 B prg p.tabs) (h : RR B g gr gk w0 W prg room fuel s vs vp vg vt) :
    Calls Try.prog 33 #[.pointer (some ⟨g, 0, none⟩), .agg #[.int .i64 8, .int .i64 (ka : Int), .int .i64 (kb : Int), .int .i64 c, .int .i64 d]] W (FRes B g gr gk w0 W prg room fuel s vs vp vg vt (decide (cellF p s ⟨8, (ka : Int), (kb : Int), c, d⟩ = none))) := by
  have H1 := Lib.hid (h.alloc (.cells #[.int .i64 8, .int .i64 (ka : Int), .int .i64 (kb : Int), .int .i64 c, .int .i64 d] 40))
  have hlt := h.lt
  have HB := Lib.hid ((Below.refl W.heap.size W).alloc (Nat.le_refl _) (.cells #[.int .i64 8, .int .i64 (ka : Int), .int .i64 (kb : Int), .int .i64 c, .int .i64 d] 40))
  have HRA := Lib.hid (fun v W => rreg_any v (ka : Int) W)
  rw [ha] at HRA
  have HRB := Lib.hid (fun v W => rreg_any v (kb : Int) W)
  rw [hb] at HRB
  have c0 := H1.out.cells.vr
  have c1 := H1.out.cells.reg ka hka
  have n1 : decide ((ka : Int) < 0) = false := by simp
  have n2 : decide ((8 : Int) ≤ (ka : Int)) = false := by simp; omega
  have n4 : decide (ka < 8) = true := by simpa using hka
  have n5 : ¬ 8 ≤ ka := by omega
  have n6 : (ka : Int) < 8 := by omega
  have p1 : decide ((kb : Int) < 0) = false := by simp
  have p2 : decide ((8 : Int) ≤ (kb : Int)) = false := by simp; omega
  have p4 : decide (kb < 8) = true := by simpa using hkb
  have p5 : ¬ 8 ≤ kb := by omega
  have p6 : (kb : Int) < 8 := by omega
  have hle1 := ht.le
  obtain ⟨rr, hrr⟩ : ∃ r, r = decide (cellF p s ⟨8, (ka : Int), (kb : Int), c, d⟩ = none) := ⟨_, rfl⟩
  rw [← hrr]
  unfold cellF at hrr
  have hra : s.reg (ka : Int) = s.regs.getD ka 0 := rfl
  have hrb : s.reg (kb : Int) = s.regs.getD kb 0 := rfl
  simp only [hra, hrb] at hrr
  obtain ⟨ra, hra2⟩ : ∃ x, x = s.regs.getD ka 0 := ⟨_, rfl⟩
  obtain ⟨rb, hrb2⟩ : ∃ x, x = s.regs.getD kb 0 := ⟨_, rfl⟩
  rw [← hra2] at hrr c1
  rw [← hrb2] at hrr
  have HRV := Lib.hid (And.intro hra2 hrb2)
  have HT := Lib.hid ht
  have HRR := Lib.hid hrr
  clear h ha hb hra hrb hra2 hrb2 hrr ht
  go_enter Try.func33, Try.ntmps33
  go_wp2_with (first | (go_at_call_of 44 (Value.int IntKind.i64 (ka : Int)); refine (HRA.out _ _).mono ?_; rintro e w' ⟨rfl, rfl⟩) | (go_at_call_of 44 (Value.int IntKind.i64 (kb : Int)); refine (HRB.out _ _).mono ?_; rintro e w' ⟨rfl, rfl⟩))
  go_quiet (fail)
  have H2 := Lib.hid (H1.out.drewN nq)
  have I2 := Lib.hid ((Blk.new W 40 [.int .i64 8, .int .i64 (ka : Int), .int .i64 (kb : Int), .int .i64 c, .int .i64 d]).drewN nq)
  have HB2 := Lib.hid (below_drewN HB.out nq)
  clear c0 c1 H1 HB
  obtain ⟨ib, hib⟩ : ∃ ib, ib = W.heap.size := ⟨_, rfl⟩
  rw [← hib] at I2 ⊢
  generalize (W.alloc (.cells #[.int .i64 8, .int .i64 (ka : Int), .int .i64 (kb : Int), .int .i64 c, .int .i64 d] 40)).drewN nq = W2 at H2 I2 HB2 ⊢
  have HIB := Lib.hid hib
  clear hib hlt
  have hlt2 := H2.out.lt
  have hil := I2.out.lt
  have c0 := H2.out.cells.vr
  have ca := H2.out.cells.reg ka hka
  have cb := H2.out.cells.reg kb hkb
  rw [← HRV.out.1] at ca
  rw [← HRV.out.2] at cb
  have c5 := H2.out.cells.p 5 (by omega)
  have j0 := I2.out.cell 0
  have j1 := I2.out.cell 1
  have j2 := I2.out.cell 2
  have j4 := I2.out.cell 4
  simp only [List.getElem?_cons_zero, List.getElem?_cons_succ] at j0 j1 j2 j4
  by_cases h1 : d < 0
  · have hq : rr = true := by rw [HRR.out, if_pos (Or.inl h1)]; simp
    subst hq
    have e1 : decide (d < 0) = true := by simp; omega
    obtain ⟨A, ct, DA, dc, h5, -, -⟩ := HT.out.arr
    rw [h5] at c5
    clear h5 ca cb h1
    go_wp2_with fail
    go_quiet (fail)
    go_wp2_with fail
    go_returns
    exact ⟨by first | rfl | simp, H2.out.drewN _, below_drewN HB2.out _⟩
  have e1 : decide (d < 0) = false := by simp; omega
  by_cases h2 : (p.tabs.length : Int) ≤ d
  · have hq : rr = true := by rw [HRR.out, if_pos (Or.inr h2)]; simp
    subst hq
    have e2 : decide ((p.tabs.length : Int) ≤ d) = true := by simp; omega
    obtain ⟨A, ct, DA, dc, h5, -, -⟩ := HT.out.arr
    rw [h5] at c5
    obtain ⟨nt, hnt⟩ : ∃ n, n = p.tabs.length := ⟨_, rfl⟩
    rw [← hnt] at c5 e2 hle1
    clear h5 ca cb h1 h2 hnt
    go_wp2_with fail
    go_quiet (fail)
    go_wp2_with fail
    go_returns
    exact ⟨by first | rfl | simp, H2.out.drewN _, below_drewN HB2.out _⟩
  have hr := HRR.out
  rw [if_neg (by omega)] at hr
  obtain ⟨kd, rfl⟩ := Int.eq_ofNat_of_zero_le (a := d) (by omega)
  simp only [Int.toNat_natCast] at hr
  have hd : kd < p.tabs.length := by omega
  obtain ⟨bt, ot, ct, DA, dc, h5, t0, t1, harr⟩ := HT.out.at H2.out.below hd
  rw [h5] at c5
  have hle2 := HT.out.led kd hd
  have e2 : decide ((p.tabs.length : Int) ≤ (kd : Int)) = false := by simp; omega
  have e2' : decide (p.tabs.length ≤ kd) = false := by simp; omega
  obtain ⟨nt, hnt⟩ : ∃ n, n = p.tabs.length := ⟨_, rfl⟩
  rw [← hnt] at c5 hd hle1 e2 e2'
  obtain ⟨T, hT⟩ : ∃ T, T = p.tabs.getD kd noTbl := ⟨_, rfl⟩
  rw [← hT] at hr t0 t1 hle2
  obtain ⟨nd, hnd⟩ : ∃ n, n = T.data.length := ⟨_, rfl⟩
  rw [← hnd] at hr t1 hle2
  obtain ⟨co, hco⟩ : ∃ n, n = T.cols := ⟨_, rfl⟩
  rw [← hco] at hr t0
  have i1 : (kd : Int) < (nt : Int) := by omega
  have HR := Lib.hid hr
  clear hnt hT hnd hco harr h5 h1 h2 HRR hr
  by_cases h3 : co < 1
  · have hq : rr = true := by rw [HR.out, if_pos h3]; simp
    subst hq
    have e3 : decide (co < 1) = true := by simp; omega
    clear ca cb h3
    go_wp2_with fail
    go_quiet (fail)
    go_wp2_with fail
    go_returns
    exact ⟨by first | rfl | simp, H2.out.drewN _, below_drewN HB2.out _⟩
  have e3 : decide (co < 1) = false := by simp; omega
  have hr2 := HR.out
  rw [if_neg h3] at hr2
  have a1 := fun n o => cell_al (W := W2.drewN n) t0 o
  have a2 := fun n o => cell_al (W := W2.drewN n) t1 o
  have a3 := fun n o => cell_al (W := W2.drewN n) (a := ⟨ib, 4, none⟩) j4 o
  have a4 := fun n o => cell_al (W := W2.drewN n) (a := ⟨g, 5, none⟩) c5 o
  have hst : ∀ n, (storeTab (.pointer (some ⟨W2.heap.size, 0, none⟩)) (.agg #[.int .i64 co, .slice DA nd dc])).run Try.prog ((W2.drewN n).alloc (.cells #[.int .i64 0, .slice none 0 0] 89)) = .ok () ((W2.drewN n).alloc (.cells #[.int .i64 co, .slice DA nd dc] 89)) := fun n => tab_store (W2.drewN n) _ rfl _ _ _ _ rfl rfl
  have hqw0 : wrap64 ((nd : Int) / co) = (nd : Int) / co := by
    have k1 : (nd : Int) / co ≤ (nd : Int) := Int.ediv_le_self _ (by omega)
    have k2 : 0 ≤ (nd : Int) / co := Int.ediv_nonneg (by omega) (by omega)
    generalize (nd : Int) / co = z at k1 k2 ⊢
    exact IntWalk.wrap64_in _ (by omega)
  have hco0 : (co == 0) = false := by simp; omega
  have hco1 : co ≠ 0 := by omega
  obtain ⟨qt, hqt⟩ : ∃ x, x = (nd : Int) / co := ⟨_, rfl⟩
  rw [← hqt] at hr2
  have hqw : wrap64 ((nd : Int) / co) = qt := hqw0.trans hqt.symm
  have HR2 := Lib.hid hr2
  have HQW := Lib.hid hqw
  have HCO := Lib.hid (And.intro hco0 hco1)
  clear hr2 HR hqt hqw0 hqw hco0 hco1 h3
  go_wp2_with fail
  go_quiet (fail)
  go_wp2_with fail
  go_region
  have hI : Blk ((W2.drewN (nq + 1)).alloc (.cells #[.int .i64 co, .slice DA nd dc] 89)) W2.heap.size 89 [.int .i64 co, .slice DA nd dc] := Blk.new (W2.drewN (nq + 1)) 89 [.int .i64 co, .slice DA nd dc]
  have hJ := (I2.out.drewN (nq + 1)).alloc (.cells #[.int .i64 co, .slice DA nd dc] 89)
  have hX := (H2.out.drewN (nq + 1)).alloc (.cells #[.int .i64 co, .slice DA nd dc] 89)
  have hL := (below_drewN HB2.out (nq + 1)).alloc HB2.out.size (.cells #[.int .i64 co, .slice DA nd dc] 89)
  have hwl : W2.heap.size < ((W2.drewN (nq + 1)).alloc (.cells #[.int .i64 co, .slice DA nd dc] 89)).heap.size := hI.lt
  obtain ⟨it, hit⟩ : ∃ it, it = W2.heap.size := ⟨_, rfl⟩
  rw [← hit] at hI ⊢
  clear hst a1 a2 a3 a4 t0 t1 ca cb c0 c5 j0 j1 j2 j4 hwl
  generalize (W2.drewN (nq + 1)).alloc (.cells #[.int .i64 co, .slice DA nd dc] 89) = w3 at hI hJ hX hL ⊢
  clear hit hlt2 hil
  have X3 := Lib.hid hX
  have L3 := Lib.hid hL
  have ca := hX.cells.reg ka hka
  have cb := hX.cells.reg kb hkb
  have c0 := hX.cells.vr
  rw [← HRV.out.1] at ca
  rw [← HRV.out.2] at cb
  obtain ⟨j1, j2, u0, u1⟩ : w3.cell? ⟨ib, 1, none⟩ = some (.int .i64 (ka : Int)) ∧ w3.cell? ⟨ib, 2, none⟩ = some (.int .i64 (kb : Int)) ∧ w3.cell? ⟨it, 0, none⟩ = some (.int .i64 co) ∧ w3.cell? ⟨it, 1, none⟩ = some (.slice DA nd dc) :=
    ⟨by rw [hJ.cell]; rfl, by rw [hJ.cell]; rfl, by rw [hI.cell]; rfl, by rw [hI.cell]; rfl⟩
  clear hI hJ hX hL
  have hqw := HQW.out
  have hco0 := HCO.out.1
  have hco1 := HCO.out.2
  by_cases b1 : ra < 0
  · have hq : rr = true := by rw [HR2.out, if_pos (Or.inl b1)]; simp
    subst hq
    have d1 : decide (ra < 0) = true := by simp; omega
    have HX := Lib.hid (And.intro b1 hco1)
    clear b1
    go_wp2_with fail
    go_quiet (fail)
    go_wp2_with fail
    all_goals first
      | (exfalso; have h9 := HX.out; omega)
      | (go_returns; exact ⟨by first | rfl | simp, X3.out.drewN _, below_drewN L3.out _⟩)
  have d1 : decide (ra < 0) = false := by simp; omega
  by_cases b2 : qt ≤ ra
  · have hq : rr = true := by rw [HR2.out, if_pos (Or.inr (Or.inl b2))]; simp
    subst hq
    have d2 : decide (qt ≤ ra) = true := by simp; omega
    have HX := Lib.hid (And.intro b1 (And.intro b2 hco1))
    clear b1 b2
    go_wp2_with fail
    go_quiet (fail)
    go_wp2_with fail
    all_goals first
      | (exfalso; have h9 := HX.out; omega)
      | (go_returns; exact ⟨by first | rfl | simp, X3.out.drewN _, below_drewN L3.out _⟩)
  have d2 : decide (qt ≤ ra) = false := by simp; omega
  by_cases b3 : rb < 0
  · have hq : rr = true := by rw [HR2.out, if_pos (Or.inr (Or.inr (Or.inl b3)))]; simp
    subst hq
    have d3 : decide (rb < 0) = true := by simp; omega
    have HX := Lib.hid (And.intro b1 (And.intro b2 (And.intro b3 hco1)))
    clear b1 b2 b3
    go_wp2_with fail
    go_quiet (fail)
    go_wp2_with fail
    all_goals first
      | (exfalso; have h9 := HX.out; omega)
      | (go_returns; exact ⟨by first | rfl | simp, X3.out.drewN _, below_drewN L3.out _⟩)
  have d3 : decide (rb < 0) = false := by simp; omega
  by_cases b4 : co ≤ rb
  · have hq : rr = true := by rw [HR2.out, if_pos (Or.inr (Or.inr (Or.inr b4)))]; simp
    subst hq
    have d4 : decide (co ≤ rb) = true := by simp; omega
    have HX := Lib.hid (And.intro b1 (And.intro b2 (And.intro b3 (And.intro b4 hco1))))
    clear b1 b2 b3 b4
    go_wp2_with fail
    go_quiet (fail)
    go_wp2_with fail
    all_goals first
      | (exfalso; have h9 := HX.out; omega)
      | (go_returns; exact ⟨by first | rfl | simp, X3.out.drewN _, below_drewN L3.out _⟩)
  have d4 : decide (co ≤ rb) = false := by simp; omega
  have hq : rr = false := by rw [HR2.out, if_neg (by omega)]; simp
  subst hq
  have HX := Lib.hid (And.intro b1 (And.intro b2 (And.intro b3 (And.intro b4 hco1))))
  clear b1 b2 b3 b4
  go_wp2_with fail
  go_quiet (fail)
  go_wp2_with fail
  all_goals first
    | (exfalso; have h9 := HX.out; omega)
    | (go_returns; exact ⟨by first | rfl | simp, X3.out.drewN _, below_drewN L3.out _⟩)
end Go.Proofs.Ytgejpggbmgiocaa
/- The step Look. -/
namespace Go.Proofs.Ytgejpggbmgiocaa
open Go.RowKit
attribute [local go_sem ↓] store_ins
set_option maxRecDepth 100000 in
set_option maxHeartbeats 8000000 in
theorem st_8 (B g : Nat) (w0 W : World) (prg : List Value) (room fuel : Int) (s : St) (vs vp vg vt : Value) (mg : List Int → Option (List Int)) (p : Prog) (h : RS B g w0 W prg room fuel s vs vp vg vt) (hc : CodeIn w0 B prg p.code) (hu : (s.used : Int) ≤ fuel) (hfu : fuel ≤ 35184372088832) (k : Nat) (hpc : s.pc = (k : Int)) (hk : k < p.code.length) (i : Ins) (hi : p.code.getD k noIns = i) (hf : fitsF i = true) (ho : i.op = 8) (ht : TabsIn w0 B prg p.tabs)
    (HD : ∀ W', RS B g w0 W' prg room fuel { s with used := s.used + 1, pc := s.pc + 1 } vs vp vg vt → cellF p s i ≠ none → Calls Try.prog 32 #[.pointer (some ⟨g, 0, none⟩), insV i, .int .i64 (((cellF p s i).getD 0 : Nat) : Int), .string ⟨#[]⟩] W' (Res B g w0 prg room fuel (doF mg p room { s with used := s.used + 1, pc := s.pc + 1 } i))) :
    Calls Try.prog 20 #[.pointer (some ⟨g, 0, none⟩)] W (Res B g w0 prg room fuel (stepF mg p room fuel s)) := by
  obtain ⟨r, hr⟩ : ∃ r, r = stepF mg p room fuel s := ⟨_, rfl⟩
  rw [stepF_at mg p room fuel s k hpc hk i hi] at hr
  have H := Lib.hid h
  have c1 := h.cells.pc
  have c2 := h.cells.p 4 (by omega)
  have hle := hc.le
  obtain ⟨b4, o4, c4, h4, hb4, i0, i1, i2, i3', i4⟩ := hc.at h.below hk
  rw [h4] at c2
  rw [hi] at i0 i1 i2 i3' i4
  obtain ⟨op, a, b, c, d⟩ := i
  simp only at i0 i1 i2 i3' i4
  obtain ⟨n4, hn4⟩ : ∃ n4, n4 = p.code.length := ⟨_, rfl⟩
  rw [← hn4] at c2 hk hle
  rw [hpc] at c1
  have hgB := h.gB
  have hlt := h.lt
  have hki : (k : Int) < (n4 : Int) := by omega
  have e1 : decide ((k : Int) < 0) = false := by simp
  have e2 : decide ((n4 : Int) ≤ (k : Int)) = false := by simp; omega
  simp only at ho
  subst ho
  have hst : ∀ n, (storeIns (.pointer (some ⟨W.heap.size, 0, none⟩)) (.agg #[.int .i64 8, .int .i64 a, .int .i64 b, .int .i64 c, .int .i64 d])).run Try.prog ((W.drewN n).alloc (.cells #[.int .i64 0, .int .i64 0, .int .i64 0, .int .i64 0, .int .i64 0] 40)) = .ok () ((W.drewN n).alloc (.cells #[.int .i64 8, .int .i64 a, .int .i64 b, .int .i64 c, .int .i64 d] 40)) := fun n => ins_store (W.drewN n) 8 a b c d
  have e2' : decide (n4 ≤ k) = false := by simp; omega
  have a1 := fun n o => cell_al (W := W.drewN n) c1 o
  have a2 := fun n o => cell_al (W := W.drewN n) c2 o
  have a3 := fun n o => cell_al (W := W.drewN n) i0 o
  have a4 := fun n o => cell_al (W := W.drewN n) i1 o
  have a5 := fun n o => cell_al (W := W.drewN n) i2 o
  have a6 := fun n o => cell_al (W := W.drewN n) i3' o
  have a7 := fun n o => cell_al (W := W.drewN n) i4 o
  have HF := Lib.hid (fun W => fits_any g ⟨8, a, b, c, d⟩ W)
  rw [hf] at HF
  have HFIT := Lib.hid hf
  have hf2 : isReg b = true ∧ isReg a = true := by simpa [fitsF] using hf
  obtain ⟨ka, hka, rfl⟩ := reg_nat hf2.2
  obtain ⟨kb, hkb, rfl⟩ := reg_nat hf2.1
  have HCELL := Lib.hid (fun (W : World) (h : RS B g w0 W prg room fuel s vs vp vg vt) => cell_any B g w0 W prg room fuel s vs vp vg vt 8 c d ka kb hka hkb p ht h)
  clear hf2
  have HRR := Lib.hid hr
  rw [show stepF mg p room fuel s = r by rw [hr, stepF_at mg p room fuel s k hpc (by rw [← hn4]; exact hk) _ hi]]
  have HPC := Lib.hid hpc
  have HD0 := Lib.hid HD
  clear h hc h4 hi hf hr HD hn4
  go_enter Try.func20, Try.ntmps20
  go_wp2_with fail
  go_quiet (fail)
  go_wp2_with fail
  go_region
  have hI : Blk ((W.drewN (nq + 1)).alloc (.cells #[.int .i64 8, .int .i64 (ka : Int), .int .i64 (kb : Int), .int .i64 c, .int .i64 d] 40)) W.heap.size 40 [.int .i64 8, .int .i64 (ka : Int), .int .i64 (kb : Int), .int .i64 c, .int .i64 d] := Blk.new (W.drewN (nq + 1)) 40 [.int .i64 8, .int .i64 (ka : Int), .int .i64 (kb : Int), .int .i64 c, .int .i64 d]
  have hX := (H.out.drewN (nq + 1)).alloc (.cells #[.int .i64 8, .int .i64 (ka : Int), .int .i64 (kb : Int), .int .i64 c, .int .i64 d] 40)
  obtain ⟨ib, hib⟩ : ∃ ib, ib = W.heap.size := ⟨_, rfl⟩
  rw [← hib] at hI ⊢
  generalize (W.drewN (nq + 1)).alloc (.cells #[.int .i64 8, .int .i64 (ka : Int), .int .i64 (kb : Int), .int .i64 c, .int .i64 d] 40) = w3 at hI hX ⊢
  have X3 := Lib.hid hX
  have I3 := Lib.hid hI
  have j0 := hI.cell 0
  have j1 := hI.cell 1
  have j2 := hI.cell 2
  have j3 := hI.cell 3
  have j4 := hI.cell 4
  simp only [List.getElem?_cons_zero, List.getElem?_cons_succ] at j0 j1 j2 j3 j4
  clear hI hX a1 a2 a3 a4 a5 a6 a7 hst i0 i1 i2 i3' i4 c1 c2 hib
  go_wp2_with fail
  refine (HF.out _).mono ?_
  rintro e w4 ⟨rfl, hb4⟩
  have X4 := Lib.hid (X3.out.call hb4)
  have I4 := Lib.hid (I3.out.below hb4 I3.out.lt)
  clear hb4 j0 j1 j2 j3 j4 X3 I3 HF
  have j0 := I4.out.cell 0
  have j1 := I4.out.cell 1
  have j2 := I4.out.cell 2
  have j3 := I4.out.cell 3
  have j4 := I4.out.cell 4
  simp only [List.getElem?_cons_zero, List.getElem?_cons_succ] at j0 j1 j2 j3 j4
  go_wp2_with fail
  refine (HCELL.out _ X4.out).mono ?_
  rintro e w4' ⟨rfl, hx4, hb4⟩
  have X4 := Lib.hid hx4
  have I4 := Lib.hid (I4.out.below hb4 I4.out.lt)
  clear hb4 hx4 j0 j1 j2 j3 j4
  have j0 := I4.out.cell 0
  have j1 := I4.out.cell 1
  have j2 := I4.out.cell 2
  have j3 := I4.out.cell 3
  have j4 := I4.out.cell 4
  simp only [List.getElem?_cons_zero, List.getElem?_cons_succ] at j0 j1 j2 j3 j4
  cases hcc : cellF p s ⟨8, (ka : Int), (kb : Int), c, d⟩ with
  | none =>
    have HCC := Lib.hid hcc
    clear hcc
    unfold cellV
    have hrr : r = (s, some 3) := by
      rw [HRR.out]
      unfold costF
      rw [if_neg (by simp [HFIT.out])]
      rw [if_pos rfl]
      rw [HCC.out, if_pos rfl]
    subst hrr
    go_wp2_with fail
    (try go_quiet (fail))
    (try go_wp2_with fail)
    go_returns
    exact ⟨by first | rfl | simp, vs, vp, vg, vt, (by first | exact X4.out | exact X4.out.drewN _)⟩
  | some cc =>
    have HD0 : Hid (∀ W', RS B g w0 W' prg room fuel { s with used := s.used + 1, pc := s.pc + 1 } vs vp vg vt → Calls Try.prog 32 #[.pointer (some ⟨g, 0, none⟩), insV ⟨8, (ka : Int), (kb : Int), c, d⟩, .int .i64 (cc : Int), .string ⟨#[]⟩] W' (Res B g w0 prg room fuel (doF mg p room { s with used := s.used + 1, pc := s.pc + 1 } ⟨8, (ka : Int), (kb : Int), c, d⟩))) := by
      refine Lib.hid (fun W' h' => ?_)
      have h8 := HD0.out W' h' (by rw [hcc]; simp)
      rw [hcc] at h8
      exact h8
    have HCC := Lib.hid hcc
    clear hcc
    unfold cellV
    have hrp : r = (if fuel - (s.used : Int) < ((1 : Nat) : Int) then (s, some 1) else doF mg p room { s with used := s.used + 1, pc := s.pc + 1 } ⟨8, (ka : Int), (kb : Int), c, d⟩) := by
      rw [HRR.out]
      unfold costF
      rw [if_neg (by simp [HFIT.out])]
      rw [if_pos rfl]
      rw [HCC.out, if_neg (by simp)]
    by_cases hltf : fuel - (s.used : Int) < ((1 : Nat) : Int)
    · rw [if_pos hltf] at hrp
      subst hrp
      go_wp2_with fail
      refine (pay_no B g w0 _ prg room fuel s vs vp vg vt 1 X4.out hu hfu (by omega)).mono ?_
      rintro e w5 ⟨rfl, hx5⟩
      have X5 := Lib.hid (X4.out.call hx5)
      clear hx5
      go_wp2_with fail
      go_returns
      exact ⟨by first | rfl | simp, vs, vp, vg, vt, X5.out⟩
    · rw [if_neg hltf] at hrp
      go_wp2_with fail
      refine (pay_yes B g w0 _ prg room fuel s vs vp vg vt 1 X4.out hu hfu (by omega)).mono ?_
      rintro e w5 ⟨rfl, hx5, hfar⟩
      have hne : ib ≠ g := fun e9 => by
        have h1 := I4.out
        have h2 := X4.out.box
        rw [e9] at h1
        unfold Blk at h1 h2
        rw [h1] at h2
        injection (Option.some.inj h2) with e1 e2
        exact absurd e2 (by decide)
      have I5 := Lib.hid (show Blk w5 ib 40 _ from (hfar ib hne).trans I4.out)
      have hpc5 := hx5.cells.pc
      have hfr5 := hx5.cells.fr 25
      simp only [HPC.out] at hpc5
      have hx6 := hx5.setPc ((k : Int) + 1)
      have hi6 : Blk (w5.setCell ⟨g, 25, none⟩ (.int .i64 ((k : Int) + 1))) ib 40 [.int .i64 8, .int .i64 (ka : Int), .int .i64 (kb : Int), .int .i64 c, .int .i64 d] := I5.out.same (Below.heap_setCell _ _ _ ib hne)
      have X6 := Lib.hid hx6
      clear hx5 hfar j0 j1 j2 j3 j4 hx6
      have j0 := hi6.cell 0
      have j1 := hi6.cell 1
      have j2 := hi6.cell 2
      have j3 := hi6.cell 3
      have j4 := hi6.cell 4
      simp only [List.getElem?_cons_zero, List.getElem?_cons_succ] at j0 j1 j2 j3 j4
      clear hi6
      have hD := HD0.out _ (by rw [HPC.out]; exact X6.out)
      unfold insV at hD
      simp only at hD
      rw [← hrp] at hD
      have HD' := Lib.hid hD
      clear hD hrp hltf
      go_wp2_with fail
      refine HD'.out.mono ?_
      rintro e w7 ⟨rfl, h7⟩
      have H7 := Lib.hid h7
      clear h7
      go_wp2_with fail
      go_returns
      exact ⟨by first | rfl | simp, H7.out⟩
end Go.Proofs.Ytgejpggbmgiocaa
