/- RS7, RS8 of this seat, in one text. -/
import Derived.Test.YtgejpggbmgiocaaM35
import Derived.Test.YtgejpggbmgiocaaM38
/- The reference steps: a text. -/
namespace Go.Proofs.Ytgejpggbmgiocaa
open Go.RowKit
attribute [local go_sem ↓] store_ins
set_option maxRecDepth 100000 in
set_option maxHeartbeats 8000000 in
theorem rst_13 (B g gr gk : Nat) (w0 W : World) (prg : List Value) (room fuel : Int) (s : St) (vs vp vg vt : Value) (mg : List Int → Option (List Int)) (p : Prog) (h : RR B g gr gk w0 W prg room fuel s vs vp vg vt) (hc : CodeIn w0 B prg p.code) (k : Nat) (hpc : s.pc = (k : Int)) (hk : k < p.code.length) (i : Ins) (hi : p.code.getD k noIns = i) (ho : i.op = 13) (ht : TextsIn w0 B prg p.texts) (htl : ∀ k, (p.texts.getD k ⟨#[]⟩).size ≤ 140737488351232) (hf : fitsF i = true) (hok : textOk p s i) (hrg : RegB s) (hpl : s.put.length ≤ 262144) (hfull : ¬ 262144 < s.put.length + (textF p s i).length)
    (HF : ∀ W', RR B g gr gk w0 W' prg room fuel s vs vp vg vt → Calls Try.prog 33 #[.pointer (some ⟨g, 0, none⟩), insV i] W' (FRes B g gr gk w0 W' prg room fuel s vs vp vg vt false)) 
    (HD : ∀ W', RR B g gr gk w0 W' prg room fuel { s with used := s.used + (1 + (textF p s i).length), pc := s.pc + 1 } vs vp vg vt → Calls Try.prog 35 #[.pointer (some ⟨g, 0, none⟩), insV i] W' (ResR B g gr w0 prg room fuel (doF mg p room { s with used := s.used + (1 + (textF p s i).length), pc := s.pc + 1 } i))) (hu : (s.used : Int) ≤ fuel) (hfu : fuel ≤ 35184372088832) :
    Calls Try.prog 22 #[.pointer (some ⟨g, 0, none⟩)] W (ResR B g gr w0 prg room fuel (if fuel - (s.used : Int) < (((1 + (textF p s i).length) : Nat) : Int) then (s, some 1) else doF mg p room { s with used := s.used + (1 + (textF p s i).length), pc := s.pc + 1 } i)) := by
  have H := Lib.hid h
  have c1 := h.cells.pc
  have c2 := h.cells.p 4 (by omega)
  have hle := hc.le
  obtain ⟨b4, o4, c4, h4, hb4, i0, i1, i2, i3', i4⟩ := hc.at h.below hk
  rw [h4] at c2
  rw [hi] at i0 i1 i2 i3' i4
  obtain ⟨op, a, b, c, d⟩ := i
  simp only at i0 i1 i2 i3' i4
  obtain ⟨n4, hn4⟩ : ∃ n4, n4 = p.code.length := ⟨_, rfl⟩
  rw [← hn4] at c2 hk hle
  rw [hpc] at c1
  have hlt := h.lt
  have hki : (k : Int) < (n4 : Int) := by omega
  have e1 : decide ((k : Int) < 0) = false := by simp
  have e2 : decide ((n4 : Int) ≤ (k : Int)) = false := by simp; omega
  have e2' : decide (n4 ≤ k) = false := by simp; omega
  simp only at ho
  subst ho
  have hst : ∀ n, (storeIns (.pointer (some ⟨W.heap.size, 0, none⟩)) (.agg #[.int .i64 13, .int .i64 a, .int .i64 b, .int .i64 c, .int .i64 d])).run Try.prog ((W.drewN n).alloc (.cells #[.int .i64 0, .int .i64 0, .int .i64 0, .int .i64 0, .int .i64 0] 40)) = .ok () ((W.drewN n).alloc (.cells #[.int .i64 13, .int .i64 a, .int .i64 b, .int .i64 c, .int .i64 d] 40)) := fun n => ins_store (W.drewN n) 13 a b c d
  have a1 := fun n o => cell_al (W := W.drewN n) c1 o
  have a2 := fun n o => cell_al (W := W.drewN n) c2 o
  have a3 := fun n o => cell_al (W := W.drewN n) i0 o
  have a4 := fun n o => cell_al (W := W.drewN n) i1 o
  have a5 := fun n o => cell_al (W := W.drewN n) i2 o
  have a6 := fun n o => cell_al (W := W.drewN n) i3' o
  have a7 := fun n o => cell_al (W := W.drewN n) i4 o
  have HPC := Lib.hid hpc
  unfold insV at HF
  simp only at HF
  have HF0 := Lib.hid HF
  obtain ⟨r, hr⟩ : ∃ r, r = (if fuel - (s.used : Int) < (((1 + (textF p s ⟨13, a, b, c, d⟩).length) : Nat) : Int) then (s, some 1) else doF mg p room { s with used := s.used + (1 + (textF p s ⟨13, a, b, c, d⟩).length), pc := s.pc + 1 } ⟨13, a, b, c, d⟩) := ⟨_, rfl⟩
  rw [← hr]
  have HRR := Lib.hid hr
  clear hr
  have HD0 := Lib.hid HD
  have HU := Lib.hid (And.intro hu hfu)
  clear HD
  have hf2 : isReg b = true ∧ isReg a = true := by simpa [fitsF] using hf
  have HTX := Lib.hid (fun (W' : World) (h' : RR B g gr gk w0 W' prg room fuel s vs vp vg vt) => rtext_any B g gr gk w0 W' prg room fuel s vs vp vg vt p 13 a b c d h' ht hf2.2 hf2.1 htl hok hrg)
  obtain ⟨l, hl⟩ : ∃ l, l = textF p s ⟨13, a, b, c, d⟩ := ⟨_, rfl⟩
  rw [← hl] at HTX hfull
  have HLL := Lib.hid hl
  clear hf hf2 ht htl hok hrg hl
  clear h hc h4 hi hpc hn4 HF
  go_enter Try.func22, Try.ntmps22
  go_wp2_with fail
  go_quiet (fail)
  go_wp2_with fail
  go_region
  have hI : Blk ((W.drewN (nq + 1)).alloc (.cells #[.int .i64 13, .int .i64 a, .int .i64 b, .int .i64 c, .int .i64 d] 40)) W.heap.size 40 [.int .i64 13, .int .i64 a, .int .i64 b, .int .i64 c, .int .i64 d] := Blk.new (W.drewN (nq + 1)) 40 [.int .i64 13, .int .i64 a, .int .i64 b, .int .i64 c, .int .i64 d]
  have hX := (H.out.drewN (nq + 1)).alloc (.cells #[.int .i64 13, .int .i64 a, .int .i64 b, .int .i64 c, .int .i64 d] 40)
  obtain ⟨ib, hib⟩ : ∃ ib, ib = W.heap.size := ⟨_, rfl⟩
  rw [← hib] at hI ⊢
  have hne : ib ≠ g := by omega
  generalize (W.drewN (nq + 1)).alloc (.cells #[.int .i64 13, .int .i64 a, .int .i64 b, .int .i64 c, .int .i64 d] 40) = w3 at hI hX ⊢
  have X3 := Lib.hid hX
  have I3 := Lib.hid hI
  have j0 := hI.cell 0
  have j1 := hI.cell 1
  have j2 := hI.cell 2
  have j3 := hI.cell 3
  have j4 := hI.cell 4
  simp only [List.getElem?_cons_zero, List.getElem?_cons_succ] at j0 j1 j2 j3 j4
  clear hI hX a1 a2 a3 a4 a5 a6 a7 hst i0 i1 i2 i3' i4 c1 c2 hib
  go_wp2_with fail
  refine (HF0.out _ X3.out).mono ?_
  rintro e w4 ⟨rfl, hx4, hb4⟩
  have X4 := Lib.hid hx4
  have I4 := Lib.hid (I3.out.below hb4 I3.out.lt)
  clear hb4 hx4 j0 j1 j2 j3 j4 X3 I3 HF0
  obtain ⟨m, hm⟩ : ∃ m, m = l.length := ⟨_, rfl⟩
  obtain ⟨np, hnp⟩ : ∃ n, n = s.put.length := ⟨_, rfl⟩
  rw [← hm, ← hnp] at hfull
  rw [← hnp] at hpl
  have HMM := Lib.hid (And.intro hm hnp)
  clear hm hnp
  have j0 := I4.out.cell 0
  have j1 := I4.out.cell 1
  have j2 := I4.out.cell 2
  have j3 := I4.out.cell 3
  have j4 := I4.out.cell 4
  simp only [List.getElem?_cons_zero, List.getElem?_cons_succ] at j0 j1 j2 j3 j4
  go_wp2_with fail
  refine (HTX.out _ X4.out).mono ?_
  rintro e w5 ⟨b5, c5, rfl, _, hb5⟩
  rw [← HMM.out.1]
  have X4 := Lib.hid (X4.out.call hb5)
  have I4 := Lib.hid (I4.out.below hb5 I4.out.lt)
  clear hb5 j0 j1 j2 j3 j4
  have j0 := I4.out.cell 0
  have j1 := I4.out.cell 1
  have j2 := I4.out.cell 2
  have j3 := I4.out.cell 3
  have j4 := I4.out.cell 4
  simp only [List.getElem?_cons_zero, List.getElem?_cons_succ] at j0 j1 j2 j3 j4
  obtain ⟨Ap, cp, hvp⟩ := own_sl X4.out.put
  have v2 := X4.out.cells.vp
  rw [← HMM.out.2] at hvp
  rw [hvp] at v2
  clear hvp
  obtain ⟨cst, hcst⟩ : ∃ n, n = 1 + m := ⟨_, rfl⟩
  have hcc : (1 + (m : Int)) = (cst : Int) := by omega
  have hcb : cst ≤ 262145 := by omega
  have d5 : decide ((262144 : Int) < (np : Int) + (cst : Int) - 1) = false := by simp; omega
  have HCST := Lib.hid (show cst = 1 + (textF p s ⟨13, a, b, c, d⟩).length by rw [← HLL.out, ← HMM.out.1]; exact hcst)
  clear hcst hfull
  obtain ⟨us, hus⟩ : ∃ x, x = s.used := ⟨_, rfl⟩
  have c20 := X4.out.cells.used
  have c19 := X4.out.cells.fuel
  have c17 := X4.out.cells.pc
  have f20 := X4.out.cells.fr 20
  have f17 := X4.out.cells.fr 17
  rw [← hus] at c20
  rw [HPC.out] at c17
  have hu1 := HU.out.1
  have hu2 := HU.out.2
  rw [← hus] at hu1
  have HUS := Lib.hid hus
  clear hus
  go_wp2_with fail
  go_quiet (fail)
  have X4 := Lib.hid (X4.out.drewN nq)
  have I4 := Lib.hid (I4.out.drewN nq)
  clear c20 c19 c17 f20 f17 j0 j1 j2 j3 j4
  generalize w5.drewN nq = w4 at X4 I4 ⊢
  have c20 := X4.out.cells.used
  have c19 := X4.out.cells.fuel
  have c17 := X4.out.cells.pc
  have f20 := X4.out.cells.fr 20
  have f17 := X4.out.cells.fr 17
  rw [← HUS.out] at c20
  rw [HPC.out] at c17
  have j0 := I4.out.cell 0
  have j1 := I4.out.cell 1
  have j2 := I4.out.cell 2
  have j3 := I4.out.cell 3
  have j4 := I4.out.cell 4
  simp only [List.getElem?_cons_zero, List.getElem?_cons_succ] at j0 j1 j2 j3 j4
  by_cases hltf : fuel - (us : Int) < (cst : Int)
  · have d9 : decide (fuel - (us : Int) < (cst : Int)) = true := by simpa using hltf
    have HX := Lib.hid (show fuel - (s.used : Int) < (((1 + (textF p s ⟨13, a, b, c, d⟩).length) : Nat) : Int) by rw [← HCST.out, ← HUS.out]; exact hltf)
    obtain rfl : r = (s, some 1) := by rw [HRR.out, if_pos HX.out]
    clear hltf
    go_wp2_with fail
    go_quiet (fail)
    go_wp2_with fail
    go_returns
    exact ⟨by first | rfl | simp, gk, vs, vp, vg, vt, (by first | exact X4.out.drewN _ | exact (X4.out.drewN _).drewN _)⟩
  · have d9 : decide (fuel - (us : Int) < (cst : Int)) = false := by simpa using hltf
    have HX := Lib.hid (show ¬ fuel - (s.used : Int) < (((1 + (textF p s ⟨13, a, b, c, d⟩).length) : Nat) : Int) by rw [← HCST.out, ← HUS.out]; exact hltf)
    have hq := HRR.out
    rw [if_neg HX.out] at hq
    have HQ := Lib.hid hq
    clear hq
    clear hltf
    go_wp2_with fail
    go_quiet (fail)
    have hx5 : RR B g gr gk w0 (((w4.drewN nq).setCell ⟨g, 20, none⟩ (.int .i64 ((us : Int) + (cst : Int)))).setCell ⟨g, 17, none⟩ (.int .i64 ((k : Int) + 1))) prg room fuel { s with used := us + cst, pc := (k : Int) + 1 } vs vp vg vt := ((X4.out.drewN nq).setUsed (us + cst)).setPc ((k : Int) + 1)
    have hi5 : Blk (((w4.drewN nq).setCell ⟨g, 20, none⟩ (.int .i64 ((us : Int) + (cst : Int)))).setCell ⟨g, 17, none⟩ (.int .i64 ((k : Int) + 1))) ib 40 [.int .i64 13, .int .i64 a, .int .i64 b, .int .i64 c, .int .i64 d] := blk_far (blk_far (I4.out.drewN nq) hne) hne
    go_upto_region 19 with (fail)
    generalize ((w4.drewN nq).setCell ⟨g, 20, none⟩ (.int .i64 ((us : Int) + (cst : Int)))).setCell ⟨g, 17, none⟩ (.int .i64 ((k : Int) + 1)) = w6 at hx5 hi5 ⊢
    have hD := HD0.out w6 (by rw [← HCST.out, ← HUS.out, HPC.out]; exact hx5)
    rw [← HQ.out] at hD
    unfold insV at hD
    simp only at hD
    have HDD := Lib.hid hD
    clear hD c20 c19 c17 f20 f17 j0 j1 j2 j3 j4
    have j0 := hi5.cell 0
    have j1 := hi5.cell 1
    have j2 := hi5.cell 2
    have j3 := hi5.cell 3
    have j4 := hi5.cell 4
    simp only [List.getElem?_cons_zero, List.getElem?_cons_succ] at j0 j1 j2 j3 j4
    clear hi5 hx5
    go_wp2_with fail
    refine HDD.out.mono ?_
    rintro e w7 ⟨rfl, h7⟩
    have H7 := Lib.hid h7
    clear h7
    go_wp2_with fail
    go_returns
    exact ⟨by first | rfl | simp, H7.out⟩
end Go.Proofs.Ytgejpggbmgiocaa
/- The reference steps: a text that is too long. -/
namespace Go.Proofs.Ytgejpggbmgiocaa
open Go.RowKit
attribute [local go_sem ↓] store_ins
theorem textF_len (p : Prog) (s : St) (i : Ins) (htl : ∀ k, (p.texts.getD k ⟨#[]⟩).size ≤ 140737488351232) : (textF p s i).length ≤ 140737488351233 := by
  unfold textF
  have h1 := htl (s.reg i.a / 2).toNat
  generalize p.texts.getD (s.reg i.a / 2).toNat ⟨#[]⟩ = t at h1 ⊢
  have h2 : t.data.toList.length = t.size := data_len t
  rw [List.length_append, h2]
  clear h2
  generalize t.size = n at h1 ⊢
  split
  · simp; omega
  · simp; omega
set_option maxRecDepth 100000 in
set_option maxHeartbeats 8000000 in
theorem rst_13_full (B g gr gk : Nat) (w0 W : World) (prg : List Value) (room fuel : Int) (s : St) (vs vp vg vt : Value) (p : Prog) (h : RR B g gr gk w0 W prg room fuel s vs vp vg vt) (hc : CodeIn w0 B prg p.code) (k : Nat) (hpc : s.pc = (k : Int)) (hk : k < p.code.length) (i : Ins) (hi : p.code.getD k noIns = i) (ho : i.op = 13) (ht : TextsIn w0 B prg p.texts) (htl : ∀ k, (p.texts.getD k ⟨#[]⟩).size ≤ 140737488351232) (hf : fitsF i = true) (hok : textOk p s i) (hrg : RegB s) (hpl : s.put.length ≤ 262144) (hfull : 262144 < s.put.length + (textF p s i).length)
    (HF : ∀ W', RR B g gr gk w0 W' prg room fuel s vs vp vg vt → Calls Try.prog 33 #[.pointer (some ⟨g, 0, none⟩), insV i] W' (FRes B g gr gk w0 W' prg room fuel s vs vp vg vt false)) :
    Calls Try.prog 22 #[.pointer (some ⟨g, 0, none⟩)] W (ResR B g gr w0 prg room fuel (s, some 1)) := by
  have H := Lib.hid h
  have c1 := h.cells.pc
  have c2 := h.cells.p 4 (by omega)
  have hle := hc.le
  obtain ⟨b4, o4, c4, h4, hb4, i0, i1, i2, i3', i4⟩ := hc.at h.below hk
  rw [h4] at c2
  rw [hi] at i0 i1 i2 i3' i4
  obtain ⟨op, a, b, c, d⟩ := i
  simp only at i0 i1 i2 i3' i4
  obtain ⟨n4, hn4⟩ : ∃ n4, n4 = p.code.length := ⟨_, rfl⟩
  rw [← hn4] at c2 hk hle
  rw [hpc] at c1
  have hlt := h.lt
  have hki : (k : Int) < (n4 : Int) := by omega
  have e1 : decide ((k : Int) < 0) = false := by simp
  have e2 : decide ((n4 : Int) ≤ (k : Int)) = false := by simp; omega
  have e2' : decide (n4 ≤ k) = false := by simp; omega
  simp only at ho
  subst ho
  have hst : ∀ n, (storeIns (.pointer (some ⟨W.heap.size, 0, none⟩)) (.agg #[.int .i64 13, .int .i64 a, .int .i64 b, .int .i64 c, .int .i64 d])).run Try.prog ((W.drewN n).alloc (.cells #[.int .i64 0, .int .i64 0, .int .i64 0, .int .i64 0, .int .i64 0] 40)) = .ok () ((W.drewN n).alloc (.cells #[.int .i64 13, .int .i64 a, .int .i64 b, .int .i64 c, .int .i64 d] 40)) := fun n => ins_store (W.drewN n) 13 a b c d
  have a1 := fun n o => cell_al (W := W.drewN n) c1 o
  have a2 := fun n o => cell_al (W := W.drewN n) c2 o
  have a3 := fun n o => cell_al (W := W.drewN n) i0 o
  have a4 := fun n o => cell_al (W := W.drewN n) i1 o
  have a5 := fun n o => cell_al (W := W.drewN n) i2 o
  have a6 := fun n o => cell_al (W := W.drewN n) i3' o
  have a7 := fun n o => cell_al (W := W.drewN n) i4 o
  have HPC := Lib.hid hpc
  unfold insV at HF
  simp only at HF
  have HF0 := Lib.hid HF
  have hm0 := textF_len p s ⟨13, a, b, c, d⟩ htl
  have hf2 : isReg b = true ∧ isReg a = true := by simpa [fitsF] using hf
  have HTX := Lib.hid (fun (W' : World) (h' : RR B g gr gk w0 W' prg room fuel s vs vp vg vt) => rtext_any B g gr gk w0 W' prg room fuel s vs vp vg vt p 13 a b c d h' ht hf2.2 hf2.1 htl hok hrg)
  obtain ⟨l, hl⟩ : ∃ l, l = textF p s ⟨13, a, b, c, d⟩ := ⟨_, rfl⟩
  rw [← hl] at HTX hfull hm0
  have HLL := Lib.hid hl
  clear hf hf2 ht htl hok hrg hl
  clear h hc h4 hi hpc hn4 HF
  go_enter Try.func22, Try.ntmps22
  go_wp2_with fail
  go_quiet (fail)
  go_wp2_with fail
  go_region
  have hI : Blk ((W.drewN (nq + 1)).alloc (.cells #[.int .i64 13, .int .i64 a, .int .i64 b, .int .i64 c, .int .i64 d] 40)) W.heap.size 40 [.int .i64 13, .int .i64 a, .int .i64 b, .int .i64 c, .int .i64 d] := Blk.new (W.drewN (nq + 1)) 40 [.int .i64 13, .int .i64 a, .int .i64 b, .int .i64 c, .int .i64 d]
  have hX := (H.out.drewN (nq + 1)).alloc (.cells #[.int .i64 13, .int .i64 a, .int .i64 b, .int .i64 c, .int .i64 d] 40)
  obtain ⟨ib, hib⟩ : ∃ ib, ib = W.heap.size := ⟨_, rfl⟩
  rw [← hib] at hI ⊢
  have hne : ib ≠ g := by omega
  generalize (W.drewN (nq + 1)).alloc (.cells #[.int .i64 13, .int .i64 a, .int .i64 b, .int .i64 c, .int .i64 d] 40) = w3 at hI hX ⊢
  have X3 := Lib.hid hX
  have I3 := Lib.hid hI
  have j0 := hI.cell 0
  have j1 := hI.cell 1
  have j2 := hI.cell 2
  have j3 := hI.cell 3
  have j4 := hI.cell 4
  simp only [List.getElem?_cons_zero, List.getElem?_cons_succ] at j0 j1 j2 j3 j4
  clear hI hX a1 a2 a3 a4 a5 a6 a7 hst i0 i1 i2 i3' i4 c1 c2 hib
  go_wp2_with fail
  refine (HF0.out _ X3.out).mono ?_
  rintro e w4 ⟨rfl, hx4, hb4⟩
  have X4 := Lib.hid hx4
  have I4 := Lib.hid (I3.out.below hb4 I3.out.lt)
  clear hb4 hx4 j0 j1 j2 j3 j4 X3 I3 HF0
  obtain ⟨m, hm⟩ : ∃ m, m = l.length := ⟨_, rfl⟩
  obtain ⟨np, hnp⟩ : ∃ n, n = s.put.length := ⟨_, rfl⟩
  rw [← hm, ← hnp] at hfull
  rw [← hm] at hm0
  rw [← hnp] at hpl
  have HMM := Lib.hid (And.intro hm hnp)
  clear hm hnp
  have j0 := I4.out.cell 0
  have j1 := I4.out.cell 1
  have j2 := I4.out.cell 2
  have j3 := I4.out.cell 3
  have j4 := I4.out.cell 4
  simp only [List.getElem?_cons_zero, List.getElem?_cons_succ] at j0 j1 j2 j3 j4
  go_wp2_with fail
  refine (HTX.out _ X4.out).mono ?_
  rintro e w5 ⟨b5, c5, rfl, _, hb5⟩
  rw [← HMM.out.1]
  have X4 := Lib.hid (X4.out.call hb5)
  have I4 := Lib.hid (I4.out.below hb5 I4.out.lt)
  clear hb5 j0 j1 j2 j3 j4
  have j0 := I4.out.cell 0
  have j1 := I4.out.cell 1
  have j2 := I4.out.cell 2
  have j3 := I4.out.cell 3
  have j4 := I4.out.cell 4
  simp only [List.getElem?_cons_zero, List.getElem?_cons_succ] at j0 j1 j2 j3 j4
  obtain ⟨Ap, cp, hvp⟩ := own_sl X4.out.put
  have v2 := X4.out.cells.vp
  rw [← HMM.out.2] at hvp
  rw [hvp] at v2
  clear hvp
  obtain ⟨cst, hcst⟩ : ∃ n, n = 1 + m := ⟨_, rfl⟩
  have hcc : (1 + (m : Int)) = (cst : Int) := by omega
  have hcb : cst ≤ 140737488351234 := by omega
  have d5 : decide ((262144 : Int) < (np : Int) + (cst : Int) - 1) = true := by simp; omega
  clear hcst hfull
  go_wp2_with fail
  go_returns
  exact ⟨by first | rfl | simp, gk, vs, vp, vg, vt, X4.out⟩
end Go.Proofs.Ytgejpggbmgiocaa
