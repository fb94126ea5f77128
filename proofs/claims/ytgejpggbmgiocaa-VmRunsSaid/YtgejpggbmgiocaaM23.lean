/- Step2 of this seat, in one text. -/
import Derived.Test.YtgejpggbmgiocaaM20
/- A step of the machine: Emit. -/
namespace Go.Proofs.Ytgejpggbmgiocaa
open Go.RowKit
attribute [local go_sem ↓] store_ins
set_option maxRecDepth 100000 in
set_option maxHeartbeats 4000000 in
theorem step_17_full (B g : Nat) (w0 W : World) (prg : List Value) (room fuel : Int) (s : St) (vs vp vg vt : Value) (code : List Ins) (h : RS B g w0 W prg room fuel s vs vp vg vt) (hc : CodeIn w0 B prg code) (k : Nat) (hpc : s.pc = (k : Int)) (hk : k < code.length) (i : Ins) (hi : code.getD k noIns = i) (hf : fitsF i = true)  (ho : i.op = 17) (hr : room ≤ (s.told.length : Int)) :
    Calls Try.prog 20 #[.pointer (some ⟨g, 0, none⟩)] W fun e w' => e = .returned (.tuple #[.int .i64 1, .bool true]) ∧ RS B g w0 w' prg room fuel s vs vp vg vt := by
  have H := Lib.hid h
  have c1 := h.cells.pc
  have c2 := h.cells.p 4 (by omega)
  have hle := hc.le
  obtain ⟨b4, o4, c4, h4, hb4, i0, i1, i2, i3', i4⟩ := hc.at h.below hk
  rw [h4] at c2
  rw [hi] at i0 i1 i2 i3' i4
  obtain ⟨op, a, b, c, d⟩ := i
  simp only at i0 i1 i2 i3' i4
  obtain ⟨n4, hn4⟩ : ∃ n4, n4 = code.length := ⟨_, rfl⟩
  rw [← hn4] at c2 hk hle
  rw [hpc] at c1
  have hgB := h.gB
  have hlt := h.lt
  have hki : (k : Int) < (n4 : Int) := by omega
  have e1 : decide ((k : Int) < 0) = false := by simp
  have e2 : decide ((n4 : Int) ≤ (k : Int)) = false := by simp; omega
  have hst : ∀ n, (storeIns (.pointer (some ⟨W.heap.size, 0, none⟩)) (.agg #[.int .i64 17, .int .i64 a, .int .i64 b, .int .i64 c, .int .i64 d])).run Try.prog ((W.drewN n).alloc (.cells #[.int .i64 0, .int .i64 0, .int .i64 0, .int .i64 0, .int .i64 0] 40)) = .ok () ((W.drewN n).alloc (.cells #[.int .i64 17, .int .i64 a, .int .i64 b, .int .i64 c, .int .i64 d] 40)) := fun n => ins_store (W.drewN n) 17 a b c d
  have e2' : decide (n4 ≤ k) = false := by simp; omega
  have a1 := fun n o => cell_al (W := W.drewN n) c1 o
  have a2 := fun n o => cell_al (W := W.drewN n) c2 o
  have a3 := fun n o => cell_al (W := W.drewN n) i0 o
  have a4 := fun n o => cell_al (W := W.drewN n) i1 o
  have a5 := fun n o => cell_al (W := W.drewN n) i2 o
  have a6 := fun n o => cell_al (W := W.drewN n) i3' o
  have a7 := fun n o => cell_al (W := W.drewN n) i4 o
  simp only at ho
  subst ho
  obtain ⟨A9, c9, hv9⟩ := own_sl h.told
  obtain ⟨n9, hn9⟩ : ∃ n9, n9 = s.told.length := ⟨_, rfl⟩
  rw [← hn9] at hv9 hr
  have e9 : decide (room ≤ (n9 : Int)) = true := by simpa using hr
  have HN9 := Lib.hid hn9
  clear hn9 hr
  have HF := Lib.hid (fun W => fits_any g ⟨17, a, b, c, d⟩ W)
  rw [hf] at HF
  clear h hc h4 hn4 hi hf
  go_enter Try.func20, Try.ntmps20
  go_wp2_with fail
  go_quiet (fail)
  go_wp2_with fail
  go_region
  have hI : Blk ((W.drewN (nq + 1)).alloc (.cells #[.int .i64 17, .int .i64 a, .int .i64 b, .int .i64 c, .int .i64 d] 40)) W.heap.size 40 [.int .i64 17, .int .i64 a, .int .i64 b, .int .i64 c, .int .i64 d] := Blk.new (W.drewN (nq + 1)) 40 [.int .i64 17, .int .i64 a, .int .i64 b, .int .i64 c, .int .i64 d]
  have hX := (H.out.drewN (nq + 1)).alloc (.cells #[.int .i64 17, .int .i64 a, .int .i64 b, .int .i64 c, .int .i64 d] 40)
  obtain ⟨ib, hib⟩ : ∃ ib, ib = W.heap.size := ⟨_, rfl⟩
  rw [← hib] at hI ⊢
  generalize (W.drewN (nq + 1)).alloc (.cells #[.int .i64 17, .int .i64 a, .int .i64 b, .int .i64 c, .int .i64 d] 40) = w3 at hI hX ⊢
  have X3 := Lib.hid hX
  have I3 := Lib.hid hI
  have j0 := hI.cell 0
  have j1 := hI.cell 1
  have j2 := hI.cell 2
  have j3 := hI.cell 3
  have j4 := hI.cell 4
  simp only [List.getElem?_cons_zero, List.getElem?_cons_succ] at j0 j1 j2 j3 j4
  clear hI hX a1 a2 a3 a4 a5 a6 a7 hst i0 i1 i2 i3' i4 c1 c2 hib
  go_wp2_with fail
  refine (HF.out _).mono ?_
  rintro e w4 ⟨rfl, hb4⟩
  have X4 := Lib.hid (X3.out.call hb4)
  have I4 := Lib.hid (I3.out.below hb4 I3.out.lt)
  clear hb4 j0 j1 j2 j3 j4 X3 I3 HF
  have j0 := I4.out.cell 0
  have j1 := I4.out.cell 1
  have j2 := I4.out.cell 2
  have j3 := I4.out.cell 3
  have j4 := I4.out.cell 4
  simp only [List.getElem?_cons_zero, List.getElem?_cons_succ] at j0 j1 j2 j3 j4
  have v1 := X4.out.cells.vt
  have v2 := X4.out.cells.room
  rw [hv9] at v1
  have HV9 := Lib.hid hv9
  clear hv9
  go_wp2_with fail
  go_quiet (fail)
  go_wp2_with fail
  go_returns
  exact ⟨by first | rfl | simp, X4.out.drewN _⟩
set_option maxRecDepth 100000 in
set_option maxHeartbeats 4000000 in
theorem step_17_no (B g : Nat) (w0 W : World) (prg : List Value) (room fuel : Int) (s : St) (vs vp vg vt : Value) (code : List Ins) (h : RS B g w0 W prg room fuel s vs vp vg vt) (hc : CodeIn w0 B prg code) (k : Nat) (hpc : s.pc = (k : Int)) (hk : k < code.length) (i : Ins) (hi : code.getD k noIns = i) (hf : fitsF i = true) (hu : (s.used : Int) ≤ fuel) (hfu : fuel ≤ 35184372088832)  (ho : i.op = 17) (hr : ¬ room ≤ (s.told.length : Int)) (hlt9 : fuel - (s.used : Int) < ((1 : Nat) : Int)) :
    Calls Try.prog 20 #[.pointer (some ⟨g, 0, none⟩)] W fun e w' => e = .returned (.tuple #[.int .i64 1, .bool true]) ∧ RS B g w0 w' prg room fuel s vs vp vg vt := by
  have H := Lib.hid h
  have c1 := h.cells.pc
  have c2 := h.cells.p 4 (by omega)
  have hle := hc.le
  obtain ⟨b4, o4, c4, h4, hb4, i0, i1, i2, i3', i4⟩ := hc.at h.below hk
  rw [h4] at c2
  rw [hi] at i0 i1 i2 i3' i4
  obtain ⟨op, a, b, c, d⟩ := i
  simp only at i0 i1 i2 i3' i4
  obtain ⟨n4, hn4⟩ : ∃ n4, n4 = code.length := ⟨_, rfl⟩
  rw [← hn4] at c2 hk hle
  rw [hpc] at c1
  have hgB := h.gB
  have hlt := h.lt
  have hki : (k : Int) < (n4 : Int) := by omega
  have e1 : decide ((k : Int) < 0) = false := by simp
  have e2 : decide ((n4 : Int) ≤ (k : Int)) = false := by simp; omega
  have hst : ∀ n, (storeIns (.pointer (some ⟨W.heap.size, 0, none⟩)) (.agg #[.int .i64 17, .int .i64 a, .int .i64 b, .int .i64 c, .int .i64 d])).run Try.prog ((W.drewN n).alloc (.cells #[.int .i64 0, .int .i64 0, .int .i64 0, .int .i64 0, .int .i64 0] 40)) = .ok () ((W.drewN n).alloc (.cells #[.int .i64 17, .int .i64 a, .int .i64 b, .int .i64 c, .int .i64 d] 40)) := fun n => ins_store (W.drewN n) 17 a b c d
  have e2' : decide (n4 ≤ k) = false := by simp; omega
  have a1 := fun n o => cell_al (W := W.drewN n) c1 o
  have a2 := fun n o => cell_al (W := W.drewN n) c2 o
  have a3 := fun n o => cell_al (W := W.drewN n) i0 o
  have a4 := fun n o => cell_al (W := W.drewN n) i1 o
  have a5 := fun n o => cell_al (W := W.drewN n) i2 o
  have a6 := fun n o => cell_al (W := W.drewN n) i3' o
  have a7 := fun n o => cell_al (W := W.drewN n) i4 o
  have HL := Lib.hid hlt9
  simp only at ho
  subst ho
  obtain ⟨A9, c9, hv9⟩ := own_sl h.told
  obtain ⟨n9, hn9⟩ : ∃ n9, n9 = s.told.length := ⟨_, rfl⟩
  rw [← hn9] at hv9 hr
  have e9 : decide (room ≤ (n9 : Int)) = false := by simpa using hr
  have HN9 := Lib.hid hn9
  clear hn9 hr
  have HF := Lib.hid (fun W => fits_any g ⟨17, a, b, c, d⟩ W)
  rw [hf] at HF
  clear h hc h4 hn4 hi hf hlt9
  go_enter Try.func20, Try.ntmps20
  go_wp2_with fail
  go_quiet (fail)
  go_wp2_with fail
  go_region
  have hI : Blk ((W.drewN (nq + 1)).alloc (.cells #[.int .i64 17, .int .i64 a, .int .i64 b, .int .i64 c, .int .i64 d] 40)) W.heap.size 40 [.int .i64 17, .int .i64 a, .int .i64 b, .int .i64 c, .int .i64 d] := Blk.new (W.drewN (nq + 1)) 40 [.int .i64 17, .int .i64 a, .int .i64 b, .int .i64 c, .int .i64 d]
  have hX := (H.out.drewN (nq + 1)).alloc (.cells #[.int .i64 17, .int .i64 a, .int .i64 b, .int .i64 c, .int .i64 d] 40)
  obtain ⟨ib, hib⟩ : ∃ ib, ib = W.heap.size := ⟨_, rfl⟩
  rw [← hib] at hI ⊢
  generalize (W.drewN (nq + 1)).alloc (.cells #[.int .i64 17, .int .i64 a, .int .i64 b, .int .i64 c, .int .i64 d] 40) = w3 at hI hX ⊢
  have X3 := Lib.hid hX
  have I3 := Lib.hid hI
  have j0 := hI.cell 0
  have j1 := hI.cell 1
  have j2 := hI.cell 2
  have j3 := hI.cell 3
  have j4 := hI.cell 4
  simp only [List.getElem?_cons_zero, List.getElem?_cons_succ] at j0 j1 j2 j3 j4
  clear hI hX a1 a2 a3 a4 a5 a6 a7 hst i0 i1 i2 i3' i4 c1 c2 hib
  go_wp2_with fail
  refine (HF.out _).mono ?_
  rintro e w4 ⟨rfl, hb4⟩
  have X4 := Lib.hid (X3.out.call hb4)
  have I4 := Lib.hid (I3.out.below hb4 I3.out.lt)
  clear hb4 j0 j1 j2 j3 j4 X3 I3 HF
  have j0 := I4.out.cell 0
  have j1 := I4.out.cell 1
  have j2 := I4.out.cell 2
  have j3 := I4.out.cell 3
  have j4 := I4.out.cell 4
  simp only [List.getElem?_cons_zero, List.getElem?_cons_succ] at j0 j1 j2 j3 j4
  have v1 := X4.out.cells.vt
  have v2 := X4.out.cells.room
  rw [hv9] at v1
  have HV9 := Lib.hid hv9
  clear hv9
  go_wp2_with fail
  go_quiet (fail)
  go_wp2_with fail
  have X4 := Lib.hid (X4.out.drewN nq)
  have I4 := Lib.hid (I4.out.drewN nq)
  generalize w4.drewN nq = w9 at X4 I4 ⊢
  have j0 := I4.out.cell 0
  have j1 := I4.out.cell 1
  have j2 := I4.out.cell 2
  have j3 := I4.out.cell 3
  have j4 := I4.out.cell 4
  simp only [List.getElem?_cons_zero, List.getElem?_cons_succ] at j0 j1 j2 j3 j4
  refine (pay_no B g w0 _ prg room fuel s vs vp vg vt 1 X4.out hu hfu (by have := HL.out; omega)).mono ?_
  rintro e w5 ⟨rfl, hb5⟩
  have X5 := Lib.hid (X4.out.call hb5)
  clear hb5
  go_wp2_with fail
  go_returns
  exact ⟨by first | rfl | simp, X5.out⟩
set_option maxRecDepth 100000 in
set_option maxHeartbeats 4000000 in
theorem step_17_yes (B g : Nat) (w0 W : World) (prg : List Value) (room fuel : Int) (s : St) (vs vp vg vt : Value) (code : List Ins) (h : RS B g w0 W prg room fuel s vs vp vg vt) (hc : CodeIn w0 B prg code) (k : Nat) (hpc : s.pc = (k : Int)) (hk : k < code.length) (i : Ins) (hi : code.getD k noIns = i) (hf : fitsF i = true) (hu : (s.used : Int) ≤ fuel) (hfu : fuel ≤ 35184372088832)  (ho : i.op = 17) (hr : ¬ room ≤ (s.told.length : Int)) (hlt9 : ¬ fuel - (s.used : Int) < ((1 : Nat) : Int)) (cd : Int) (fin : Bool) (R : World → Prop) (HD : ∀ W', RS B g w0 W' prg room fuel { s with used := s.used + 1, pc := s.pc + 1 } vs vp vg vt → Calls Try.prog 32 #[.pointer (some ⟨g, 0, none⟩), insV i, .int .i64 0, .string ⟨#[]⟩] W' fun e w' => e = .returned (.tuple #[.int .i64 cd, .bool fin]) ∧ R w') :
    Calls Try.prog 20 #[.pointer (some ⟨g, 0, none⟩)] W fun e w' => e = .returned (.tuple #[.int .i64 cd, .bool fin]) ∧ R w' := by
  have H := Lib.hid h
  have c1 := h.cells.pc
  have c2 := h.cells.p 4 (by omega)
  have hle := hc.le
  obtain ⟨b4, o4, c4, h4, hb4, i0, i1, i2, i3', i4⟩ := hc.at h.below hk
  rw [h4] at c2
  rw [hi] at i0 i1 i2 i3' i4
  obtain ⟨op, a, b, c, d⟩ := i
  simp only at i0 i1 i2 i3' i4
  obtain ⟨n4, hn4⟩ : ∃ n4, n4 = code.length := ⟨_, rfl⟩
  rw [← hn4] at c2 hk hle
  rw [hpc] at c1
  have hgB := h.gB
  have hlt := h.lt
  have hki : (k : Int) < (n4 : Int) := by omega
  have e1 : decide ((k : Int) < 0) = false := by simp
  have e2 : decide ((n4 : Int) ≤ (k : Int)) = false := by simp; omega
  have hst : ∀ n, (storeIns (.pointer (some ⟨W.heap.size, 0, none⟩)) (.agg #[.int .i64 17, .int .i64 a, .int .i64 b, .int .i64 c, .int .i64 d])).run Try.prog ((W.drewN n).alloc (.cells #[.int .i64 0, .int .i64 0, .int .i64 0, .int .i64 0, .int .i64 0] 40)) = .ok () ((W.drewN n).alloc (.cells #[.int .i64 17, .int .i64 a, .int .i64 b, .int .i64 c, .int .i64 d] 40)) := fun n => ins_store (W.drewN n) 17 a b c d
  have e2' : decide (n4 ≤ k) = false := by simp; omega
  have a1 := fun n o => cell_al (W := W.drewN n) c1 o
  have a2 := fun n o => cell_al (W := W.drewN n) c2 o
  have a3 := fun n o => cell_al (W := W.drewN n) i0 o
  have a4 := fun n o => cell_al (W := W.drewN n) i1 o
  have a5 := fun n o => cell_al (W := W.drewN n) i2 o
  have a6 := fun n o => cell_al (W := W.drewN n) i3' o
  have a7 := fun n o => cell_al (W := W.drewN n) i4 o
  have HL := Lib.hid hlt9
  simp only at ho
  subst ho
  obtain ⟨A9, c9, hv9⟩ := own_sl h.told
  obtain ⟨n9, hn9⟩ : ∃ n9, n9 = s.told.length := ⟨_, rfl⟩
  rw [← hn9] at hv9 hr
  have e9 : decide (room ≤ (n9 : Int)) = false := by simpa using hr
  have HN9 := Lib.hid hn9
  clear hn9 hr
  have HF := Lib.hid (fun W => fits_any g ⟨17, a, b, c, d⟩ W)
  rw [hf] at HF
  clear h hc h4 hn4 hi hf hlt9
  go_enter Try.func20, Try.ntmps20
  go_wp2_with fail
  go_quiet (fail)
  go_wp2_with fail
  go_region
  have hI : Blk ((W.drewN (nq + 1)).alloc (.cells #[.int .i64 17, .int .i64 a, .int .i64 b, .int .i64 c, .int .i64 d] 40)) W.heap.size 40 [.int .i64 17, .int .i64 a, .int .i64 b, .int .i64 c, .int .i64 d] := Blk.new (W.drewN (nq + 1)) 40 [.int .i64 17, .int .i64 a, .int .i64 b, .int .i64 c, .int .i64 d]
  have hX := (H.out.drewN (nq + 1)).alloc (.cells #[.int .i64 17, .int .i64 a, .int .i64 b, .int .i64 c, .int .i64 d] 40)
  obtain ⟨ib, hib⟩ : ∃ ib, ib = W.heap.size := ⟨_, rfl⟩
  rw [← hib] at hI ⊢
  generalize (W.drewN (nq + 1)).alloc (.cells #[.int .i64 17, .int .i64 a, .int .i64 b, .int .i64 c, .int .i64 d] 40) = w3 at hI hX ⊢
  have X3 := Lib.hid hX
  have I3 := Lib.hid hI
  have j0 := hI.cell 0
  have j1 := hI.cell 1
  have j2 := hI.cell 2
  have j3 := hI.cell 3
  have j4 := hI.cell 4
  simp only [List.getElem?_cons_zero, List.getElem?_cons_succ] at j0 j1 j2 j3 j4
  clear hI hX a1 a2 a3 a4 a5 a6 a7 hst i0 i1 i2 i3' i4 c1 c2 hib
  go_wp2_with fail
  refine (HF.out _).mono ?_
  rintro e w4 ⟨rfl, hb4⟩
  have X4 := Lib.hid (X3.out.call hb4)
  have I4 := Lib.hid (I3.out.below hb4 I3.out.lt)
  clear hb4 j0 j1 j2 j3 j4 X3 I3 HF
  have j0 := I4.out.cell 0
  have j1 := I4.out.cell 1
  have j2 := I4.out.cell 2
  have j3 := I4.out.cell 3
  have j4 := I4.out.cell 4
  simp only [List.getElem?_cons_zero, List.getElem?_cons_succ] at j0 j1 j2 j3 j4
  have v1 := X4.out.cells.vt
  have v2 := X4.out.cells.room
  rw [hv9] at v1
  have HV9 := Lib.hid hv9
  clear hv9
  go_wp2_with fail
  go_quiet (fail)
  go_wp2_with fail
  have X4 := Lib.hid (X4.out.drewN nq)
  have I4 := Lib.hid (I4.out.drewN nq)
  generalize w4.drewN nq = w9 at X4 I4 ⊢
  have j0 := I4.out.cell 0
  have j1 := I4.out.cell 1
  have j2 := I4.out.cell 2
  have j3 := I4.out.cell 3
  have j4 := I4.out.cell 4
  simp only [List.getElem?_cons_zero, List.getElem?_cons_succ] at j0 j1 j2 j3 j4
  refine (pay_yes B g w0 _ prg room fuel s vs vp vg vt 1 X4.out hu hfu (by have := HL.out; omega)).mono ?_
  rintro e w5 ⟨rfl, hx5, hfar⟩
  have hne : ib ≠ g := fun e9 => by
    have h1 := I4.out
    have h2 := X4.out.box
    rw [e9] at h1
    unfold Blk at h1 h2
    rw [h1] at h2
    injection (Option.some.inj h2) with e1 e2
    exact absurd e2 (by decide)
  have X5 := Lib.hid hx5
  have I5 := Lib.hid (show Blk w5 ib 40 _ from (hfar ib hne).trans I4.out)
  have hpc5 := hx5.cells.pc
  have hfr5 := hx5.cells.fr 25
  simp only [hpc] at hpc5
  have hx6 := hx5.setPc ((k : Int) + 1)
  have hi6 : Blk (w5.setCell ⟨g, 25, none⟩ (.int .i64 ((k : Int) + 1))) ib 40 [.int .i64 17, .int .i64 a, .int .i64 b, .int .i64 c, .int .i64 d] := I5.out.same (Below.heap_setCell _ _ _ ib hne)
  have X6 := Lib.hid hx6
  clear hx5 hfar j0 j1 j2 j3 j4 hx6
  have j0 := hi6.cell 0
  have j1 := hi6.cell 1
  have j2 := hi6.cell 2
  have j3 := hi6.cell 3
  have j4 := hi6.cell 4
  simp only [List.getElem?_cons_zero, List.getElem?_cons_succ] at j0 j1 j2 j3 j4
  clear hi6
  have HD' := Lib.hid (HD _ (by rw [hpc]; exact X6.out))
  clear HD
  go_wp2_with fail
  refine HD'.out.mono ?_
  rintro e w7 ⟨rfl, h7⟩
  have H7 := Lib.hid h7
  clear h7
  go_wp2_with fail
  go_returns
  exact ⟨by first | rfl | simp, H7.out⟩
end Go.Proofs.Ytgejpggbmgiocaa
