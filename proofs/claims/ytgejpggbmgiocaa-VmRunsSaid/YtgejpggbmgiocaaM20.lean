/- Step of this seat, in one text. -/
import Derived.Test.YtgejpggbmgiocaaM7
import Derived.Deep.WholeRow
/- A step of the machine. -/
namespace Go.Proofs.Ytgejpggbmgiocaa
open Go.RowKit

/-- the store of an instruction into its box, shut -/
def storeIns (p v : Value) : Sem Unit := Instr.storeAt 40 p v
theorem store_ins (p v : Value) : Instr.storeAt 40 p v = storeIns p v := rfl
attribute [local go_sem ↓] store_ins
theorem info40 : (Try.prog.info? 40).map (·.size) = some 5 := by kernel_rfl
theorem ins_store (W : World) (op a b c d : Int) : (storeIns (.pointer (some ⟨W.heap.size, 0, none⟩)) (.agg #[.int .i64 op, .int .i64 a, .int .i64 b, .int .i64 c, .int .i64 d])).run Try.prog (W.alloc (.cells #[.int .i64 0, .int .i64 0, .int .i64 0, .int .i64 0, .int .i64 0] 40)) = .ok () (W.alloc (.cells #[.int .i64 op, .int .i64 a, .int .i64 b, .int .i64 c, .int .i64 d] 40)) :=
  run_storeAt_new W 40 _ _ info40 rfl (by simp [Value.oneCell'])
def insCell (i : Ins) : Nat → Int
  | 0 => i.op
  | 1 => i.a
  | 2 => i.b
  | 3 => i.c
  | _ => i.d
def InsC (l : List Ins) (k j : Nat) : Value := .int .i64 (insCell (l.getD k noIns) j)
def insV (i : Ins) : Value := .agg #[.int .i64 i.op, .int .i64 i.a, .int .i64 i.b, .int .i64 i.c, .int .i64 i.d]
/-- a program's code in memory -/
structure CodeIn (w : World) (B : Nat) (prg : List Value) (code : List Ins) : Prop where
  arr : ∃ A c, prg[4]? = some (.slice A code.length c) ∧ Arr w B 5 A code.length (InsC code)
  le : code.length ≤ 140737488355328
theorem CodeIn.at {w w' : World} {B : Nat} {prg : List Value} {code : List Ins} (h : CodeIn w B prg code) (hb : Below B w w') {k : Nat} (hk : k < code.length) : ∃ b o c, prg[4]? = some (.slice (some ⟨b, o, none⟩) code.length c) ∧ b < B ∧
    w'.cell? ⟨b, o + k * 5, none⟩ = some (.int .i64 (code.getD k noIns).op) ∧ w'.cell? ⟨b, o + k * 5 + 1, none⟩ = some (.int .i64 (code.getD k noIns).a) ∧ w'.cell? ⟨b, o + k * 5 + 2, none⟩ = some (.int .i64 (code.getD k noIns).b) ∧
    w'.cell? ⟨b, o + k * 5 + 3, none⟩ = some (.int .i64 (code.getD k noIns).c) ∧ w'.cell? ⟨b, o + k * 5 + 4, none⟩ = some (.int .i64 (code.getD k noIns).d) := by
  obtain ⟨A, c, h4, ha⟩ := h.arr
  obtain ⟨b, o, rfl, hlt, hc⟩ := ha.below hb (by omega)
  exact ⟨b, o, c, h4, hlt, hc k 0 hk (by omega), hc k 1 hk (by omega), hc k 2 hk (by omega), hc k 3 hk (by omega), hc k 4 hk (by omega)⟩
set_option maxRecDepth 100000 in
theorem step_out (B g : Nat) (w0 W : World) (prg : List Value) (room fuel : Int) (s : St) (vs vp vg vt : Value) (code : List Ins) (h : RS B g w0 W prg room fuel s vs vp vg vt) (hc : CodeIn w0 B prg code) (hpc : s.pc < 0 ∨ (code.length : Int) ≤ s.pc) :
    Calls Try.prog 20 #[.pointer (some ⟨g, 0, none⟩)] W fun e w' => e = .returned (.tuple #[.int .i64 3, .bool true]) ∧ RS B g w0 w' prg room fuel s vs vp vg vt := by
  have H := Lib.hid h
  have c1 := h.cells.pc
  have c2 := h.cells.p 4 (by omega)
  obtain ⟨A, c, h4, -⟩ := hc.arr
  rw [h4] at c2
  obtain ⟨pc, hp⟩ : ∃ pc, pc = s.pc := ⟨_, rfl⟩
  rw [← hp] at c1 hpc
  clear h hc hp h4
  by_cases h1 : pc < 0
  · have e1 : decide (pc < 0) = true := by simp; omega
    go_enter Try.func20, Try.ntmps20
    go_wp2_with fail
    go_quiet (fail)
    go_wp2_with fail
    go_returns
    exact ⟨by first | rfl | simp, H.out.drewN _⟩
  · have e1 : decide (pc < 0) = false := by simp; omega
    have e2 : decide ((code.length : Int) ≤ pc) = true := by simp; omega
    go_enter Try.func20, Try.ntmps20
    go_wp2_with fail
    go_quiet (fail)
    go_wp2_with fail
    go_returns
    exact ⟨by first | rfl | simp, H.out.drewN _⟩
set_option maxRecDepth 100000 in
set_option maxHeartbeats 4000000 in
theorem step_misfit (B g : Nat) (w0 W : World) (prg : List Value) (room fuel : Int) (s : St) (vs vp vg vt : Value) (code : List Ins) (h : RS B g w0 W prg room fuel s vs vp vg vt) (hc : CodeIn w0 B prg code) (k : Nat) (hpc : s.pc = (k : Int)) (hk : k < code.length) (i : Ins) (hi : code.getD k noIns = i) (hf : fitsF i = false) :
    Calls Try.prog 20 #[.pointer (some ⟨g, 0, none⟩)] W fun e w' => e = .returned (.tuple #[.int .i64 3, .bool true]) ∧ RS B g w0 w' prg room fuel s vs vp vg vt := by
  have H := Lib.hid h
  have c1 := h.cells.pc
  have c2 := h.cells.p 4 (by omega)
  have hle := hc.le
  obtain ⟨b4, o4, c4, h4, hb4, i0, i1, i2, i3', i4⟩ := hc.at h.below hk
  rw [h4] at c2
  rw [hi] at i0 i1 i2 i3' i4
  obtain ⟨op, a, b, c, d⟩ := i
  simp only at i0 i1 i2 i3' i4
  obtain ⟨n4, hn4⟩ : ∃ n4, n4 = code.length := ⟨_, rfl⟩
  rw [← hn4] at c2 hk hle
  rw [hpc] at c1
  have hgB := h.gB
  have hlt := h.lt
  have hki : (k : Int) < (n4 : Int) := by omega
  have e1 : decide ((k : Int) < 0) = false := by simp
  have e2 : decide ((n4 : Int) ≤ (k : Int)) = false := by simp; omega
  have hst : ∀ n, (storeIns (.pointer (some ⟨W.heap.size, 0, none⟩)) (.agg #[.int .i64 op, .int .i64 a, .int .i64 b, .int .i64 c, .int .i64 d])).run Try.prog ((W.drewN n).alloc (.cells #[.int .i64 0, .int .i64 0, .int .i64 0, .int .i64 0, .int .i64 0] 40)) = .ok () ((W.drewN n).alloc (.cells #[.int .i64 op, .int .i64 a, .int .i64 b, .int .i64 c, .int .i64 d] 40)) := fun n => ins_store (W.drewN n) op a b c d
  have e2' : decide (n4 ≤ k) = false := by simp; omega
  have a1 := fun n o => cell_al (W := W.drewN n) c1 o
  have a2 := fun n o => cell_al (W := W.drewN n) c2 o
  have a3 := fun n o => cell_al (W := W.drewN n) i0 o
  have a4 := fun n o => cell_al (W := W.drewN n) i1 o
  have a5 := fun n o => cell_al (W := W.drewN n) i2 o
  have a6 := fun n o => cell_al (W := W.drewN n) i3' o
  have a7 := fun n o => cell_al (W := W.drewN n) i4 o
  have HF := Lib.hid (fun W => fits_any g ⟨op, a, b, c, d⟩ W)
  rw [hf] at HF
  clear h hc h4 hn4 hi hf
  go_enter Try.func20, Try.ntmps20
  go_wp2_with fail
  go_quiet (fail)
  go_wp2_with fail
  go_region
  have hI : Blk ((W.drewN (nq + 1)).alloc (.cells #[.int .i64 op, .int .i64 a, .int .i64 b, .int .i64 c, .int .i64 d] 40)) W.heap.size 40 [.int .i64 op, .int .i64 a, .int .i64 b, .int .i64 c, .int .i64 d] := Blk.new (W.drewN (nq + 1)) 40 [.int .i64 op, .int .i64 a, .int .i64 b, .int .i64 c, .int .i64 d]
  have hX := (H.out.drewN (nq + 1)).alloc (.cells #[.int .i64 op, .int .i64 a, .int .i64 b, .int .i64 c, .int .i64 d] 40)
  obtain ⟨ib, hib⟩ : ∃ ib, ib = W.heap.size := ⟨_, rfl⟩
  rw [← hib] at hI ⊢
  generalize (W.drewN (nq + 1)).alloc (.cells #[.int .i64 op, .int .i64 a, .int .i64 b, .int .i64 c, .int .i64 d] 40) = w3 at hI hX ⊢
  have X3 := Lib.hid hX
  have I3 := Lib.hid hI
  have j0 := hI.cell 0
  have j1 := hI.cell 1
  have j2 := hI.cell 2
  have j3 := hI.cell 3
  have j4 := hI.cell 4
  simp only [List.getElem?_cons_zero, List.getElem?_cons_succ] at j0 j1 j2 j3 j4
  clear hI hX a1 a2 a3 a4 a5 a6 a7 hst i0 i1 i2 i3' i4 c1 c2 hib
  go_wp2_with fail
  refine (HF.out _).mono ?_
  rintro e w4 ⟨rfl, hb4⟩
  have X4 := Lib.hid (X3.out.call hb4)
  clear hb4
  go_wp2_with fail
  go_returns
  exact ⟨by first | rfl | simp, X4.out⟩
set_option maxRecDepth 100000 in
set_option maxHeartbeats 4000000 in
theorem step_plain_no (B g : Nat) (w0 W : World) (prg : List Value) (room fuel : Int) (s : St) (vs vp vg vt : Value) (code : List Ins) (h : RS B g w0 W prg room fuel s vs vp vg vt) (hc : CodeIn w0 B prg code) (k : Nat) (hpc : s.pc = (k : Int)) (hk : k < code.length) (i : Ins) (hi : code.getD k noIns = i) (hf : fitsF i = true) (hu : (s.used : Int) ≤ fuel) (hfu : fuel ≤ 35184372088832) (ho8 : i.op ≠ 8) (ho12 : i.op ≠ 12) (ho13 : i.op ≠ 13) (ho15 : i.op ≠ 15) (ho17 : i.op ≠ 17) (ho16 : i.op ≠ 16) (hlt9 : fuel - (s.used : Int) < ((1 : Nat) : Int)) :
    Calls Try.prog 20 #[.pointer (some ⟨g, 0, none⟩)] W fun e w' => e = .returned (.tuple #[.int .i64 1, .bool true]) ∧ RS B g w0 w' prg room fuel s vs vp vg vt := by
  have H := Lib.hid h
  have c1 := h.cells.pc
  have c2 := h.cells.p 4 (by omega)
  have hle := hc.le
  obtain ⟨b4, o4, c4, h4, hb4, i0, i1, i2, i3', i4⟩ := hc.at h.below hk
  rw [h4] at c2
  rw [hi] at i0 i1 i2 i3' i4
  obtain ⟨op, a, b, c, d⟩ := i
  simp only at i0 i1 i2 i3' i4
  obtain ⟨n4, hn4⟩ : ∃ n4, n4 = code.length := ⟨_, rfl⟩
  rw [← hn4] at c2 hk hle
  rw [hpc] at c1
  have hgB := h.gB
  have hlt := h.lt
  have hki : (k : Int) < (n4 : Int) := by omega
  have e1 : decide ((k : Int) < 0) = false := by simp
  have e2 : decide ((n4 : Int) ≤ (k : Int)) = false := by simp; omega
  have hst : ∀ n, (storeIns (.pointer (some ⟨W.heap.size, 0, none⟩)) (.agg #[.int .i64 op, .int .i64 a, .int .i64 b, .int .i64 c, .int .i64 d])).run Try.prog ((W.drewN n).alloc (.cells #[.int .i64 0, .int .i64 0, .int .i64 0, .int .i64 0, .int .i64 0] 40)) = .ok () ((W.drewN n).alloc (.cells #[.int .i64 op, .int .i64 a, .int .i64 b, .int .i64 c, .int .i64 d] 40)) := fun n => ins_store (W.drewN n) op a b c d
  have e2' : decide (n4 ≤ k) = false := by simp; omega
  have a1 := fun n o => cell_al (W := W.drewN n) c1 o
  have a2 := fun n o => cell_al (W := W.drewN n) c2 o
  have a3 := fun n o => cell_al (W := W.drewN n) i0 o
  have a4 := fun n o => cell_al (W := W.drewN n) i1 o
  have a5 := fun n o => cell_al (W := W.drewN n) i2 o
  have a6 := fun n o => cell_al (W := W.drewN n) i3' o
  have a7 := fun n o => cell_al (W := W.drewN n) i4 o
  have HL := Lib.hid hlt9
  have e8' : (op == 8) = false := by simpa using ho8
  have e12' : (op == 12) = false := by simpa using ho12
  have e13' : (op == 13) = false := by simpa using ho13
  have e15' : (op == 15) = false := by simpa using ho15
  have e17' : (op == 17) = false := by simpa using ho17
  have e16' : (op == 16) = false := by simpa using ho16
  simp only at ho8 ho12 ho13 ho15 ho16 ho17
  clear ho8 ho12 ho13 ho15 ho16 ho17
  have HF := Lib.hid (fun W => fits_any g ⟨op, a, b, c, d⟩ W)
  rw [hf] at HF
  clear h hc h4 hn4 hi hf hlt9
  go_enter Try.func20, Try.ntmps20
  go_wp2_with fail
  go_quiet (fail)
  go_wp2_with fail
  go_region
  have hI : Blk ((W.drewN (nq + 1)).alloc (.cells #[.int .i64 op, .int .i64 a, .int .i64 b, .int .i64 c, .int .i64 d] 40)) W.heap.size 40 [.int .i64 op, .int .i64 a, .int .i64 b, .int .i64 c, .int .i64 d] := Blk.new (W.drewN (nq + 1)) 40 [.int .i64 op, .int .i64 a, .int .i64 b, .int .i64 c, .int .i64 d]
  have hX := (H.out.drewN (nq + 1)).alloc (.cells #[.int .i64 op, .int .i64 a, .int .i64 b, .int .i64 c, .int .i64 d] 40)
  obtain ⟨ib, hib⟩ : ∃ ib, ib = W.heap.size := ⟨_, rfl⟩
  rw [← hib] at hI ⊢
  generalize (W.drewN (nq + 1)).alloc (.cells #[.int .i64 op, .int .i64 a, .int .i64 b, .int .i64 c, .int .i64 d] 40) = w3 at hI hX ⊢
  have X3 := Lib.hid hX
  have I3 := Lib.hid hI
  have j0 := hI.cell 0
  have j1 := hI.cell 1
  have j2 := hI.cell 2
  have j3 := hI.cell 3
  have j4 := hI.cell 4
  simp only [List.getElem?_cons_zero, List.getElem?_cons_succ] at j0 j1 j2 j3 j4
  clear hI hX a1 a2 a3 a4 a5 a6 a7 hst i0 i1 i2 i3' i4 c1 c2 hib
  go_wp2_with fail
  refine (HF.out _).mono ?_
  rintro e w4 ⟨rfl, hb4⟩
  have X4 := Lib.hid (X3.out.call hb4)
  have I4 := Lib.hid (I3.out.below hb4 I3.out.lt)
  clear hb4 j0 j1 j2 j3 j4 X3 I3 HF
  have j0 := I4.out.cell 0
  have j1 := I4.out.cell 1
  have j2 := I4.out.cell 2
  have j3 := I4.out.cell 3
  have j4 := I4.out.cell 4
  simp only [List.getElem?_cons_zero, List.getElem?_cons_succ] at j0 j1 j2 j3 j4
  go_wp2_with fail
  refine (pay_no B g w0 _ prg room fuel s vs vp vg vt 1 X4.out hu hfu (by have := HL.out; omega)).mono ?_
  rintro e w5 ⟨rfl, hb5⟩
  have X5 := Lib.hid (X4.out.call hb5)
  clear hb5
  go_wp2_with fail
  go_returns
  exact ⟨by first | rfl | simp, X5.out⟩
set_option maxRecDepth 100000 in
set_option maxHeartbeats 4000000 in
theorem step_plain_yes (B g : Nat) (w0 W : World) (prg : List Value) (room fuel : Int) (s : St) (vs vp vg vt : Value) (code : List Ins) (h : RS B g w0 W prg room fuel s vs vp vg vt) (hc : CodeIn w0 B prg code) (k : Nat) (hpc : s.pc = (k : Int)) (hk : k < code.length) (i : Ins) (hi : code.getD k noIns = i) (hf : fitsF i = true) (hu : (s.used : Int) ≤ fuel) (hfu : fuel ≤ 35184372088832) (ho8 : i.op ≠ 8) (ho12 : i.op ≠ 12) (ho13 : i.op ≠ 13) (ho15 : i.op ≠ 15) (ho17 : i.op ≠ 17) (ho16 : i.op ≠ 16) (hlt9 : ¬ fuel - (s.used : Int) < ((1 : Nat) : Int)) (cd : Int) (fin : Bool) (R : World → Prop) (HD : ∀ W', RS B g w0 W' prg room fuel { s with used := s.used + 1, pc := s.pc + 1 } vs vp vg vt → Calls Try.prog 32 #[.pointer (some ⟨g, 0, none⟩), insV i, .int .i64 0, .string ⟨#[]⟩] W' fun e w' => e = .returned (.tuple #[.int .i64 cd, .bool fin]) ∧ R w') :
    Calls Try.prog 20 #[.pointer (some ⟨g, 0, none⟩)] W fun e w' => e = .returned (.tuple #[.int .i64 cd, .bool fin]) ∧ R w' := by
  have H := Lib.hid h
  have c1 := h.cells.pc
  have c2 := h.cells.p 4 (by omega)
  have hle := hc.le
  obtain ⟨b4, o4, c4, h4, hb4, i0, i1, i2, i3', i4⟩ := hc.at h.below hk
  rw [h4] at c2
  rw [hi] at i0 i1 i2 i3' i4
  obtain ⟨op, a, b, c, d⟩ := i
  simp only at i0 i1 i2 i3' i4
  obtain ⟨n4, hn4⟩ : ∃ n4, n4 = code.length := ⟨_, rfl⟩
  rw [← hn4] at c2 hk hle
  rw [hpc] at c1
  have hgB := h.gB
  have hlt := h.lt
  have hki : (k : Int) < (n4 : Int) := by omega
  have e1 : decide ((k : Int) < 0) = false := by simp
  have e2 : decide ((n4 : Int) ≤ (k : Int)) = false := by simp; omega
  have hst : ∀ n, (storeIns (.pointer (some ⟨W.heap.size, 0, none⟩)) (.agg #[.int .i64 op, .int .i64 a, .int .i64 b, .int .i64 c, .int .i64 d])).run Try.prog ((W.drewN n).alloc (.cells #[.int .i64 0, .int .i64 0, .int .i64 0, .int .i64 0, .int .i64 0] 40)) = .ok () ((W.drewN n).alloc (.cells #[.int .i64 op, .int .i64 a, .int .i64 b, .int .i64 c, .int .i64 d] 40)) := fun n => ins_store (W.drewN n) op a b c d
  have e2' : decide (n4 ≤ k) = false := by simp; omega
  have a1 := fun n o => cell_al (W := W.drewN n) c1 o
  have a2 := fun n o => cell_al (W := W.drewN n) c2 o
  have a3 := fun n o => cell_al (W := W.drewN n) i0 o
  have a4 := fun n o => cell_al (W := W.drewN n) i1 o
  have a5 := fun n o => cell_al (W := W.drewN n) i2 o
  have a6 := fun n o => cell_al (W := W.drewN n) i3' o
  have a7 := fun n o => cell_al (W := W.drewN n) i4 o
  have HL := Lib.hid hlt9
  have e8' : (op == 8) = false := by simpa using ho8
  have e12' : (op == 12) = false := by simpa using ho12
  have e13' : (op == 13) = false := by simpa using ho13
  have e15' : (op == 15) = false := by simpa using ho15
  have e17' : (op == 17) = false := by simpa using ho17
  have e16' : (op == 16) = false := by simpa using ho16
  simp only at ho8 ho12 ho13 ho15 ho16 ho17
  clear ho8 ho12 ho13 ho15 ho16 ho17
  have HF := Lib.hid (fun W => fits_any g ⟨op, a, b, c, d⟩ W)
  rw [hf] at HF
  clear h hc h4 hn4 hi hf hlt9
  go_enter Try.func20, Try.ntmps20
  go_wp2_with fail
  go_quiet (fail)
  go_wp2_with fail
  go_region
  have hI : Blk ((W.drewN (nq + 1)).alloc (.cells #[.int .i64 op, .int .i64 a, .int .i64 b, .int .i64 c, .int .i64 d] 40)) W.heap.size 40 [.int .i64 op, .int .i64 a, .int .i64 b, .int .i64 c, .int .i64 d] := Blk.new (W.drewN (nq + 1)) 40 [.int .i64 op, .int .i64 a, .int .i64 b, .int .i64 c, .int .i64 d]
  have hX := (H.out.drewN (nq + 1)).alloc (.cells #[.int .i64 op, .int .i64 a, .int .i64 b, .int .i64 c, .int .i64 d] 40)
  obtain ⟨ib, hib⟩ : ∃ ib, ib = W.heap.size := ⟨_, rfl⟩
  rw [← hib] at hI ⊢
  generalize (W.drewN (nq + 1)).alloc (.cells #[.int .i64 op, .int .i64 a, .int .i64 b, .int .i64 c, .int .i64 d] 40) = w3 at hI hX ⊢
  have X3 := Lib.hid hX
  have I3 := Lib.hid hI
  have j0 := hI.cell 0
  have j1 := hI.cell 1
  have j2 := hI.cell 2
  have j3 := hI.cell 3
  have j4 := hI.cell 4
  simp only [List.getElem?_cons_zero, List.getElem?_cons_succ] at j0 j1 j2 j3 j4
  clear hI hX a1 a2 a3 a4 a5 a6 a7 hst i0 i1 i2 i3' i4 c1 c2 hib
  go_wp2_with fail
  refine (HF.out _).mono ?_
  rintro e w4 ⟨rfl, hb4⟩
  have X4 := Lib.hid (X3.out.call hb4)
  have I4 := Lib.hid (I3.out.below hb4 I3.out.lt)
  clear hb4 j0 j1 j2 j3 j4 X3 I3 HF
  have j0 := I4.out.cell 0
  have j1 := I4.out.cell 1
  have j2 := I4.out.cell 2
  have j3 := I4.out.cell 3
  have j4 := I4.out.cell 4
  simp only [List.getElem?_cons_zero, List.getElem?_cons_succ] at j0 j1 j2 j3 j4
  go_wp2_with fail
  refine (pay_yes B g w0 _ prg room fuel s vs vp vg vt 1 X4.out hu hfu (by have := HL.out; omega)).mono ?_
  rintro e w5 ⟨rfl, hx5, hfar⟩
  have hne : ib ≠ g := fun e9 => by
    have h1 := I4.out
    have h2 := X4.out.box
    rw [e9] at h1
    unfold Blk at h1 h2
    rw [h1] at h2
    injection (Option.some.inj h2) with e1 e2
    exact absurd e2 (by decide)
  have X5 := Lib.hid hx5
  have I5 := Lib.hid (show Blk w5 ib 40 _ from (hfar ib hne).trans I4.out)
  have hpc5 := hx5.cells.pc
  have hfr5 := hx5.cells.fr 25
  simp only [hpc] at hpc5
  have hx6 := hx5.setPc ((k : Int) + 1)
  have hi6 : Blk (w5.setCell ⟨g, 25, none⟩ (.int .i64 ((k : Int) + 1))) ib 40 [.int .i64 op, .int .i64 a, .int .i64 b, .int .i64 c, .int .i64 d] := I5.out.same (Below.heap_setCell _ _ _ ib hne)
  have X6 := Lib.hid hx6
  clear hx5 hfar j0 j1 j2 j3 j4 hx6
  have j0 := hi6.cell 0
  have j1 := hi6.cell 1
  have j2 := hi6.cell 2
  have j3 := hi6.cell 3
  have j4 := hi6.cell 4
  simp only [List.getElem?_cons_zero, List.getElem?_cons_succ] at j0 j1 j2 j3 j4
  clear hi6
  have HD' := Lib.hid (HD _ (by rw [hpc]; exact X6.out))
  clear HD
  go_wp2_with fail
  refine HD'.out.mono ?_
  rintro e w7 ⟨rfl, h7⟩
  have H7 := Lib.hid h7
  clear h7
  go_wp2_with fail
  go_returns
  exact ⟨by first | rfl | simp, H7.out⟩
end Go.Proofs.Ytgejpggbmgiocaa
