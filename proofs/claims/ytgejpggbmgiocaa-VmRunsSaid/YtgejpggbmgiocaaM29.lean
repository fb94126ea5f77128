/- Steps2, Cell of this seat, in one text. -/
import Derived.Test.YtgejpggbmgiocaaM26
/- What Look, Copy, Text, Turn and Join do, as the plain function says. -/
namespace Go.Proofs.Ytgejpggbmgiocaa
open Go.RowKit
set_option maxRecDepth 100000 in
set_option maxHeartbeats 4000000 in
theorem dok_16 (B g : Nat) (w0 W : World) (prg : List Value) (room fuel : Int) (s : St) (vs vp vg vt : Value) (p : Prog) (S K V : List Int) (i : Ins) (ho : i.op = 16) (h : RS B g w0 W prg room fuel s vs vp vg vt) (hp : PairsIn w0 B prg p.signs S K V) (hn : s.told.length ≤ 10000000000) (hsn : s.signs.length ≤ 262144) (hro : room ≤ 10000000000) :
    Calls Try.prog 32 #[.pointer (some ⟨g, 0, none⟩), insV i, .int .i64 0, .string ⟨#[]⟩] W (Res B g w0 prg room fuel (doF (mgF p.signs S K V) p room s i)) := by
  obtain ⟨op, a, b, c, d⟩ := i
  simp only at ho
  subst ho
  have hr : doF (mgF p.signs S K V) p room s ⟨16, a, b, c, d⟩ = (match mgF p.signs S K V s.signs with
    | none => (s, some 3)
    | some l => if room < (s.told.length + l.length : Nat) then (s, some 1) else ({ s with told := s.told ++ l, signs := [] }, none)) := rfl
  rw [hr]
  obtain ⟨r, hrr⟩ : ∃ r, r = (match mgF p.signs S K V s.signs with
    | none => (s, some 3)
    | some l => if room < (s.told.length + l.length : Nat) then (s, some 1) else ({ s with told := s.told ++ l, signs := [] }, none) : St × Option Nat) := ⟨_, rfl⟩
  have H1 := Lib.hid (h.alloc (.cells #[.int .i64 16, .int .i64 a, .int .i64 b, .int .i64 c, .int .i64 d] 40))
  have HJ := Lib.hid (fun (W : World) (h : RS B g w0 W prg room fuel s vs vp vg vt) => join_any B g w0 W prg room fuel s vs vp vg vt p.signs S K V h hp hn hsn hro)
  have HRR := Lib.hid hrr
  rw [← hrr]
  have hlt := h.lt
  obtain ⟨k7, hk7, hb7⟩ := and_seven a
  clear h hrr hr
  unfold insV
  go_enter Try.func32, Try.ntmps32
  go_wp2_with fail
  go_quiet (fail)
  go_wp2_with fail
  refine (HJ.out _ (H1.out.drewN nq)).mono ?_
  rintro e w3 ⟨vg', vt', hj⟩
  cases hm : mgF p.signs S K V s.signs with
  | none =>
    rw [hm] at hj
    obtain ⟨rfl, hx⟩ := hj
    have hq : r = (s, some 3) := by rw [HRR.out, hm]
    subst hq
    have HX := Lib.hid hx
    clear hx hm
    go_wp2_with fail
    go_returns
    exact ⟨by first | rfl | simp, vs, vp, vg', vt', HX.out⟩
  | some l =>
    rw [hm] at hj
    simp only at hj
    by_cases hc : room < ((s.told.length + l.length : Nat) : Int)
    · rw [if_pos hc] at hj
      obtain ⟨rfl, hx⟩ := hj
      have hq : r = (s, some 1) := by rw [HRR.out, hm]; exact if_pos hc
      subst hq
      have HX := Lib.hid hx
      clear hx hm hc
      go_wp2_with fail
      go_returns
      exact ⟨by first | rfl | simp, vs, vp, vg', vt', HX.out⟩
    · rw [if_neg hc] at hj
      obtain ⟨rfl, hx⟩ := hj
      have hq : r = ({ s with told := s.told ++ l, signs := [] }, none) := by rw [HRR.out, hm]; exact if_neg hc
      subst hq
      have HX := Lib.hid hx
      clear hx hm hc
      go_wp2_with fail
      go_returns
      exact ⟨by first | rfl | simp, vs, vp, vg', vt', HX.out⟩
theorem dok_14 (B g : Nat) (w0 W : World) (prg : List Value) (room fuel : Int) (s : St) (vs vp vg vt : Value) (mg : List Int → Option (List Int)) (p : Prog) (i : Ins) (ho : i.op = 14) (h : RS B g w0 W prg room fuel s vs vp vg vt) :
    Calls Try.prog 32 #[.pointer (some ⟨g, 0, none⟩), insV i, .int .i64 0, .string ⟨#[]⟩] W (Res B g w0 prg room fuel (doF mg p room s i)) := by
  obtain ⟨op, a, b, c, d⟩ := i
  simp only at ho
  subst ho
  refine (do_14 B g w0 W prg room fuel s vs vp vg vt a b c d 0 _ h).mono ?_
  rintro e w2 ⟨rfl, hr⟩
  exact ⟨rfl, vp, .slice none 0 0, vg, vt, hr⟩
theorem dok_12 (B g : Nat) (w0 W : World) (prg : List Value) (room fuel : Int) (s : St) (vs vp vg vt : Value) (mg : List Int → Option (List Int)) (p : Prog) (i : Ins) (ho : i.op = 12) (hf : fitsF i = true) (hb : isB (s.reg i.a) = true) (hn : s.put.length ≤ 10000000000) (h : RS B g w0 W prg room fuel s vs vp vg vt) :
    Calls Try.prog 32 #[.pointer (some ⟨g, 0, none⟩), insV i, .int .i64 0, .string ⟨#[]⟩] W (Res B g w0 prg room fuel (doF mg p room s i)) := by
  obtain ⟨op, a, b, c, d⟩ := i
  simp only at ho
  subst ho
  obtain ⟨ka, hka, rfl⟩ := reg_nat (x := a) (by simpa [fitsF] using hf)
  have hb2 : 0 ≤ s.reg (ka : Int) ∧ s.reg (ka : Int) < 256 := by simpa [isB] using hb
  refine (do_12 B g w0 W prg room fuel s vs vp vg vt b c d ka hka 0 _ h hn hb2.1 hb2.2).mono ?_
  rintro e w2 ⟨rfl, gg, cap, hr⟩
  exact ⟨rfl, vs, _, vg, vt, hr⟩
theorem dok_13 (B g : Nat) (w0 W : World) (prg : List Value) (room fuel : Int) (s : St) (vs vp vg vt : Value) (mg : List Int → Option (List Int)) (p : Prog) (i : Ins) (ho : i.op = 13) (hf : fitsF i = true) (h : RS B g w0 W prg room fuel s vs vp vg vt) (hn : s.put.length + (textF p s i).length ≤ 10000000000) :
    Calls Try.prog 32 #[.pointer (some ⟨g, 0, none⟩), insV i, .int .i64 0, .string ⟨(textF p s i).toArray⟩] W (Res B g w0 prg room fuel (doF mg p room s i)) := by
  obtain ⟨op, a, b, c, d⟩ := i
  simp only at ho
  subst ho
  have hf2 : isReg b = true ∧ isReg a = true := by simpa [fitsF] using hf
  obtain ⟨ka, hka, rfl⟩ := reg_nat hf2.2
  refine (do_13 B g w0 W prg room fuel s vs vp vg vt b c d ka hka 0 _ h (by show s.put.length + (textF p s _).toArray.size ≤ _; rw [List.size_toArray]; exact hn)).mono ?_
  rintro e w2 ⟨rfl, vp', hr⟩
  exact ⟨rfl, vs, vp', vg, vt, hr⟩
theorem dok_8 (B g : Nat) (w0 W : World) (prg : List Value) (room fuel : Int) (s : St) (vs vp vg vt : Value) (mg : List Int → Option (List Int)) (p : Prog) (i : Ins) (ho : i.op = 8) (hf : fitsF i = true) (ht : TabsIn w0 B prg p.tabs) (cc : Nat) (hcell : cellF p s i = some cc) (h : RS B g w0 W prg room fuel s vs vp vg vt) :
    Calls Try.prog 32 #[.pointer (some ⟨g, 0, none⟩), insV i, .int .i64 (cc : Int), .string ⟨#[]⟩] W (Res B g w0 prg room fuel (doF mg p room s i)) := by
  obtain ⟨op, a, b, c, d⟩ := i
  simp only at ho
  subst ho
  have hf2 : isReg b = true ∧ isReg a = true := by simpa [fitsF] using hf
  obtain ⟨ka, hka, rfl⟩ := reg_nat hf2.2
  have e : doF mg p room s ⟨8, (ka : Int), b, c, d⟩ = (s.setReg (ka : Int) ((p.tabs.getD d.toNat noTbl).data.getD ((cellF p s ⟨8, (ka : Int), b, c, d⟩).getD 0) 0), none) := rfl
  rw [e, hcell]
  unfold cellF at hcell
  simp only at hcell
  split at hcell
  · cases hcell
  · rename_i h1
    split at hcell
    · cases hcell
    · rename_i h2
      split at hcell
      · cases hcell
      · rename_i h3
        obtain ⟨kd, rfl⟩ := Int.eq_ofNat_of_zero_le (a := d) (by omega)
        simp only [Int.toNat_natCast] at h2 h3 hcell ⊢
        injection hcell with hcell
        have hcc : cc < (p.tabs.getD kd noTbl).data.length := by
          generalize (p.tabs.getD kd noTbl) = T at *
          have hd := Int.ediv_mul_le (T.data.length : Int) (b := T.cols) (by omega)
          have hm : (s.reg (ka : Int) + 1) * T.cols ≤ (T.data.length : Int) / T.cols * T.cols := Int.mul_le_mul_of_nonneg_right (by omega) (by omega)
          rw [Int.add_mul, Int.one_mul] at hm
          have h0 : 0 ≤ s.reg (ka : Int) * T.cols := Int.mul_nonneg (by omega) (by omega)
          omega
        refine (do_8 B g w0 W prg room fuel s vs vp vg vt b c ka hka kd p.tabs (by omega) ht cc hcc _ h).mono ?_
        rintro e w2 ⟨rfl, hr⟩
        exact ⟨rfl, vs, vp, vg, vt, hr⟩
end Go.Proofs.Ytgejpggbmgiocaa
/- Where a look's cell lies. -/
namespace Go.Proofs.Ytgejpggbmgiocaa
open Go.RowKit
def storeTab (p v : Value) : Sem Unit := Instr.storeAt 89 p v
theorem store_tab (p v : Value) : Instr.storeAt 89 p v = storeTab p v := rfl
attribute [local go_sem ↓] store_tab
theorem info89 : (Try.prog.info? 89).map (·.size) = some 2 := by kernel_rfl
theorem tab_store (W : World) (k : Nat) (hk : k = W.heap.size) (z0 z1 a b : Value) (ha : a.oneCell' = true) (hb : b.oneCell' = true) : (storeTab (.pointer (some ⟨k, 0, none⟩)) (.agg #[a, b])).run Try.prog (W.alloc (.cells #[z0, z1] 89)) = .ok () (W.alloc (.cells #[a, b] 89)) := by
  subst hk
  exact run_storeAt_new W 89 _ _ info89 rfl (by simp [ha, hb])
theorem size_al (W : World) (o : Obj) (n : Nat) : W.heap.size + 1 = ((W.alloc o).drewN n).heap.size := (Array.size_push ..).symm
def cellV : Option Nat → Value
  | none => .tuple #[.int .i64 0, .bool false]
  | some c => .tuple #[.int .i64 (c : Int), .bool true]
set_option maxRecDepth 100000 in
set_option maxHeartbeats 4000000 in
theorem cell_any (B g : Nat) (w0 W : World) (prg : List Value) (room fuel : Int) (s : St) (vs vp vg vt : Value) (op c d : Int) (ka kb : Nat) (hka : ka < 8) (hkb : kb < 8) (p : Prog) (ht : TabsIn w0 B prg p.tabs) (h : RS B g w0 W prg room fuel s vs vp vg vt) :
    Calls Try.prog 28 #[.pointer (some ⟨g, 0, none⟩), .agg #[.int .i64 op, .int .i64 (ka : Int), .int .i64 (kb : Int), .int .i64 c, .int .i64 d]] W fun e w' => e = .returned (cellV (cellF p s ⟨op, (ka : Int), (kb : Int), c, d⟩)) ∧ RS B g w0 w' prg room fuel s vs vp vg vt ∧ Below W.heap.size W w' := by
  obtain ⟨r, hr⟩ : ∃ r, r = cellF p s ⟨op, (ka : Int), (kb : Int), c, d⟩ := ⟨_, rfl⟩
  rw [← hr]
  unfold cellF at hr
  have H := Lib.hid h
  have H1 := Lib.hid (h.alloc (.cells #[.int .i64 op, .int .i64 (ka : Int), .int .i64 (kb : Int), .int .i64 c, .int .i64 d] 40))
  have HL1 := Lib.hid ((Below.refl W.heap.size W).alloc (Nat.le_refl _) (.cells #[.int .i64 op, .int .i64 (ka : Int), .int .i64 (kb : Int), .int .i64 c, .int .i64 d] 40))
  have hlt := h.lt
  have ca := H1.out.cells.reg ka hka
  have cb := H1.out.cells.reg kb hkb
  have c5 := H1.out.cells.p 5 (by omega)
  have hle1 := ht.le
  have hra : s.reg (ka : Int) = s.regs.getD ka 0 := rfl
  have hrb : s.reg (kb : Int) = s.regs.getD kb 0 := rfl
  simp only [hra, hrb] at hr
  obtain ⟨ra, hra2⟩ : ∃ x, x = s.regs.getD ka 0 := ⟨_, rfl⟩
  obtain ⟨rb, hrb2⟩ : ∃ x, x = s.regs.getD kb 0 := ⟨_, rfl⟩
  rw [← hra2] at hr ca
  rw [← hrb2] at hr cb
  have ika : (ka : Int) < 8 := by omega
  have ikb : (kb : Int) < 8 := by omega
  have HRA := Lib.hid (And.intro hra2 hrb2)
  clear hra hrb hra2 hrb2
  by_cases h1 : d < 0
  · have hq : r = none := by rw [hr, if_pos (Or.inl h1)]
    subst hq
    have e1 : decide (d < 0) = true := by simp; omega
    obtain ⟨A, ct, DA, dc, h5, -, -⟩ := ht.arr
    rw [h5] at c5
    clear ht h hr h5 ca cb h1
    unfold cellV
    go_enter Try.func28, Try.ntmps28
    go_wp2_with fail
    go_quiet (fail)
    go_wp2_with fail
    go_returns
    exact ⟨by first | rfl | simp, H1.out.drewN _, below_drewN HL1.out _⟩
  have e1 : decide (d < 0) = false := by simp; omega
  by_cases h2 : (p.tabs.length : Int) ≤ d
  · have hq : r = none := by rw [hr, if_pos (Or.inr h2)]
    subst hq
    have e2 : decide ((p.tabs.length : Int) ≤ d) = true := by simp; omega
    obtain ⟨A, ct, DA, dc, h5, -, -⟩ := ht.arr
    rw [h5] at c5
    obtain ⟨nt, hnt⟩ : ∃ n, n = p.tabs.length := ⟨_, rfl⟩
    rw [← hnt] at c5 e2 hle1
    clear ht h hr h5 ca cb h1 h2 hnt
    unfold cellV
    go_enter Try.func28, Try.ntmps28
    go_wp2_with fail
    go_quiet (fail)
    go_wp2_with fail
    go_returns
    exact ⟨by first | rfl | simp, H1.out.drewN _, below_drewN HL1.out _⟩
  rw [if_neg (by omega)] at hr
  obtain ⟨kd, rfl⟩ := Int.eq_ofNat_of_zero_le (a := d) (by omega)
  simp only [Int.toNat_natCast] at hr
  have hd : kd < p.tabs.length := by omega
  obtain ⟨bt, ot, ct, DA, dc, h5, t0, t1, harr⟩ := ht.at H1.out.below hd
  rw [h5] at c5
  have hle2 := ht.led kd hd
  have e2 : decide ((p.tabs.length : Int) ≤ (kd : Int)) = false := by simp; omega
  have e2' : decide (p.tabs.length ≤ kd) = false := by simp; omega
  obtain ⟨nt, hnt⟩ : ∃ n, n = p.tabs.length := ⟨_, rfl⟩
  rw [← hnt] at c5 hd hle1 e2 e2'
  obtain ⟨T, hT⟩ : ∃ T, T = p.tabs.getD kd noTbl := ⟨_, rfl⟩
  rw [← hT] at hr t0 t1 hle2
  obtain ⟨nd, hnd⟩ : ∃ n, n = T.data.length := ⟨_, rfl⟩
  rw [← hnd] at hr t1 hle2
  obtain ⟨co, hco⟩ : ∃ n, n = T.cols := ⟨_, rfl⟩
  rw [← hco] at hr t0
  have i1 : (kd : Int) < (nt : Int) := by omega
  clear hnt hT hnd hco ht harr h h5 h1 h2
  have a1 := fun n o => cell_al (W := (W.alloc (.cells #[.int .i64 op, .int .i64 (ka : Int), .int .i64 (kb : Int), .int .i64 c, .int .i64 (kd : Int)] 40)).drewN n) t0 o
  have a2 := fun n o => cell_al (W := (W.alloc (.cells #[.int .i64 op, .int .i64 (ka : Int), .int .i64 (kb : Int), .int .i64 c, .int .i64 (kd : Int)] 40)).drewN n) t1 o
  have hst : ∀ n, (storeTab (.pointer (some ⟨W.heap.size + 1, 0, none⟩)) (.agg #[.int .i64 co, .slice DA nd dc])).run Try.prog (((W.alloc (.cells #[.int .i64 op, .int .i64 (ka : Int), .int .i64 (kb : Int), .int .i64 c, .int .i64 (kd : Int)] 40)).drewN n).alloc (.cells #[.int .i64 0, .slice none 0 0] 89)) = .ok () (((W.alloc (.cells #[.int .i64 op, .int .i64 (ka : Int), .int .i64 (kb : Int), .int .i64 c, .int .i64 (kd : Int)] 40)).drewN n).alloc (.cells #[.int .i64 co, .slice DA nd dc] 89)) := fun n => tab_store ((W.alloc (.cells #[.int .i64 op, .int .i64 (ka : Int), .int .i64 (kb : Int), .int .i64 c, .int .i64 (kd : Int)] 40)).drewN n) _ (size_al W _ n) _ _ _ _ rfl rfl
  have HR := Lib.hid hr
  have HCA := Lib.hid (And.intro ca cb)
  clear hr
  go_enter Try.func28, Try.ntmps28
  go_wp2_with fail
  go_quiet (fail)
  go_wp2_with fail
  go_region
  obtain ⟨o1, ho1⟩ : ∃ x, x = (Obj.cells #[.int .i64 co, .slice DA nd dc] 89) := ⟨_, rfl⟩
  have hI : Blk (((W.alloc (.cells #[.int .i64 op, .int .i64 (ka : Int), .int .i64 (kb : Int), .int .i64 c, .int .i64 (kd : Int)] 40)).drewN (nq + 1)).alloc (.cells #[.int .i64 co, .slice DA nd dc] 89)) (W.heap.size + 1) 89 [.int .i64 co, .slice DA nd dc] := by
    have := Blk.new ((W.alloc (.cells #[.int .i64 op, .int .i64 (ka : Int), .int .i64 (kb : Int), .int .i64 c, .int .i64 (kd : Int)] 40)).drewN (nq + 1)) 89 [.int .i64 co, .slice DA nd dc]
    rwa [← size_al] at this
  have hJ : Blk (((W.alloc (.cells #[.int .i64 op, .int .i64 (ka : Int), .int .i64 (kb : Int), .int .i64 c, .int .i64 (kd : Int)] 40)).drewN (nq + 1)).alloc (.cells #[.int .i64 co, .slice DA nd dc] 89)) W.heap.size 40 [.int .i64 op, .int .i64 (ka : Int), .int .i64 (kb : Int), .int .i64 c, .int .i64 (kd : Int)] :=
    (Blk.new W 40 [.int .i64 op, .int .i64 (ka : Int), .int .i64 (kb : Int), .int .i64 c, .int .i64 (kd : Int)]).drewN (nq + 1) |>.alloc _
  have hX := (H1.out.drewN (nq + 1)).alloc (.cells #[.int .i64 co, .slice DA nd dc] 89)
  clear o1 ho1
  have hL := (below_drewN HL1.out (nq + 1)).alloc (show W.heap.size ≤ _ by rw [← size_al]; omega) (.cells #[.int .i64 co, .slice DA nd dc] 89)
  generalize (((W.alloc (.cells #[.int .i64 op, .int .i64 (ka : Int), .int .i64 (kb : Int), .int .i64 c, .int .i64 (kd : Int)] 40)).drewN (nq + 1)).alloc (.cells #[.int .i64 co, .slice DA nd dc] 89)) = w3 at hI hJ hX hL ⊢
  have ca := hX.cells.reg ka hka
  have cb := hX.cells.reg kb hkb
  rw [← HRA.out.1] at ca
  rw [← HRA.out.2] at cb
  obtain ⟨j0, j1, j4, u0, u1⟩ : w3.cell? ⟨W.heap.size, 1, none⟩ = some (.int .i64 (ka : Int)) ∧ w3.cell? ⟨W.heap.size, 2, none⟩ = some (.int .i64 (kb : Int)) ∧ w3.cell? ⟨W.heap.size, 4, none⟩ = some (.int .i64 (kd : Int)) ∧ w3.cell? ⟨W.heap.size + 1, 0, none⟩ = some (.int .i64 co) ∧ w3.cell? ⟨W.heap.size + 1, 1, none⟩ = some (.slice DA nd dc) :=
    ⟨by rw [hJ.cell]; rfl, by rw [hJ.cell]; rfl, by rw [hJ.cell]; rfl, by rw [hI.cell]; rfl, by rw [hI.cell]; rfl⟩
  obtain ⟨q, hq⟩ : ∃ q, q = W.heap.size := ⟨_, rfl⟩
  rw [← hq] at j0 j1 j4 u0 u1 ⊢
  have X3 := Lib.hid hX
  have L3 := Lib.hid hL
  clear hI hJ hX hL HL1 a1 a2 hst t0 t1 c5 H H1 HCA hq
  by_cases h3 : co < 1
  · have e3 : decide (co < 1) = true := by simp; omega
    have hq : r = none := by rw [HR.out, if_pos h3]
    subst hq
    clear HR h3 HRA
    go_wp2_with fail
    all_goals first | (exfalso; have h9 := HB.out; omega) | (go_returns; exact ⟨by first | rfl | exact congrArg Ending.returned (by show Value.tuple #[.int .i64 _, .bool true] = Value.tuple #[.int .i64 _, .bool true]; simp only [HZ.out.2.1]), (by first | exact X3.out | exact X3.out.drewN _ | exact (X3.out.drewN _).drewN _), (by first | exact L3.out | exact below_drewN L3.out _)⟩)
  have e3 : decide (co < 1) = false := by simp; omega
  have hr2 := HR.out
  rw [if_neg h3] at hr2
  have hqw : wrap64 ((nd : Int) / co) = (nd : Int) / co := by
    have k1 : (nd : Int) / co ≤ (nd : Int) := Int.ediv_le_self _ (by omega)
    have k2 : 0 ≤ (nd : Int) / co := Int.ediv_nonneg (by omega) (by omega)
    generalize (nd : Int) / co = z at k1 k2 ⊢
    exact IntWalk.wrap64_in _ (by omega)
  have hco0 : (co == 0) = false := by simp; omega
  have hco1 : co ≠ 0 := by omega
  obtain ⟨qt, hqt⟩ : ∃ x, x = (nd : Int) / co := ⟨_, rfl⟩
  have HQT := Lib.hid hqt
  rw [← hqt] at hr2
  have hqw : wrap64 ((nd : Int) / co) = qt := hqw.trans hqt.symm
  have HR2 := Lib.hid hr2
  clear hr2 HR hqt
  by_cases b1 : ra < 0
  · have d1 : decide (ra < 0) = true := by simp; omega
    have hq : r = none := by rw [HR2.out, if_pos (Or.inl b1)]
    subst hq
    have HB := Lib.hid b1
    clear HR2 HRA HQT b1
    go_wp2_with fail
    go_quiet (fail)
    go_wp2_with fail
    all_goals first | (exfalso; have h9 := HB.out; omega) | (go_returns; exact ⟨by first | rfl | exact congrArg Ending.returned (by show Value.tuple #[.int .i64 _, .bool true] = Value.tuple #[.int .i64 _, .bool true]; simp only [HZ.out.2.1]), (by first | exact X3.out | exact X3.out.drewN _ | exact (X3.out.drewN _).drewN _), (by first | exact L3.out | exact below_drewN L3.out _)⟩)
  have d1 : decide (ra < 0) = false := by simp; omega
  by_cases b2 : qt ≤ ra
  · have d2 : decide (qt ≤ ra) = true := by simp; omega
    have hq : r = none := by rw [HR2.out, if_pos (Or.inr (Or.inl b2))]
    subst hq
    have HB := Lib.hid (And.intro b1 b2)
    clear HR2 HRA HQT b1 b2
    go_wp2_with fail
    go_quiet (fail)
    go_wp2_with fail
    all_goals first | (exfalso; have h9 := HB.out; omega) | (go_returns; exact ⟨by first | rfl | exact congrArg Ending.returned (by show Value.tuple #[.int .i64 _, .bool true] = Value.tuple #[.int .i64 _, .bool true]; simp only [HZ.out.2.1]), (by first | exact X3.out | exact X3.out.drewN _ | exact (X3.out.drewN _).drewN _), (by first | exact L3.out | exact below_drewN L3.out _)⟩)
  have d2 : decide (qt ≤ ra) = false := by simp; omega
  by_cases b3 : rb < 0
  · have d3 : decide (rb < 0) = true := by simp; omega
    have hq : r = none := by rw [HR2.out, if_pos (Or.inr (Or.inr (Or.inl b3)))]
    subst hq
    have HB := Lib.hid (And.intro b1 (And.intro b2 b3))
    clear HR2 HRA HQT b1 b2 b3
    go_wp2_with fail
    go_quiet (fail)
    go_wp2_with fail
    all_goals first | (exfalso; have h9 := HB.out; omega) | (go_returns; exact ⟨by first | rfl | exact congrArg Ending.returned (by show Value.tuple #[.int .i64 _, .bool true] = Value.tuple #[.int .i64 _, .bool true]; simp only [HZ.out.2.1]), (by first | exact X3.out | exact X3.out.drewN _ | exact (X3.out.drewN _).drewN _), (by first | exact L3.out | exact below_drewN L3.out _)⟩)
  have d3 : decide (rb < 0) = false := by simp; omega
  by_cases b4 : co ≤ rb
  · have d4 : decide (co ≤ rb) = true := by simp; omega
    have hq : r = none := by rw [HR2.out, if_pos (Or.inr (Or.inr (Or.inr b4)))]
    subst hq
    have HB := Lib.hid (And.intro b1 (And.intro b2 (And.intro b3 b4)))
    clear HR2 HRA HQT b1 b2 b3 b4
    go_wp2_with fail
    go_quiet (fail)
    go_wp2_with fail
    all_goals first | (exfalso; have h9 := HB.out; omega) | (go_returns; exact ⟨by first | rfl | exact congrArg Ending.returned (by show Value.tuple #[.int .i64 _, .bool true] = Value.tuple #[.int .i64 _, .bool true]; simp only [HZ.out.2.1]), (by first | exact X3.out | exact X3.out.drewN _ | exact (X3.out.drewN _).drewN _), (by first | exact L3.out | exact below_drewN L3.out _)⟩)
  have d4 : decide (co ≤ rb) = false := by simp; omega
  have hq : r = some (ra * co + rb).toNat := by rw [HR2.out, if_neg (by omega)]
  have hm1 : ra * co ≤ (nd : Int) := by
    have hd := Int.ediv_mul_le (nd : Int) (b := co) (by omega)
    rw [← HQT.out] at hd
    have hm : ra * co ≤ qt * co := Int.mul_le_mul_of_nonneg_right (by omega) (by omega)
    omega
  have hm2 : (ra + 1) * co ≤ (nd : Int) := by
    have hd := Int.ediv_mul_le (nd : Int) (b := co) (by omega)
    rw [← HQT.out] at hd
    have hm : (ra + 1) * co ≤ qt * co := Int.mul_le_mul_of_nonneg_right (by omega) (by omega)
    omega
  rw [Int.add_mul, Int.one_mul] at hm2
  have hm0 : 0 ≤ ra * co := Int.mul_nonneg (by omega) (by omega)
  have w1 : wrap64 (ra * co) = ra * co := IntWalk.wrap64_in _ (by omega)
  have w2 : wrap64 (ra * co + rb) = ra * co + rb := IntWalk.wrap64_in _ (by omega)
  obtain ⟨z, hz⟩ : ∃ z : Nat, (z : Int) = ra * co + rb := ⟨(ra * co + rb).toNat, by omega⟩
  have hq2 : r = some z := by rw [hq]; congr 1; omega
  subst hq2
  have w2 : wrap64 (ra * co + rb) = (z : Int) := w2.trans hz.symm
  have w3 : wrap64 (wrap64 (ra * co) + rb) = (z : Int) := by rw [w1, w2]
  have HZ := Lib.hid (And.intro w1 (And.intro w2 w3))
  have HB := Lib.hid (And.intro b1 (And.intro b2 (And.intro b3 b4)))
  clear HR2 HRA HQT b1 b2 b3 b4 hq hz hm1 hm2 hm0
  go_wp2_with fail
  go_quiet (fail)
  go_wp2_with fail
  all_goals first | (exfalso; have h9 := HB.out; omega) | (go_returns; exact ⟨by first | rfl | exact congrArg Ending.returned (by show Value.tuple #[.int .i64 _, .bool true] = Value.tuple #[.int .i64 _, .bool true]; simp only [HZ.out.2.1]), (by first | exact X3.out | exact X3.out.drewN _ | exact (X3.out.drewN _).drewN _), (by first | exact L3.out | exact below_drewN L3.out _)⟩)
end Go.Proofs.Ytgejpggbmgiocaa
