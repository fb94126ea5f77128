/- RD1, Step3 of this seat, in one text. -/
import Derived.Test.YtgejpggbmgiocaaM22
import Derived.Test.YtgejpggbmgiocaaM24
import Derived.Test.YtgejpggbmgiocaaM19
/- The reference's instructions: first ones. -/
namespace Go.Proofs.Ytgejpggbmgiocaa
open Go.RowKit
def endI : Option Nat → Int
  | none => -1
  | some c => (c : Int)
def ResR (B g gr : Nat) (w0 : World) (prg : List Value) (room fuel : Int) (r : St × Option Nat) (e : Ending) (w' : World) : Prop :=
  e = .returned (.int .i64 (endI r.2)) ∧ ∃ gk' vs' vp' vg' vt', RR B g gr gk' w0 w' prg room fuel r.1 vs' vp' vg' vt'
theorem RR.drew {B g gr gk : Nat} {w0 W : World} {prg : List Value} {room fuel : Int} {s : St} {vs vp vg vt : Value} (h : RR B g gr gk w0 W prg room fuel s vs vp vg vt) : RR B g gr gk w0 W.drew prg room fuel s vs vp vg vt := h.drewN 1
theorem rmark_any (v : Value) (x : Int) (hx : x = 0 ∨ x = 1) (w : World) : Calls Try.prog 43 #[v, .int .i64 x] w fun e w' => e = .returned (.bool true) ∧ w' = w := by
  rcases hx with rfl | rfl
  all_goals
    go_enter Try.func43, Try.ntmps43
    go_wp2_with fail
    go_returns
    exact ⟨by first | rfl | simp, rfl⟩
theorem rmark_bad (v : Value) (x : Int) (h0 : ¬ (x = 0 ∨ x = 1)) (w : World) : Calls Try.prog 43 #[v, .int .i64 x] w fun e w' => e = .returned (.bool false) ∧ w' = w := by
  have e0 : (x == 0) = false := by simp; omega
  have e1 : (x == 1) = false := by simp; omega
  clear h0
  go_enter Try.func43, Try.ntmps43
  go_wp2_with fail
  go_returns
  exact ⟨by first | rfl | simp, rfl⟩
theorem rreg_any (v : Value) (x : Int) (w : World) : Calls Try.prog 44 #[v, .int .i64 x] w fun e w' => e = .returned (.bool (isReg x)) ∧ w' = w := by
  obtain ⟨r, hr⟩ : ∃ r, r = isReg x := ⟨_, rfl⟩
  rw [← hr]
  unfold isReg at hr
  by_cases h0 : 0 ≤ x
  · by_cases h1 : x ≤ 7
    · have e0 : decide (0 ≤ x) = true := by simpa using h0
      have e1 : decide (x ≤ 7) = true := by simpa using h1
      obtain rfl : r = true := by rw [hr]; simp; omega
      clear hr h0 h1
      go_enter Try.func44, Try.ntmps44
      go_wp2_with fail
      go_returns
      exact ⟨by first | rfl | simp, rfl⟩
    · have e0 : decide (0 ≤ x) = true := by simpa using h0
      have e1 : decide (x ≤ 7) = false := by simpa using h1
      obtain rfl : r = false := by rw [hr]; simp; omega
      clear hr h0 h1
      go_enter Try.func44, Try.ntmps44
      go_wp2_with fail
      go_returns
      exact ⟨by first | rfl | simp, rfl⟩
  · have e0 : decide (0 ≤ x) = false := by simpa using h0
    obtain rfl : r = false := by rw [hr]; simp; omega
    clear hr h0
    go_enter Try.func44, Try.ntmps44
    go_wp2_with fail
    go_returns
    exact ⟨by first | rfl | simp, rfl⟩
theorem rbyte_any (x : Int) (w : World) : Calls Try.prog 45 #[.int .i64 x] w fun e w' => e = .returned (.bool (isB x)) ∧ w' = w := by
  obtain ⟨r, hr⟩ : ∃ r, r = isB x := ⟨_, rfl⟩
  rw [← hr]
  unfold isB at hr
  by_cases h0 : 0 ≤ x
  · by_cases h1 : x ≤ 255
    · have e0 : decide (0 ≤ x) = true := by simpa using h0
      have e1 : decide (x ≤ 255) = true := by simpa using h1
      obtain rfl : r = true := by rw [hr]; simp; omega
      clear hr h0 h1
      go_enter Try.func45, Try.ntmps45
      go_wp2_with fail
      go_returns
      exact ⟨by first | rfl | simp, rfl⟩
    · have e0 : decide (0 ≤ x) = true := by simpa using h0
      have e1 : decide (x ≤ 255) = false := by simpa using h1
      obtain rfl : r = false := by rw [hr]; simp; omega
      clear hr h0 h1
      go_enter Try.func45, Try.ntmps45
      go_wp2_with fail
      go_returns
      exact ⟨by first | rfl | simp, rfl⟩
  · have e0 : decide (0 ≤ x) = false := by simpa using h0
    obtain rfl : r = false := by rw [hr]; simp; omega
    clear hr h0
    go_enter Try.func45, Try.ntmps45
    go_wp2_with fail
    go_returns
    exact ⟨by first | rfl | simp, rfl⟩
theorem rsigns_any (x : Int) (w : World) : Calls Try.prog 46 #[.int .i64 x] w fun e w' => e = .returned (.int .i64 (sgF x)) ∧ w' = w := by
  obtain ⟨r, hr⟩ : ∃ r, r = sgF x := ⟨_, rfl⟩
  rw [← hr]
  unfold sgF at hr
  by_cases h0 : x < 0
  · rw [if_pos h0] at hr
    subst hr
    go_enter Try.func46, Try.ntmps46
    go_wp2_with fail
    go_returns
    exact ⟨by first | rfl | simp, rfl⟩
  · by_cases h1 : 65536 < x
    · rw [if_neg h0, if_pos h1] at hr
      subst hr
      go_enter Try.func46, Try.ntmps46
      go_wp2_with fail
      go_returns
      exact ⟨by first | rfl | simp, rfl⟩
    · rw [if_neg h0, if_neg h1] at hr
      subst hr
      go_enter Try.func46, Try.ntmps46
      go_wp2_with fail
      go_returns
      exact ⟨by first | rfl | simp, rfl⟩
theorem rbound_any (x : Int) (w : World) : Calls Try.prog 21 #[.int .i64 x] w fun e w' => e = .returned (.int .i64 (boundF x)) ∧ w' = w := by
  obtain ⟨r, hr⟩ : ∃ r, r = boundF x := ⟨_, rfl⟩
  rw [← hr]
  unfold boundF at hr
  by_cases h0 : x < 0
  · rw [if_pos h0] at hr
    subst hr
    go_enter Try.func21, Try.ntmps21
    go_wp2_with fail
    go_returns
    exact ⟨by first | rfl | simp, rfl⟩
  · by_cases h1 : 1048576 < x
    · rw [if_neg h0, if_pos h1] at hr
      subst hr
      go_enter Try.func21, Try.ntmps21
      go_wp2_with fail
      go_returns
      exact ⟨by first | rfl | simp, rfl⟩
    · rw [if_neg h0, if_neg h1] at hr
      subst hr
      go_enter Try.func21, Try.ntmps21
      go_wp2_with fail
      go_returns
      exact ⟨by first | rfl | simp, rfl⟩
set_option maxRecDepth 100000 in
set_option maxHeartbeats 4000000 in
theorem rdo_1 (B g gr gk : Nat) (w0 W : World) (prg : List Value) (room fuel : Int) (s : St) (vs vp vg vt : Value) (mg : List Int → Option (List Int)) (p : Prog) (i : Ins) (ho : i.op = 1) (hf : fitsF i = true) (h : RR B g gr gk w0 W prg room fuel s vs vp vg vt) :
    Calls Try.prog 35 #[.pointer (some ⟨g, 0, none⟩), insV i] W (ResR B g gr w0 prg room fuel (doF mg p room s i)) := by
  obtain ⟨op, a, b, c, d⟩ := i
  simp only at ho
  subst ho
  have H1 := Lib.hid (h.alloc (.cells #[.int .i64 1, .int .i64 a, .int .i64 b, .int .i64 c, .int .i64 d] 40))
  have hlt := h.lt
  clear h hf
  unfold insV
  go_enter Try.func35, Try.ntmps35
  go_wp2_with fail
  go_returns
  exact ⟨by first | rfl | simp, gk, vs, vp, vg, vt, (by first | exact H1.out)⟩
set_option maxRecDepth 100000 in
set_option maxHeartbeats 4000000 in
theorem rdo_2 (B g gr gk : Nat) (w0 W : World) (prg : List Value) (room fuel : Int) (s : St) (vs vp vg vt : Value) (mg : List Int → Option (List Int)) (p : Prog) (i : Ins) (ho : i.op = 2) (hf : fitsF i = true) (h : RR B g gr gk w0 W prg room fuel s vs vp vg vt) :
    Calls Try.prog 35 #[.pointer (some ⟨g, 0, none⟩), insV i] W (ResR B g gr w0 prg room fuel (doF mg p room s i)) := by
  obtain ⟨op, a, b, c, d⟩ := i
  simp only at ho
  subst ho
  obtain ⟨ka, hka, rfl⟩ := reg_nat (x := a) (by simpa [fitsF] using hf)
  have H1 := Lib.hid (h.alloc (.cells #[.int .i64 2, .int .i64 (ka : Int), .int .i64 b, .int .i64 c, .int .i64 d] 40))
  have hlt := h.lt
  have c0 := H1.out.cells.vr
  have n1 : decide ((ka : Int) < 0) = false := by simp
  have n2 : decide ((8 : Int) ≤ (ka : Int)) = false := by simp; omega
  have n4 : decide (ka < 8) = true := by simpa using hka
  have n5 : ¬ 8 ≤ ka := by omega
  have n6 : (ka : Int) < 8 := by omega
  have c1 := H1.out.cells.reg ka hka
  have f1 := H1.out.cells.frr ka
  clear h hf
  unfold insV
  go_enter Try.func35, Try.ntmps35
  go_wp2_with fail
  go_region
  go_wp2_with fail
  go_returns
  exact ⟨by first | rfl | simp, gk, vs, vp, vg, vt, (by first | exact (H1.out.drewN _).setReg ka b | exact H1.out.drew.setReg ka b)⟩
set_option maxRecDepth 100000 in
set_option maxHeartbeats 4000000 in
theorem rdo_4 (B g gr gk : Nat) (w0 W : World) (prg : List Value) (room fuel : Int) (s : St) (vs vp vg vt : Value) (mg : List Int → Option (List Int)) (p : Prog) (i : Ins) (ho : i.op = 4) (hf : fitsF i = true) (h : RR B g gr gk w0 W prg room fuel s vs vp vg vt) :
    Calls Try.prog 35 #[.pointer (some ⟨g, 0, none⟩), insV i] W (ResR B g gr w0 prg room fuel (doF mg p room s i)) := by
  obtain ⟨op, a, b, c, d⟩ := i
  simp only at ho
  subst ho
  have H1 := Lib.hid (h.alloc (.cells #[.int .i64 4, .int .i64 a, .int .i64 b, .int .i64 c, .int .i64 d] 40))
  have hlt := h.lt
  have H := Lib.hid h
  have c1 := H1.out.cells.pc
  have f1 := H1.out.cells.fr 17
  clear h hf
  unfold insV
  go_enter Try.func35, Try.ntmps35
  go_wp2_with fail
  go_returns
  exact ⟨by first | rfl | simp, gk, vs, vp, vg, vt, (by first | exact H1.out.setPc c | exact (H.out.setPc c).alloc _)⟩
set_option maxRecDepth 100000 in
set_option maxHeartbeats 4000000 in
theorem rdo_3 (B g gr gk : Nat) (w0 W : World) (prg : List Value) (room fuel : Int) (s : St) (vs vp vg vt : Value) (mg : List Int → Option (List Int)) (p : Prog) (i : Ins) (ho : i.op = 3) (hf : fitsF i = true) (h : RR B g gr gk w0 W prg room fuel s vs vp vg vt) :
    Calls Try.prog 35 #[.pointer (some ⟨g, 0, none⟩), insV i] W (ResR B g gr w0 prg room fuel (doF mg p room s i)) := by
  obtain ⟨op, a, b, c, d⟩ := i
  simp only at ho
  subst ho
  have hf2 : isReg b = true ∧ isReg a = true := by simpa [fitsF] using hf
  obtain ⟨kb, hkb, rfl⟩ := reg_nat hf2.1
  obtain ⟨ka, hka, rfl⟩ := reg_nat hf2.2
  clear hf2
  have H1 := Lib.hid (h.alloc (.cells #[.int .i64 3, .int .i64 (ka : Int), .int .i64 (kb : Int), .int .i64 c, .int .i64 d] 40))
  have hlt := h.lt
  have c0 := H1.out.cells.vr
  have n1 : decide ((ka : Int) < 0) = false := by simp
  have n2 : decide ((8 : Int) ≤ (ka : Int)) = false := by simp; omega
  have n4 : decide (ka < 8) = true := by simpa using hka
  have n5 : ¬ 8 ≤ ka := by omega
  have n6 : (ka : Int) < 8 := by omega
  have p1 : decide ((kb : Int) < 0) = false := by simp
  have p2 : decide ((8 : Int) ≤ (kb : Int)) = false := by simp; omega
  have p4 : decide (kb < 8) = true := by simpa using hkb
  have p5 : ¬ 8 ≤ kb := by omega
  have p6 : (kb : Int) < 8 := by omega
  have c2 := H1.out.cells.reg kb hkb
  have c3 := H1.out.cells.reg ka hka
  have f1 := H1.out.cells.frr ka
  clear h hf
  unfold insV
  go_enter Try.func35, Try.ntmps35
  go_wp2_with fail
  go_region
  go_wp2_with fail
  go_returns
  exact ⟨by first | rfl | simp, gk, vs, vp, vg, vt, (by first | exact (H1.out.drewN _).setReg ka _ | exact H1.out.drew.setReg ka _)⟩
set_option maxRecDepth 100000 in
set_option maxHeartbeats 4000000 in
theorem rdo_5 (B g gr gk : Nat) (w0 W : World) (prg : List Value) (room fuel : Int) (s : St) (vs vp vg vt : Value) (mg : List Int → Option (List Int)) (p : Prog) (i : Ins) (ho : i.op = 5) (hf : fitsF i = true) (h : RR B g gr gk w0 W prg room fuel s vs vp vg vt) :
    Calls Try.prog 35 #[.pointer (some ⟨g, 0, none⟩), insV i] W (ResR B g gr w0 prg room fuel (doF mg p room s i)) := by
  obtain ⟨op, a, b, c, d⟩ := i
  simp only at ho
  subst ho
  obtain ⟨ka, hka, rfl⟩ := reg_nat (x := a) (by simpa [fitsF] using hf)
  have H1 := Lib.hid (h.alloc (.cells #[.int .i64 5, .int .i64 (ka : Int), .int .i64 b, .int .i64 c, .int .i64 d] 40))
  have hlt := h.lt
  have c0 := H1.out.cells.vr
  have n1 : decide ((ka : Int) < 0) = false := by simp
  have n2 : decide ((8 : Int) ≤ (ka : Int)) = false := by simp; omega
  have n4 : decide (ka < 8) = true := by simpa using hka
  have n5 : ¬ 8 ≤ ka := by omega
  have n6 : (ka : Int) < 8 := by omega
  have c1 := H1.out.cells.reg ka hka
  have c2 := H1.out.cells.pc
  have f1 := H1.out.cells.fr 17
  have e : doF mg p room s ⟨5, (ka : Int), b, c, d⟩ = (if s.regs.getD ka 0 = b then { s with pc := c } else s, none) := rfl
  rw [e]
  clear e
  obtain ⟨r, hr⟩ : ∃ r, r = s.regs.getD ka 0 := ⟨_, rfl⟩
  rw [← hr] at c1
  rw [← hr]
  clear hr
  clear h hf
  unfold insV
  by_cases hc : r = b
  · rw [if_pos hc]
    have e1 : (r == b) = true := by simpa using hc
    have e2 : (r == b) = true := by simpa using hc
    clear hc
    go_enter Try.func35, Try.ntmps35
    go_wp2_with fail
    go_quiet (fail)
    go_wp2_with fail
    go_returns
    exact ⟨by first | rfl | simp, gk, vs, vp, vg, vt, (H1.out.drewN _).setPc c⟩
  · rw [if_neg hc]
    have e1 : (r == b) = false := by simpa using hc
    have e2 : (r == b) = false := by simpa using hc
    clear hc
    go_enter Try.func35, Try.ntmps35
    go_wp2_with fail
    go_quiet (fail)
    go_wp2_with fail
    go_returns
    exact ⟨by first | rfl | simp, gk, vs, vp, vg, vt, H1.out.drewN _⟩
set_option maxRecDepth 100000 in
set_option maxHeartbeats 4000000 in
theorem rdo_6 (B g gr gk : Nat) (w0 W : World) (prg : List Value) (room fuel : Int) (s : St) (vs vp vg vt : Value) (mg : List Int → Option (List Int)) (p : Prog) (i : Ins) (ho : i.op = 6) (hf : fitsF i = true) (h : RR B g gr gk w0 W prg room fuel s vs vp vg vt) :
    Calls Try.prog 35 #[.pointer (some ⟨g, 0, none⟩), insV i] W (ResR B g gr w0 prg room fuel (doF mg p room s i)) := by
  obtain ⟨op, a, b, c, d⟩ := i
  simp only at ho
  subst ho
  obtain ⟨ka, hka, rfl⟩ := reg_nat (x := a) (by simpa [fitsF] using hf)
  have H1 := Lib.hid (h.alloc (.cells #[.int .i64 6, .int .i64 (ka : Int), .int .i64 b, .int .i64 c, .int .i64 d] 40))
  have hlt := h.lt
  have c0 := H1.out.cells.vr
  have n1 : decide ((ka : Int) < 0) = false := by simp
  have n2 : decide ((8 : Int) ≤ (ka : Int)) = false := by simp; omega
  have n4 : decide (ka < 8) = true := by simpa using hka
  have n5 : ¬ 8 ≤ ka := by omega
  have n6 : (ka : Int) < 8 := by omega
  have c1 := H1.out.cells.reg ka hka
  have c2 := H1.out.cells.pc
  have f1 := H1.out.cells.fr 17
  have e : doF mg p room s ⟨6, (ka : Int), b, c, d⟩ = (if s.regs.getD ka 0 < b then { s with pc := c } else s, none) := rfl
  rw [e]
  clear e
  obtain ⟨r, hr⟩ : ∃ r, r = s.regs.getD ka 0 := ⟨_, rfl⟩
  rw [← hr] at c1
  rw [← hr]
  clear hr
  clear h hf
  unfold insV
  by_cases hc : r < b
  · rw [if_pos hc]
    have e1 : decide (r < b) = true := by simpa using hc
    have e2 : decide (r < b) = true := by simpa using hc
    clear hc
    go_enter Try.func35, Try.ntmps35
    go_wp2_with fail
    go_quiet (fail)
    go_wp2_with fail
    go_returns
    exact ⟨by first | rfl | simp, gk, vs, vp, vg, vt, (H1.out.drewN _).setPc c⟩
  · rw [if_neg hc]
    have e1 : decide (r < b) = false := by simpa using hc
    have e2 : decide (r < b) = false := by simpa using hc
    clear hc
    go_enter Try.func35, Try.ntmps35
    go_wp2_with fail
    go_quiet (fail)
    go_wp2_with fail
    go_returns
    exact ⟨by first | rfl | simp, gk, vs, vp, vg, vt, H1.out.drewN _⟩
end Go.Proofs.Ytgejpggbmgiocaa
/- Steps of instructions that have a test of their own: Copy, Sign, Join. -/
namespace Go.Proofs.Ytgejpggbmgiocaa
open Go.RowKit
attribute [local go_sem ↓] store_ins
theorem cost_any (n : Nat) (w : World) (h : n ≤ 262144) : Calls Try.prog 30 #[.int .i64 (n : Int)] w fun e w' => e = .returned (.int .i64 ((1 + 4 * n : Nat) : Int)) ∧ w' = w := by
  have d1 : decide ((262144 : Int) < (n : Int)) = false := by simp; omega
  have e9 : ((1 + 4 * n : Nat) : Int) = 1 + 4 * (n : Int) := by omega
  rw [e9]
  clear e9
  go_enter Try.func30, Try.ntmps30
  go_wp2_with fail
  go_returns
  exact ⟨by first | rfl | simp, rfl⟩
set_option maxRecDepth 100000 in
set_option maxHeartbeats 8000000 in
theorem st_12 (B g : Nat) (w0 W : World) (prg : List Value) (room fuel : Int) (s : St) (vs vp vg vt : Value) (mg : List Int → Option (List Int)) (p : Prog) (h : RS B g w0 W prg room fuel s vs vp vg vt) (hc : CodeIn w0 B prg p.code) (hu : (s.used : Int) ≤ fuel) (hfu : fuel ≤ 35184372088832) (k : Nat) (hpc : s.pc = (k : Int)) (hk : k < p.code.length) (i : Ins) (hi : p.code.getD k noIns = i) (hf : fitsF i = true) (ho : i.op = 12) 
    (HD : ∀ W', RS B g w0 W' prg room fuel { s with used := s.used + 1, pc := s.pc + 1 } vs vp vg vt → isB (s.reg i.a) = true → Calls Try.prog 32 #[.pointer (some ⟨g, 0, none⟩), insV i, .int .i64 0, .string ⟨#[]⟩] W' (Res B g w0 prg room fuel (doF mg p room { s with used := s.used + 1, pc := s.pc + 1 } i))) :
    Calls Try.prog 20 #[.pointer (some ⟨g, 0, none⟩)] W (Res B g w0 prg room fuel (stepF mg p room fuel s)) := by
  obtain ⟨r, hr⟩ : ∃ r, r = stepF mg p room fuel s := ⟨_, rfl⟩
  rw [stepF_at mg p room fuel s k hpc hk i hi] at hr
  have H := Lib.hid h
  have c1 := h.cells.pc
  have c2 := h.cells.p 4 (by omega)
  have hle := hc.le
  obtain ⟨b4, o4, c4, h4, hb4, i0, i1, i2, i3', i4⟩ := hc.at h.below hk
  rw [h4] at c2
  rw [hi] at i0 i1 i2 i3' i4
  obtain ⟨op, a, b, c, d⟩ := i
  simp only at i0 i1 i2 i3' i4
  obtain ⟨n4, hn4⟩ : ∃ n4, n4 = p.code.length := ⟨_, rfl⟩
  rw [← hn4] at c2 hk hle
  rw [hpc] at c1
  have hgB := h.gB
  have hlt := h.lt
  have hki : (k : Int) < (n4 : Int) := by omega
  have e1 : decide ((k : Int) < 0) = false := by simp
  have e2 : decide ((n4 : Int) ≤ (k : Int)) = false := by simp; omega
  simp only at ho
  subst ho
  have hst : ∀ n, (storeIns (.pointer (some ⟨W.heap.size, 0, none⟩)) (.agg #[.int .i64 12, .int .i64 a, .int .i64 b, .int .i64 c, .int .i64 d])).run Try.prog ((W.drewN n).alloc (.cells #[.int .i64 0, .int .i64 0, .int .i64 0, .int .i64 0, .int .i64 0] 40)) = .ok () ((W.drewN n).alloc (.cells #[.int .i64 12, .int .i64 a, .int .i64 b, .int .i64 c, .int .i64 d] 40)) := fun n => ins_store (W.drewN n) 12 a b c d
  have e2' : decide (n4 ≤ k) = false := by simp; omega
  have a1 := fun n o => cell_al (W := W.drewN n) c1 o
  have a2 := fun n o => cell_al (W := W.drewN n) c2 o
  have a3 := fun n o => cell_al (W := W.drewN n) i0 o
  have a4 := fun n o => cell_al (W := W.drewN n) i1 o
  have a5 := fun n o => cell_al (W := W.drewN n) i2 o
  have a6 := fun n o => cell_al (W := W.drewN n) i3' o
  have a7 := fun n o => cell_al (W := W.drewN n) i4 o
  have HF := Lib.hid (fun W => fits_any g ⟨12, a, b, c, d⟩ W)
  rw [hf] at HF
  have HFIT := Lib.hid hf
  have hf2 : isReg a = true := by simpa [fitsF] using hf
  obtain ⟨ka, hka, rfl⟩ := reg_nat hf2
  have HREG : s.reg (ka : Int) = s.regs.getD ka 0 := rfl
  have HRR := Lib.hid hr
  rw [show stepF mg p room fuel s = r by rw [hr, stepF_at mg p room fuel s k hpc (by rw [← hn4]; exact hk) _ hi]]
  have HPC := Lib.hid hpc
  have HD0 := Lib.hid HD
  clear h hc h4 hi hf hr HD hn4
  go_enter Try.func20, Try.ntmps20
  go_wp2_with fail
  go_quiet (fail)
  go_wp2_with fail
  go_region
  have hI : Blk ((W.drewN (nq + 1)).alloc (.cells #[.int .i64 12, .int .i64 (ka : Int), .int .i64 b, .int .i64 c, .int .i64 d] 40)) W.heap.size 40 [.int .i64 12, .int .i64 (ka : Int), .int .i64 b, .int .i64 c, .int .i64 d] := Blk.new (W.drewN (nq + 1)) 40 [.int .i64 12, .int .i64 (ka : Int), .int .i64 b, .int .i64 c, .int .i64 d]
  have hX := (H.out.drewN (nq + 1)).alloc (.cells #[.int .i64 12, .int .i64 (ka : Int), .int .i64 b, .int .i64 c, .int .i64 d] 40)
  obtain ⟨ib, hib⟩ : ∃ ib, ib = W.heap.size := ⟨_, rfl⟩
  rw [← hib] at hI ⊢
  generalize (W.drewN (nq + 1)).alloc (.cells #[.int .i64 12, .int .i64 (ka : Int), .int .i64 b, .int .i64 c, .int .i64 d] 40) = w3 at hI hX ⊢
  have X3 := Lib.hid hX
  have I3 := Lib.hid hI
  have j0 := hI.cell 0
  have j1 := hI.cell 1
  have j2 := hI.cell 2
  have j3 := hI.cell 3
  have j4 := hI.cell 4
  simp only [List.getElem?_cons_zero, List.getElem?_cons_succ] at j0 j1 j2 j3 j4
  clear hI hX a1 a2 a3 a4 a5 a6 a7 hst i0 i1 i2 i3' i4 c1 c2 hib
  go_wp2_with fail
  refine (HF.out _).mono ?_
  rintro e w4 ⟨rfl, hb4⟩
  have X4 := Lib.hid (X3.out.call hb4)
  have I4 := Lib.hid (I3.out.below hb4 I3.out.lt)
  clear hb4 j0 j1 j2 j3 j4 X3 I3 HF
  have j0 := I4.out.cell 0
  have j1 := I4.out.cell 1
  have j2 := I4.out.cell 2
  have j3 := I4.out.cell 3
  have j4 := I4.out.cell 4
  simp only [List.getElem?_cons_zero, List.getElem?_cons_succ] at j0 j1 j2 j3 j4
  obtain ⟨rv, hrv⟩ : ∃ x, x = s.regs.getD ka 0 := ⟨_, rfl⟩
  have v1 := X4.out.cells.reg ka hka
  rw [← hrv] at v1
  rw [← hrv] at HREG
  have HRV := Lib.hid hrv
  clear hrv
  have HIB := Lib.hid (fun w => isByte_any rv w)
  obtain ⟨bb, hbb⟩ : ∃ x, x = isB rv := ⟨_, rfl⟩
  rw [← hbb] at HIB
  have HBB := Lib.hid hbb
  clear hbb
  cases bb with
  | false =>
    go_wp2_with fail
    go_quiet ((go_at_call 29; exact Calls.quiet_of_same (HIB.out _)))
    have hrr : r = (s, some 3) := by
      rw [HRR.out]
      unfold costF
      rw [if_neg (by simp [HFIT.out])]
      rw [if_neg (by show ¬ (12 : Int) = 8; decide)]
      rw [if_pos rfl]
      rw [HREG, ← HBB.out, if_pos rfl]
    subst hrr
    go_wp2_with fail
    (try go_quiet (fail))
    (try go_wp2_with fail)
    go_returns
    exact ⟨by first | rfl | simp, vs, vp, vg, vt, (by first | exact X4.out | exact X4.out.drewN _)⟩
  | true =>
    obtain ⟨Ap, cp, hvp⟩ := own_sl X4.out.put
    obtain ⟨np, hnp⟩ : ∃ n, n = s.put.length := ⟨_, rfl⟩
    have v2 := X4.out.cells.vp
    rw [← hnp] at hvp
    rw [hvp] at v2
    have HNP := Lib.hid (And.intro hnp hvp)
    clear hnp hvp
    by_cases hfull : 262144 ≤ np
    · have d9 : decide ((262144 : Int) ≤ (np : Int)) = true := by simp; omega
      have HFULL := Lib.hid hfull
      clear hfull
      go_wp2_with fail
      go_quiet ((go_at_call 29; exact Calls.quiet_of_same (HIB.out _)))
      have hrr : r = (s, some 1) := by
        rw [HRR.out]
        unfold costF
        rw [if_neg (by simp [HFIT.out])]
        rw [if_neg (by show ¬ (12 : Int) = 8; decide)]
        rw [if_pos rfl]
        rw [HREG, ← HBB.out, if_neg (by simp), if_pos (by rw [← HNP.out.1]; exact HFULL.out)]
      subst hrr
      go_wp2_with fail
      (try go_quiet (fail))
      (try go_wp2_with fail)
      go_returns
      exact ⟨by first | rfl | simp, vs, vp, vg, vt, (by first | exact X4.out | exact X4.out.drewN _)⟩
    · have d9 : decide ((262144 : Int) ≤ (np : Int)) = false := by simp; omega
      have HFULL := Lib.hid hfull
      clear hfull
      go_wp2_with fail
      go_quiet ((go_at_call 29; exact Calls.quiet_of_same (HIB.out _)))
      have X4 := Lib.hid (X4.out.drewN nq)
      have I4 := Lib.hid (I4.out.drewN nq)
      clear v1 v2 j0 j1 j2 j3 j4
      generalize w4.drewN nq = w9 at X4 I4 ⊢
      have j0 := I4.out.cell 0
      have j1 := I4.out.cell 1
      have j2 := I4.out.cell 2
      have j3 := I4.out.cell 3
      have j4 := I4.out.cell 4
      simp only [List.getElem?_cons_zero, List.getElem?_cons_succ] at j0 j1 j2 j3 j4
      have v2 := X4.out.cells.vp
      rw [HNP.out.2] at v2
      have hrp : r = (if fuel - (s.used : Int) < ((1 : Nat) : Int) then (s, some 1) else doF mg p room { s with used := s.used + 1, pc := s.pc + 1 } ⟨12, (ka : Int), b, c, d⟩) := by
        rw [HRR.out]
        unfold costF
        rw [if_neg (by simp [HFIT.out])]
        rw [if_neg (by show ¬ (12 : Int) = 8; decide)]
        rw [if_pos rfl]
        rw [HREG, ← HBB.out, if_neg (by simp), if_neg (by rw [← HNP.out.1]; exact HFULL.out)]
      by_cases hltf : fuel - (s.used : Int) < ((1 : Nat) : Int)
      · rw [if_pos hltf] at hrp
        subst hrp
        go_wp2_with fail
        refine (pay_no B g w0 _ prg room fuel s vs vp vg vt 1 X4.out hu hfu (by omega)).mono ?_
        rintro e w5 ⟨rfl, hx5⟩
        have X5 := Lib.hid (X4.out.call hx5)
        clear hx5
        go_wp2_with fail
        go_returns
        exact ⟨by first | rfl | simp, vs, vp, vg, vt, X5.out⟩
      · rw [if_neg hltf] at hrp
        go_wp2_with fail
        refine (pay_yes B g w0 _ prg room fuel s vs vp vg vt 1 X4.out hu hfu (by omega)).mono ?_
        rintro e w5 ⟨rfl, hx5, hfar⟩
        have hne : ib ≠ g := fun e9 => by
          have h1 := I4.out
          have h2 := X4.out.box
          rw [e9] at h1
          unfold Blk at h1 h2
          rw [h1] at h2
          injection (Option.some.inj h2) with e1 e2
          exact absurd e2 (by decide)
        have I5 := Lib.hid (show Blk w5 ib 40 _ from (hfar ib hne).trans I4.out)
        have hpc5 := hx5.cells.pc
        have hfr5 := hx5.cells.fr 25
        simp only [HPC.out] at hpc5
        have hx6 := hx5.setPc ((k : Int) + 1)
        have hi6 : Blk (w5.setCell ⟨g, 25, none⟩ (.int .i64 ((k : Int) + 1))) ib 40 [.int .i64 12, .int .i64 (ka : Int), .int .i64 b, .int .i64 c, .int .i64 d] := I5.out.same (Below.heap_setCell _ _ _ ib hne)
        have X6 := Lib.hid hx6
        clear hx5 hfar j0 j1 j2 j3 j4 hx6
        have j0 := hi6.cell 0
        have j1 := hi6.cell 1
        have j2 := hi6.cell 2
        have j3 := hi6.cell 3
        have j4 := hi6.cell 4
        simp only [List.getElem?_cons_zero, List.getElem?_cons_succ] at j0 j1 j2 j3 j4
        clear hi6
        have hD := HD0.out _ (by rw [HPC.out]; exact X6.out) (by show isB (s.regs.getD ka 0) = true; rw [← HRV.out]; exact HBB.out.symm)
        unfold insV at hD
        simp only at hD
        rw [← hrp] at hD
        have HD' := Lib.hid hD
        clear hD hrp hltf
        go_wp2_with fail
        refine HD'.out.mono ?_
        rintro e w7 ⟨rfl, h7⟩
        have H7 := Lib.hid h7
        clear h7
        go_wp2_with fail
        go_returns
        exact ⟨by first | rfl | simp, H7.out⟩
end Go.Proofs.Ytgejpggbmgiocaa
