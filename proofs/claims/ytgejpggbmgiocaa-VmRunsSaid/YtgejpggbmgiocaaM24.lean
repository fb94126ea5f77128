/- Steps of this seat, in one text. -/
import Derived.Test.YtgejpggbmgiocaaM23
import Derived.Test.YtgejpggbmgiocaaM7
/- What is done, and a step, as the plain functions say. -/
namespace Go.Proofs.Ytgejpggbmgiocaa
open Go.RowKit

/-- an outcome, as a call tells it, and the state behind it in memory -/
def Res (B g : Nat) (w0 : World) (prg : List Value) (room fuel : Int) (r : St × Option Nat) (e : Ending) (w' : World) : Prop :=
  e = .returned (.tuple #[.int .i64 ((r.2.getD 0 : Nat) : Int), .bool r.2.isSome]) ∧ ∃ vs' vp' vg' vt', RS B g w0 w' prg room fuel r.1 vs' vp' vg' vt'
theorem reg_nat {x : Int} (h : isReg x = true) : ∃ k : Nat, k < 8 ∧ x = (k : Int) := by
  have h2 : 0 ≤ x ∧ x < 8 := by simpa [isReg] using h
  exact ⟨x.toNat, by omega, by omega⟩
theorem dok_1 (B g : Nat) (w0 W : World) (prg : List Value) (room fuel : Int) (s : St) (vs vp vg vt : Value) (mg : List Int → Option (List Int)) (p : Prog) (i : Ins) (ho : i.op = 1) (hf : fitsF i = true) (h : RS B g w0 W prg room fuel s vs vp vg vt) :
    Calls Try.prog 32 #[.pointer (some ⟨g, 0, none⟩), insV i, .int .i64 0, .string ⟨#[]⟩] W (Res B g w0 prg room fuel (doF mg p room s i)) := by
  obtain ⟨op, a, b, c, d⟩ := i
  simp only at ho
  subst ho
  refine (do_1 B g w0 W prg room fuel s vs vp vg vt a b c d 0 _ h).mono ?_
  rintro e w2 ⟨rfl, hr⟩
  exact ⟨rfl, vs, vp, vg, vt, hr⟩
theorem dok_2 (B g : Nat) (w0 W : World) (prg : List Value) (room fuel : Int) (s : St) (vs vp vg vt : Value) (mg : List Int → Option (List Int)) (p : Prog) (i : Ins) (ho : i.op = 2) (hf : fitsF i = true) (h : RS B g w0 W prg room fuel s vs vp vg vt) :
    Calls Try.prog 32 #[.pointer (some ⟨g, 0, none⟩), insV i, .int .i64 0, .string ⟨#[]⟩] W (Res B g w0 prg room fuel (doF mg p room s i)) := by
  obtain ⟨op, a, b, c, d⟩ := i
  simp only at ho
  subst ho
  obtain ⟨ka, hka, rfl⟩ := reg_nat (x := a) (by simpa [fitsF] using hf)
  refine (do_2 B g w0 W prg room fuel s vs vp vg vt b c d ka hka 0 _ h).mono ?_
  rintro e w2 ⟨rfl, hr⟩
  exact ⟨rfl, vs, vp, vg, vt, hr⟩
theorem dok_3 (B g : Nat) (w0 W : World) (prg : List Value) (room fuel : Int) (s : St) (vs vp vg vt : Value) (mg : List Int → Option (List Int)) (p : Prog) (i : Ins) (ho : i.op = 3) (hf : fitsF i = true) (h : RS B g w0 W prg room fuel s vs vp vg vt) :
    Calls Try.prog 32 #[.pointer (some ⟨g, 0, none⟩), insV i, .int .i64 0, .string ⟨#[]⟩] W (Res B g w0 prg room fuel (doF mg p room s i)) := by
  obtain ⟨op, a, b, c, d⟩ := i
  simp only at ho
  subst ho
  have hf2 : isReg b = true ∧ isReg a = true := by simpa [fitsF] using hf
  obtain ⟨kb, hkb, rfl⟩ := reg_nat hf2.1
  obtain ⟨ka, hka, rfl⟩ := reg_nat hf2.2
  refine (do_3 B g w0 W prg room fuel s vs vp vg vt c d ka kb hka hkb 0 _ h).mono ?_
  rintro e w2 ⟨rfl, hr⟩
  exact ⟨rfl, vs, vp, vg, vt, hr⟩
theorem dok_4 (B g : Nat) (w0 W : World) (prg : List Value) (room fuel : Int) (s : St) (vs vp vg vt : Value) (mg : List Int → Option (List Int)) (p : Prog) (i : Ins) (ho : i.op = 4) (hf : fitsF i = true) (h : RS B g w0 W prg room fuel s vs vp vg vt) :
    Calls Try.prog 32 #[.pointer (some ⟨g, 0, none⟩), insV i, .int .i64 0, .string ⟨#[]⟩] W (Res B g w0 prg room fuel (doF mg p room s i)) := by
  obtain ⟨op, a, b, c, d⟩ := i
  simp only at ho
  subst ho
  refine (do_4 B g w0 W prg room fuel s vs vp vg vt a b c d 0 _ h).mono ?_
  rintro e w2 ⟨rfl, hr⟩
  exact ⟨rfl, vs, vp, vg, vt, hr⟩
theorem dok_5 (B g : Nat) (w0 W : World) (prg : List Value) (room fuel : Int) (s : St) (vs vp vg vt : Value) (mg : List Int → Option (List Int)) (p : Prog) (i : Ins) (ho : i.op = 5) (hf : fitsF i = true) (h : RS B g w0 W prg room fuel s vs vp vg vt) :
    Calls Try.prog 32 #[.pointer (some ⟨g, 0, none⟩), insV i, .int .i64 0, .string ⟨#[]⟩] W (Res B g w0 prg room fuel (doF mg p room s i)) := by
  obtain ⟨op, a, b, c, d⟩ := i
  simp only at ho
  subst ho
  obtain ⟨ka, hka, rfl⟩ := reg_nat (x := a) (by simpa [fitsF] using hf)
  have e : doF mg p room s ⟨5, (ka : Int), b, c, d⟩ = (if s.regs.getD ka 0 = b then { s with pc := c } else s, none) := rfl
  rw [e]
  by_cases hc : s.regs.getD ka 0 = b
  · rw [if_pos hc]
    refine (do_5_yes B g w0 W prg room fuel s vs vp vg vt b c d ka hka 0 _ h hc).mono ?_
    rintro e w2 ⟨rfl, hr⟩
    exact ⟨rfl, vs, vp, vg, vt, hr⟩
  · rw [if_neg hc]
    refine (do_5_no B g w0 W prg room fuel s vs vp vg vt b c d ka hka 0 _ h hc).mono ?_
    rintro e w2 ⟨rfl, hr⟩
    exact ⟨rfl, vs, vp, vg, vt, hr⟩
theorem dok_6 (B g : Nat) (w0 W : World) (prg : List Value) (room fuel : Int) (s : St) (vs vp vg vt : Value) (mg : List Int → Option (List Int)) (p : Prog) (i : Ins) (ho : i.op = 6) (hf : fitsF i = true) (h : RS B g w0 W prg room fuel s vs vp vg vt) :
    Calls Try.prog 32 #[.pointer (some ⟨g, 0, none⟩), insV i, .int .i64 0, .string ⟨#[]⟩] W (Res B g w0 prg room fuel (doF mg p room s i)) := by
  obtain ⟨op, a, b, c, d⟩ := i
  simp only at ho
  subst ho
  obtain ⟨ka, hka, rfl⟩ := reg_nat (x := a) (by simpa [fitsF] using hf)
  have e : doF mg p room s ⟨6, (ka : Int), b, c, d⟩ = (if s.regs.getD ka 0 < b then { s with pc := c } else s, none) := rfl
  rw [e]
  by_cases hc : s.regs.getD ka 0 < b
  · rw [if_pos hc]
    refine (do_6_yes B g w0 W prg room fuel s vs vp vg vt b c d ka hka 0 _ h hc).mono ?_
    rintro e w2 ⟨rfl, hr⟩
    exact ⟨rfl, vs, vp, vg, vt, hr⟩
  · rw [if_neg hc]
    refine (do_6_no B g w0 W prg room fuel s vs vp vg vt b c d ka hka 0 _ h hc).mono ?_
    rintro e w2 ⟨rfl, hr⟩
    exact ⟨rfl, vs, vp, vg, vt, hr⟩
theorem dok_7 (B g : Nat) (w0 W : World) (prg : List Value) (room fuel : Int) (s : St) (vs vp vg vt : Value) (mg : List Int → Option (List Int)) (p : Prog) (i : Ins) (ho : i.op = 7) (hf : fitsF i = true) (h : RS B g w0 W prg room fuel s vs vp vg vt) (hn : s.told.length ≤ 10000000000 ∧ s.signs.length ≤ 10000000000 ∧ s.src.length ≤ 140737488355328) :
    Calls Try.prog 32 #[.pointer (some ⟨g, 0, none⟩), insV i, .int .i64 0, .string ⟨#[]⟩] W (Res B g w0 prg room fuel (doF mg p room s i)) := by
  obtain ⟨op, a, b, c, d⟩ := i
  simp only at ho
  subst ho
  obtain ⟨ka, hka, rfl⟩ := reg_nat (x := a) (by simpa [fitsF] using hf)
  have e : doF mg p room s ⟨7, (ka : Int), b, c, d⟩ = (if s.src.length ≤ s.here then { s with pc := c } else { s.setReg (ka : Int) (s.src.getD s.here 0).toNat with here := s.here + 1 }, none) := rfl
  rw [e]
  by_cases hc : s.src.length ≤ s.here
  · rw [if_pos hc]
    refine (do_7_end B g w0 W prg room fuel s vs vp vg vt b c d ka hka 0 _ h hc).mono ?_
    rintro e w2 ⟨rfl, hr⟩
    exact ⟨rfl, vs, vp, vg, vt, hr⟩
  · rw [if_neg hc]
    refine (do_7_more B g w0 W prg room fuel s vs vp vg vt b c d ka hka 0 _ h (by omega) hn.2.2).mono ?_
    rintro e w2 ⟨rfl, hr⟩
    exact ⟨rfl, vs, vp, vg, vt, hr⟩
theorem dok_9 (B g : Nat) (w0 W : World) (prg : List Value) (room fuel : Int) (s : St) (vs vp vg vt : Value) (mg : List Int → Option (List Int)) (p : Prog) (i : Ins) (ho : i.op = 9) (hf : fitsF i = true) (h : RS B g w0 W prg room fuel s vs vp vg vt) :
    Calls Try.prog 32 #[.pointer (some ⟨g, 0, none⟩), insV i, .int .i64 0, .string ⟨#[]⟩] W (Res B g w0 prg room fuel (doF mg p room s i)) := by
  obtain ⟨op, a, b, c, d⟩ := i
  simp only at ho
  subst ho
  have hf2 : 0 ≤ a ∧ a < 2 := by simpa [fitsF] using hf
  obtain ⟨ka, rfl⟩ := Int.eq_ofNat_of_zero_le hf2.1
  have hka : ka < 2 := by omega
  refine (do_9 B g w0 W prg room fuel s vs vp vg vt b c d ka hka 0 _ h).mono ?_
  rintro e w2 ⟨rfl, hr⟩
  exact ⟨rfl, vs, vp, vg, vt, hr⟩
theorem dok_10 (B g : Nat) (w0 W : World) (prg : List Value) (room fuel : Int) (s : St) (vs vp vg vt : Value) (mg : List Int → Option (List Int)) (p : Prog) (i : Ins) (ho : i.op = 10) (hf : fitsF i = true) (h : RS B g w0 W prg room fuel s vs vp vg vt) :
    Calls Try.prog 32 #[.pointer (some ⟨g, 0, none⟩), insV i, .int .i64 0, .string ⟨#[]⟩] W (Res B g w0 prg room fuel (doF mg p room s i)) := by
  obtain ⟨op, a, b, c, d⟩ := i
  simp only at ho
  subst ho
  have hf2 : 0 ≤ a ∧ a < 2 := by simpa [fitsF] using hf
  obtain ⟨ka, rfl⟩ := Int.eq_ofNat_of_zero_le hf2.1
  have hka : ka < 2 := by omega
  refine (do_10 B g w0 W prg room fuel s vs vp vg vt b c d ka hka 0 _ h).mono ?_
  rintro e w2 ⟨rfl, hr⟩
  exact ⟨rfl, vs, vp, vg, vt, hr⟩
theorem dok_11 (B g : Nat) (w0 W : World) (prg : List Value) (room fuel : Int) (s : St) (vs vp vg vt : Value) (mg : List Int → Option (List Int)) (p : Prog) (i : Ins) (ho : i.op = 11) (hf : fitsF i = true) (h : RS B g w0 W prg room fuel s vs vp vg vt) :
    Calls Try.prog 32 #[.pointer (some ⟨g, 0, none⟩), insV i, .int .i64 0, .string ⟨#[]⟩] W (Res B g w0 prg room fuel (doF mg p room s i)) := by
  obtain ⟨op, a, b, c, d⟩ := i
  simp only at ho
  subst ho
  have hf2 : 0 ≤ a ∧ a < 2 := by simpa [fitsF] using hf
  obtain ⟨ka, rfl⟩ := Int.eq_ofNat_of_zero_le hf2.1
  have hka : ka < 2 := by omega
  have e : doF mg p room s ⟨11, (ka : Int), b, c, d⟩ = (if s.here = s.marks.getD ka 0 then { s with pc := c } else s, none) := rfl
  rw [e]
  by_cases hc : s.here = s.marks.getD ka 0
  · rw [if_pos hc]
    refine (do_11_yes B g w0 W prg room fuel s vs vp vg vt b c d ka hka 0 _ h hc).mono ?_
    rintro e w2 ⟨rfl, hr⟩
    exact ⟨rfl, vs, vp, vg, vt, hr⟩
  · rw [if_neg hc]
    refine (do_11_no B g w0 W prg room fuel s vs vp vg vt b c d ka hka 0 _ h hc).mono ?_
    rintro e w2 ⟨rfl, hr⟩
    exact ⟨rfl, vs, vp, vg, vt, hr⟩
theorem dok_17 (B g : Nat) (w0 W : World) (prg : List Value) (room fuel : Int) (s : St) (vs vp vg vt : Value) (mg : List Int → Option (List Int)) (p : Prog) (i : Ins) (ho : i.op = 17) (hf : fitsF i = true) (h : RS B g w0 W prg room fuel s vs vp vg vt) (hn : s.told.length ≤ 10000000000 ∧ s.signs.length ≤ 10000000000 ∧ s.src.length ≤ 140737488355328) :
    Calls Try.prog 32 #[.pointer (some ⟨g, 0, none⟩), insV i, .int .i64 0, .string ⟨#[]⟩] W (Res B g w0 prg room fuel (doF mg p room s i)) := by
  obtain ⟨op, a, b, c, d⟩ := i
  simp only at ho
  subst ho
  obtain ⟨ka, hka, rfl⟩ := reg_nat (x := a) (by simpa [fitsF] using hf)
  refine (do_17 B g w0 W prg room fuel s vs vp vg vt b c d ka hka 0 _ h hn.1).mono ?_
  rintro e w2 ⟨rfl, gg, cap, hr⟩
  exact ⟨rfl, vs, vp, vg, _, hr⟩
theorem dok_15 (B g : Nat) (w0 W : World) (prg : List Value) (room fuel : Int) (s : St) (vs vp vg vt : Value) (mg : List Int → Option (List Int)) (p : Prog) (i : Ins) (ho : i.op = 15) (hf : fitsF i = true) (h : RS B g w0 W prg room fuel s vs vp vg vt) (hn : s.told.length ≤ 10000000000 ∧ s.signs.length ≤ 10000000000 ∧ s.src.length ≤ 140737488355328) :
    Calls Try.prog 32 #[.pointer (some ⟨g, 0, none⟩), insV i, .int .i64 0, .string ⟨#[]⟩] W (Res B g w0 prg room fuel (doF mg p room s i)) := by
  obtain ⟨op, a, b, c, d⟩ := i
  simp only at ho
  subst ho
  obtain ⟨ka, hka, rfl⟩ := reg_nat (x := a) (by simpa [fitsF] using hf)
  refine (do_15 B g w0 W prg room fuel s vs vp vg vt b c d ka hka 0 _ h hn.2.1).mono ?_
  rintro e w2 ⟨rfl, gg, cap, hr⟩
  exact ⟨rfl, vs, vp, _, vt, hr⟩
theorem stepF_at (mg : List Int → Option (List Int)) (p : Prog) (room fuel : Int) (s : St) (k : Nat) (hpc : s.pc = (k : Int)) (hk : k < p.code.length) (i : Ins) (hi : p.code.getD k noIns = i) :
    stepF mg p room fuel s = (match costF p room s i with
      | .inl e => (s, some e)
      | .inr c => if fuel - s.used < c then (s, some 1) else doF mg p room { s with used := s.used + c, pc := s.pc + 1 } i) := by
  unfold stepF
  rw [if_neg (by omega), show p.code.getD s.pc.toNat noIns = i by rw [hpc]; exact hi]
  rfl
theorem stepF_out (mg : List Int → Option (List Int)) (p : Prog) (room fuel : Int) (s : St) (h : s.pc < 0 ∨ (p.code.length : Int) ≤ s.pc) : stepF mg p room fuel s = (s, some 3) := by
  unfold stepF; rw [if_pos h]
theorem st_out (B g : Nat) (w0 W : World) (prg : List Value) (room fuel : Int) (s : St) (vs vp vg vt : Value) (mg : List Int → Option (List Int)) (p : Prog) (h : RS B g w0 W prg room fuel s vs vp vg vt) (hc : CodeIn w0 B prg p.code) (hpc : s.pc < 0 ∨ (p.code.length : Int) ≤ s.pc) :
    Calls Try.prog 20 #[.pointer (some ⟨g, 0, none⟩)] W (Res B g w0 prg room fuel (stepF mg p room fuel s)) := by
  rw [stepF_out mg p room fuel s hpc]
  refine (step_out B g w0 W prg room fuel s vs vp vg vt p.code h hc hpc).mono ?_
  rintro e w2 ⟨rfl, hr⟩
  exact ⟨rfl, vs, vp, vg, vt, hr⟩
theorem st_misfit (B g : Nat) (w0 W : World) (prg : List Value) (room fuel : Int) (s : St) (vs vp vg vt : Value) (mg : List Int → Option (List Int)) (p : Prog) (h : RS B g w0 W prg room fuel s vs vp vg vt) (hc : CodeIn w0 B prg p.code) (k : Nat) (hpc : s.pc = (k : Int)) (hk : k < p.code.length) (i : Ins) (hi : p.code.getD k noIns = i) (hf : fitsF i = false) :
    Calls Try.prog 20 #[.pointer (some ⟨g, 0, none⟩)] W (Res B g w0 prg room fuel (stepF mg p room fuel s)) := by
  rw [stepF_at mg p room fuel s k hpc hk i hi, show costF p room s i = .inl 3 by unfold costF; rw [if_pos hf]]
  refine (step_misfit B g w0 W prg room fuel s vs vp vg vt p.code h hc k hpc hk i hi hf).mono ?_
  rintro e w2 ⟨rfl, hr⟩
  exact ⟨rfl, vs, vp, vg, vt, hr⟩
theorem st_plain (B g : Nat) (w0 W : World) (prg : List Value) (room fuel : Int) (s : St) (vs vp vg vt : Value) (mg : List Int → Option (List Int)) (p : Prog) (h : RS B g w0 W prg room fuel s vs vp vg vt) (hc : CodeIn w0 B prg p.code) (hu : (s.used : Int) ≤ fuel) (hfu : fuel ≤ 35184372088832) (k : Nat) (hpc : s.pc = (k : Int)) (hk : k < p.code.length) (i : Ins) (hi : p.code.getD k noIns = i) (hf : fitsF i = true) (h8 : i.op ≠ 8) (h12 : i.op ≠ 12) (h13 : i.op ≠ 13) (h15 : i.op ≠ 15) (h17 : i.op ≠ 17) (h16 : i.op ≠ 16)
    (HD : ∀ W', RS B g w0 W' prg room fuel { s with used := s.used + 1, pc := s.pc + 1 } vs vp vg vt → Calls Try.prog 32 #[.pointer (some ⟨g, 0, none⟩), insV i, .int .i64 0, .string ⟨#[]⟩] W' (Res B g w0 prg room fuel (doF mg p room { s with used := s.used + 1, pc := s.pc + 1 } i))) :
    Calls Try.prog 20 #[.pointer (some ⟨g, 0, none⟩)] W (Res B g w0 prg room fuel (stepF mg p room fuel s)) := by
  rw [stepF_at mg p room fuel s k hpc hk i hi, show costF p room s i = .inr 1 by unfold costF; rw [if_neg (by simp [hf]), if_neg h8, if_neg h12, if_neg h13, if_neg h15, if_neg h17, if_neg h16]]
  simp only
  by_cases hlt : fuel - (s.used : Int) < ((1 : Nat) : Int)
  · rw [if_pos hlt]
    refine (step_plain_no B g w0 W prg room fuel s vs vp vg vt p.code h hc k hpc hk i hi hf hu hfu h8 h12 h13 h15 h17 h16 hlt).mono ?_
    rintro e w2 ⟨rfl, hr⟩
    exact ⟨rfl, vs, vp, vg, vt, hr⟩
  · rw [if_neg hlt]
    exact step_plain_yes B g w0 W prg room fuel s vs vp vg vt p.code h hc k hpc hk i hi hf hu hfu h8 h12 h13 h15 h17 h16 hlt _ _ _ HD
theorem st_17 (B g : Nat) (w0 W : World) (prg : List Value) (room fuel : Int) (s : St) (vs vp vg vt : Value) (mg : List Int → Option (List Int)) (p : Prog) (h : RS B g w0 W prg room fuel s vs vp vg vt) (hc : CodeIn w0 B prg p.code) (hu : (s.used : Int) ≤ fuel) (hfu : fuel ≤ 35184372088832) (hn : s.told.length ≤ 10000000000 ∧ s.signs.length ≤ 10000000000 ∧ s.src.length ≤ 140737488355328) (k : Nat) (hpc : s.pc = (k : Int)) (hk : k < p.code.length) (i : Ins) (hi : p.code.getD k noIns = i) (hf : fitsF i = true) (h17 : i.op = 17) :
    Calls Try.prog 20 #[.pointer (some ⟨g, 0, none⟩)] W (Res B g w0 prg room fuel (stepF mg p room fuel s)) := by
  rw [stepF_at mg p room fuel s k hpc hk i hi, show costF p room s i = if room ≤ (s.told.length : Int) then .inl 1 else .inr 1 by unfold costF; rw [if_neg (by simp [hf]), if_neg (by omega), if_neg (by omega), if_neg (by omega), if_neg (by omega), if_pos h17]]
  by_cases hr : room ≤ (s.told.length : Int)
  · rw [if_pos hr]
    refine (step_17_full B g w0 W prg room fuel s vs vp vg vt p.code h hc k hpc hk i hi hf h17 hr).mono ?_
    rintro e w2 ⟨rfl, hr⟩
    exact ⟨rfl, vs, vp, vg, vt, hr⟩
  · rw [if_neg hr]
    simp only
    by_cases hlt : fuel - (s.used : Int) < ((1 : Nat) : Int)
    · rw [if_pos hlt]
      refine (step_17_no B g w0 W prg room fuel s vs vp vg vt p.code h hc k hpc hk i hi hf hu hfu h17 hr hlt).mono ?_
      rintro e w2 ⟨rfl, hr⟩
      exact ⟨rfl, vs, vp, vg, vt, hr⟩
    · rw [if_neg hlt]
      exact step_17_yes B g w0 W prg room fuel s vs vp vg vt p.code h hc k hpc hk i hi hf hu hfu h17 hr hlt _ _ _ (fun W' h' => dok_17 B g w0 W' prg room fuel _ vs vp vg vt mg p i h17 hf h' hn)
end Go.Proofs.Ytgejpggbmgiocaa
