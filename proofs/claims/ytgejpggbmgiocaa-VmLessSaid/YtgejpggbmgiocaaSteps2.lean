/- What Look, Copy, Text, Turn and Join do, as the plain function says. -/
import Derived.Test.YtgejpggbmgiocaaStep4
namespace Go.Proofs.Ytgejpggbmgiocaa
open Go.RowKit
set_option maxRecDepth 100000 in
set_option maxHeartbeats 4000000 in
theorem dok_16 (B g : Nat) (w0 W : World) (prg : List Value) (room fuel : Int) (s : St) (vs vp vg vt : Value) (p : Prog) (S K V : List Int) (i : Ins) (ho : i.op = 16) (h : RS B g w0 W prg room fuel s vs vp vg vt) (hp : PairsIn w0 B prg p.signs S K V) (hn : s.told.length ≤ 10000000000) (hsn : s.signs.length ≤ 262144) (hro : room ≤ 10000000000) :
    Calls Try.prog 32 #[.pointer (some ⟨g, 0, none⟩), insV i, .int .i64 0, .string ⟨#[]⟩] W (Res B g w0 prg room fuel (doF (mgF p.signs S K V) p room s i)) := by
  obtain ⟨op, a, b, c, d⟩ := i
  simp only at ho
  subst ho
  have hr : doF (mgF p.signs S K V) p room s ⟨16, a, b, c, d⟩ = (match mgF p.signs S K V s.signs with
    | none => (s, some 3)
    | some l => if room < (s.told.length + l.length : Nat) then (s, some 1) else ({ s with told := s.told ++ l, signs := [] }, none)) := rfl
  rw [hr]
  obtain ⟨r, hrr⟩ : ∃ r, r = (match mgF p.signs S K V s.signs with
    | none => (s, some 3)
    | some l => if room < (s.told.length + l.length : Nat) then (s, some 1) else ({ s with told := s.told ++ l, signs := [] }, none) : St × Option Nat) := ⟨_, rfl⟩
  have H1 := Lib.hid (h.alloc (.cells #[.int .i64 16, .int .i64 a, .int .i64 b, .int .i64 c, .int .i64 d] 40))
  have HJ := Lib.hid (fun (W : World) (h : RS B g w0 W prg room fuel s vs vp vg vt) => join_any B g w0 W prg room fuel s vs vp vg vt p.signs S K V h hp hn hsn hro)
  have HRR := Lib.hid hrr
  rw [← hrr]
  have hlt := h.lt
  obtain ⟨k7, hk7, hb7⟩ := and_seven a
  clear h hrr hr
  unfold insV
  go_enter Try.func32, Try.ntmps32
  go_wp2_with fail
  go_quiet (fail)
  go_wp2_with fail
  refine (HJ.out _ (H1.out.drewN nq)).mono ?_
  rintro e w3 ⟨vg', vt', hj⟩
  cases hm : mgF p.signs S K V s.signs with
  | none =>
    rw [hm] at hj
    obtain ⟨rfl, hx⟩ := hj
    have hq : r = (s, some 3) := by rw [HRR.out, hm]
    subst hq
    have HX := Lib.hid hx
    clear hx hm
    go_wp2_with fail
    go_returns
    exact ⟨by first | rfl | simp, vs, vp, vg', vt', HX.out⟩
  | some l =>
    rw [hm] at hj
    simp only at hj
    by_cases hc : room < ((s.told.length + l.length : Nat) : Int)
    · rw [if_pos hc] at hj
      obtain ⟨rfl, hx⟩ := hj
      have hq : r = (s, some 1) := by rw [HRR.out, hm]; exact if_pos hc
      subst hq
      have HX := Lib.hid hx
      clear hx hm hc
      go_wp2_with fail
      go_returns
      exact ⟨by first | rfl | simp, vs, vp, vg', vt', HX.out⟩
    · rw [if_neg hc] at hj
      obtain ⟨rfl, hx⟩ := hj
      have hq : r = ({ s with told := s.told ++ l, signs := [] }, none) := by rw [HRR.out, hm]; exact if_neg hc
      subst hq
      have HX := Lib.hid hx
      clear hx hm hc
      go_wp2_with fail
      go_returns
      exact ⟨by first | rfl | simp, vs, vp, vg', vt', HX.out⟩
theorem dok_14 (B g : Nat) (w0 W : World) (prg : List Value) (room fuel : Int) (s : St) (vs vp vg vt : Value) (mg : List Int → Option (List Int)) (p : Prog) (i : Ins) (ho : i.op = 14) (h : RS B g w0 W prg room fuel s vs vp vg vt) :
    Calls Try.prog 32 #[.pointer (some ⟨g, 0, none⟩), insV i, .int .i64 0, .string ⟨#[]⟩] W (Res B g w0 prg room fuel (doF mg p room s i)) := by
  obtain ⟨op, a, b, c, d⟩ := i
  simp only at ho
  subst ho
  refine (do_14 B g w0 W prg room fuel s vs vp vg vt a b c d 0 _ h).mono ?_
  rintro e w2 ⟨rfl, hr⟩
  exact ⟨rfl, vp, .slice none 0 0, vg, vt, hr⟩
theorem dok_12 (B g : Nat) (w0 W : World) (prg : List Value) (room fuel : Int) (s : St) (vs vp vg vt : Value) (mg : List Int → Option (List Int)) (p : Prog) (i : Ins) (ho : i.op = 12) (hf : fitsF i = true) (hb : isB (s.reg i.a) = true) (hn : s.put.length ≤ 10000000000) (h : RS B g w0 W prg room fuel s vs vp vg vt) :
    Calls Try.prog 32 #[.pointer (some ⟨g, 0, none⟩), insV i, .int .i64 0, .string ⟨#[]⟩] W (Res B g w0 prg room fuel (doF mg p room s i)) := by
  obtain ⟨op, a, b, c, d⟩ := i
  simp only at ho
  subst ho
  obtain ⟨ka, hka, rfl⟩ := reg_nat (x := a) (by simpa [fitsF] using hf)
  have hb2 : 0 ≤ s.reg (ka : Int) ∧ s.reg (ka : Int) < 256 := by simpa [isB] using hb
  refine (do_12 B g w0 W prg room fuel s vs vp vg vt b c d ka hka 0 _ h hn hb2.1 hb2.2).mono ?_
  rintro e w2 ⟨rfl, gg, cap, hr⟩
  exact ⟨rfl, vs, _, vg, vt, hr⟩
theorem dok_13 (B g : Nat) (w0 W : World) (prg : List Value) (room fuel : Int) (s : St) (vs vp vg vt : Value) (mg : List Int → Option (List Int)) (p : Prog) (i : Ins) (ho : i.op = 13) (hf : fitsF i = true) (h : RS B g w0 W prg room fuel s vs vp vg vt) (hn : s.put.length + (textF p s i).length ≤ 10000000000) :
    Calls Try.prog 32 #[.pointer (some ⟨g, 0, none⟩), insV i, .int .i64 0, .string ⟨(textF p s i).toArray⟩] W (Res B g w0 prg room fuel (doF mg p room s i)) := by
  obtain ⟨op, a, b, c, d⟩ := i
  simp only at ho
  subst ho
  have hf2 : isReg b = true ∧ isReg a = true := by simpa [fitsF] using hf
  obtain ⟨ka, hka, rfl⟩ := reg_nat hf2.2
  refine (do_13 B g w0 W prg room fuel s vs vp vg vt b c d ka hka 0 _ h (by show s.put.length + (textF p s _).toArray.size ≤ _; rw [List.size_toArray]; exact hn)).mono ?_
  rintro e w2 ⟨rfl, vp', hr⟩
  exact ⟨rfl, vs, vp', vg, vt, hr⟩
theorem dok_8 (B g : Nat) (w0 W : World) (prg : List Value) (room fuel : Int) (s : St) (vs vp vg vt : Value) (mg : List Int → Option (List Int)) (p : Prog) (i : Ins) (ho : i.op = 8) (hf : fitsF i = true) (ht : TabsIn w0 B prg p.tabs) (cc : Nat) (hcell : cellF p s i = some cc) (h : RS B g w0 W prg room fuel s vs vp vg vt) :
    Calls Try.prog 32 #[.pointer (some ⟨g, 0, none⟩), insV i, .int .i64 (cc : Int), .string ⟨#[]⟩] W (Res B g w0 prg room fuel (doF mg p room s i)) := by
  obtain ⟨op, a, b, c, d⟩ := i
  simp only at ho
  subst ho
  have hf2 : isReg b = true ∧ isReg a = true := by simpa [fitsF] using hf
  obtain ⟨ka, hka, rfl⟩ := reg_nat hf2.2
  have e : doF mg p room s ⟨8, (ka : Int), b, c, d⟩ = (s.setReg (ka : Int) ((p.tabs.getD d.toNat noTbl).data.getD ((cellF p s ⟨8, (ka : Int), b, c, d⟩).getD 0) 0), none) := rfl
  rw [e, hcell]
  unfold cellF at hcell
  simp only at hcell
  split at hcell
  · cases hcell
  · rename_i h1
    split at hcell
    · cases hcell
    · rename_i h2
      split at hcell
      · cases hcell
      · rename_i h3
        obtain ⟨kd, rfl⟩ := Int.eq_ofNat_of_zero_le (a := d) (by omega)
        simp only [Int.toNat_natCast] at h2 h3 hcell ⊢
        injection hcell with hcell
        have hcc : cc < (p.tabs.getD kd noTbl).data.length := by
          generalize (p.tabs.getD kd noTbl) = T at *
          have hd := Int.ediv_mul_le (T.data.length : Int) (b := T.cols) (by omega)
          have hm : (s.reg (ka : Int) + 1) * T.cols ≤ (T.data.length : Int) / T.cols * T.cols := Int.mul_le_mul_of_nonneg_right (by omega) (by omega)
          rw [Int.add_mul, Int.one_mul] at hm
          have h0 : 0 ≤ s.reg (ka : Int) * T.cols := Int.mul_nonneg (by omega) (by omega)
          omega
        refine (do_8 B g w0 W prg room fuel s vs vp vg vt b c ka hka kd p.tabs (by omega) ht cc hcc _ h).mono ?_
        rintro e w2 ⟨rfl, hr⟩
        exact ⟨rfl, vs, vp, vg, vt, hr⟩
end Go.Proofs.Ytgejpggbmgiocaa
