/- RD2, RD3, RD4, RD5 of this seat, in one text. -/
import Derived.Test.YtgejpggbmgiocaaM25
import Derived.Test.YtgejpggbmgiocaaM24
/- The reference's instructions: marks, the next byte. -/
namespace Go.Proofs.Ytgejpggbmgiocaa
open Go.RowKit
set_option maxRecDepth 100000 in
set_option maxHeartbeats 4000000 in
theorem rdo_9 (B g gr gk : Nat) (w0 W : World) (prg : List Value) (room fuel : Int) (s : St) (vs vp vg vt : Value) (mg : List Int → Option (List Int)) (p : Prog) (i : Ins) (ho : i.op = 9) (hf : fitsF i = true) (h : RR B g gr gk w0 W prg room fuel s vs vp vg vt) :
    Calls Try.prog 35 #[.pointer (some ⟨g, 0, none⟩), insV i] W (ResR B g gr w0 prg room fuel (doF mg p room s i)) := by
  obtain ⟨op, a, b, c, d⟩ := i
  simp only at ho
  subst ho
  obtain ⟨ka, hka, rfl⟩ : ∃ ka : Nat, ka < 2 ∧ a = (ka : Int) := ⟨a.toNat, by have h9 : 0 ≤ a ∧ a < 2 := (by simpa [fitsF] using hf); omega, by have h9 : 0 ≤ a ∧ a < 2 := (by simpa [fitsF] using hf); omega⟩
  have H1 := Lib.hid (h.alloc (.cells #[.int .i64 9, .int .i64 (ka : Int), .int .i64 b, .int .i64 c, .int .i64 d] 40))
  have hlt := h.lt
  have c0 := H1.out.cells.vk
  have n1 : decide ((ka : Int) < 0) = false := by simp
  have n2 : decide ((2 : Int) ≤ (ka : Int)) = false := by simp; omega
  have n4 : decide (ka < 2) = true := by simpa using hka
  have n5 : ¬ 2 ≤ ka := by omega
  have n6 : (ka : Int) < 2 := by omega
  have c1 := H1.out.cells.here
  have c2 := H1.out.cells.mark ka hka
  have f1 := H1.out.cells.frk ka
  clear h hf
  unfold insV
  go_enter Try.func35, Try.ntmps35
  go_wp2_with fail
  go_region
  go_wp2_with fail
  go_returns
  exact ⟨by first | rfl | simp, gk, vs, vp, vg, vt, (by first | exact (H1.out.drewN _).setMark ka s.here | exact H1.out.drew.setMark ka s.here)⟩
set_option maxRecDepth 100000 in
set_option maxHeartbeats 4000000 in
theorem rdo_10 (B g gr gk : Nat) (w0 W : World) (prg : List Value) (room fuel : Int) (s : St) (vs vp vg vt : Value) (mg : List Int → Option (List Int)) (p : Prog) (i : Ins) (ho : i.op = 10) (hf : fitsF i = true) (h : RR B g gr gk w0 W prg room fuel s vs vp vg vt) :
    Calls Try.prog 35 #[.pointer (some ⟨g, 0, none⟩), insV i] W (ResR B g gr w0 prg room fuel (doF mg p room s i)) := by
  obtain ⟨op, a, b, c, d⟩ := i
  simp only at ho
  subst ho
  obtain ⟨ka, hka, rfl⟩ : ∃ ka : Nat, ka < 2 ∧ a = (ka : Int) := ⟨a.toNat, by have h9 : 0 ≤ a ∧ a < 2 := (by simpa [fitsF] using hf); omega, by have h9 : 0 ≤ a ∧ a < 2 := (by simpa [fitsF] using hf); omega⟩
  have H1 := Lib.hid (h.alloc (.cells #[.int .i64 10, .int .i64 (ka : Int), .int .i64 b, .int .i64 c, .int .i64 d] 40))
  have hlt := h.lt
  have c0 := H1.out.cells.vk
  have n1 : decide ((ka : Int) < 0) = false := by simp
  have n2 : decide ((2 : Int) ≤ (ka : Int)) = false := by simp; omega
  have n4 : decide (ka < 2) = true := by simpa using hka
  have n5 : ¬ 2 ≤ ka := by omega
  have n6 : (ka : Int) < 2 := by omega
  have H := Lib.hid h
  have c1 := H1.out.cells.here
  have c2 := H1.out.cells.mark ka hka
  have f1 := H1.out.cells.fr 13
  obtain ⟨r, hr⟩ : ∃ r, r = s.marks.getD ka 0 := ⟨_, rfl⟩
  rw [← hr] at c2
  have HR := Lib.hid hr
  clear hr
  clear h hf
  unfold insV
  go_enter Try.func35, Try.ntmps35
  go_wp2_with fail
  go_region
  go_wp2_with fail
  go_returns
  have e9 : ({ s with here := r } : St) = (doF mg p room s ⟨10, (ka : Int), b, c, d⟩).1 := by rw [HR.out]; rfl
  refine ⟨by first | rfl | simp, gk, vs, vp, vg, vt, ?_⟩
  rw [← e9]
  first | exact (H1.out.drewN _).setHere r | exact H1.out.drew.setHere r | exact ((H.out.setHere r).alloc _).drew | exact ((H.out.setHere r).alloc _).drewN _
set_option maxRecDepth 100000 in
set_option maxHeartbeats 4000000 in
theorem rdo_11 (B g gr gk : Nat) (w0 W : World) (prg : List Value) (room fuel : Int) (s : St) (vs vp vg vt : Value) (mg : List Int → Option (List Int)) (p : Prog) (i : Ins) (ho : i.op = 11) (hf : fitsF i = true) (h : RR B g gr gk w0 W prg room fuel s vs vp vg vt) :
    Calls Try.prog 35 #[.pointer (some ⟨g, 0, none⟩), insV i] W (ResR B g gr w0 prg room fuel (doF mg p room s i)) := by
  obtain ⟨op, a, b, c, d⟩ := i
  simp only at ho
  subst ho
  obtain ⟨ka, hka, rfl⟩ : ∃ ka : Nat, ka < 2 ∧ a = (ka : Int) := ⟨a.toNat, by have h9 : 0 ≤ a ∧ a < 2 := (by simpa [fitsF] using hf); omega, by have h9 : 0 ≤ a ∧ a < 2 := (by simpa [fitsF] using hf); omega⟩
  have H1 := Lib.hid (h.alloc (.cells #[.int .i64 11, .int .i64 (ka : Int), .int .i64 b, .int .i64 c, .int .i64 d] 40))
  have hlt := h.lt
  have c0 := H1.out.cells.vk
  have n1 : decide ((ka : Int) < 0) = false := by simp
  have n2 : decide ((2 : Int) ≤ (ka : Int)) = false := by simp; omega
  have n4 : decide (ka < 2) = true := by simpa using hka
  have n5 : ¬ 2 ≤ ka := by omega
  have n6 : (ka : Int) < 2 := by omega
  have c1 := H1.out.cells.here
  have c2 := H1.out.cells.mark ka hka
  have c3 := H1.out.cells.pc
  have f1 := H1.out.cells.fr 17
  have e : doF mg p room s ⟨11, (ka : Int), b, c, d⟩ = (if s.here = s.marks.getD ka 0 then { s with pc := c } else s, none) := rfl
  rw [e]
  clear e
  obtain ⟨r, hr⟩ : ∃ r, r = s.marks.getD ka 0 := ⟨_, rfl⟩
  obtain ⟨q, hq⟩ : ∃ q, q = s.here := ⟨_, rfl⟩
  rw [← hr] at c2
  rw [← hq] at c1
  have HQ := Lib.hid (And.intro hr hq)
  clear hr hq
  clear h hf
  unfold insV
  by_cases hc : q = r
  · rw [if_pos (by rw [← HQ.out.1, ← HQ.out.2]; exact hc)]
    have e1 : ((q : Int) == (r : Int)) = true := by simp; omega
    have e2 : (q == r) = true := by simpa using hc
    clear hc
    go_enter Try.func35, Try.ntmps35
    go_wp2_with fail
    go_quiet (fail)
    go_wp2_with fail
    go_returns
    exact ⟨by first | rfl | simp, gk, vs, vp, vg, vt, (H1.out.drewN _).setPc c⟩
  · rw [if_neg (by rw [← HQ.out.1, ← HQ.out.2]; exact hc)]
    have e1 : ((q : Int) == (r : Int)) = false := by simp; omega
    have e2 : (q == r) = false := by simpa using hc
    clear hc
    go_enter Try.func35, Try.ntmps35
    go_wp2_with fail
    go_quiet (fail)
    go_wp2_with fail
    go_returns
    exact ⟨by first | rfl | simp, gk, vs, vp, vg, vt, H1.out.drewN _⟩
set_option maxRecDepth 100000 in
set_option maxHeartbeats 4000000 in
theorem rdo_7 (B g gr gk : Nat) (w0 W : World) (prg : List Value) (room fuel : Int) (s : St) (vs vp vg vt : Value) (mg : List Int → Option (List Int)) (p : Prog) (i : Ins) (ho : i.op = 7) (hf : fitsF i = true) (h : RR B g gr gk w0 W prg room fuel s vs vp vg vt) (hle : s.src.length ≤ 140737488355328) :
    Calls Try.prog 35 #[.pointer (some ⟨g, 0, none⟩), insV i] W (ResR B g gr w0 prg room fuel (doF mg p room s i)) := by
  obtain ⟨op, a, b, c, d⟩ := i
  simp only at ho
  subst ho
  obtain ⟨ka, hka, rfl⟩ := reg_nat (x := a) (by simpa [fitsF] using hf)
  have H1 := Lib.hid (h.alloc (.cells #[.int .i64 7, .int .i64 (ka : Int), .int .i64 b, .int .i64 c, .int .i64 d] 40))
  have hlt := h.lt
  have c0 := H1.out.cells.vr
  have n1 : decide ((ka : Int) < 0) = false := by simp
  have n2 : decide ((8 : Int) ≤ (ka : Int)) = false := by simp; omega
  have n4 : decide (ka < 8) = true := by simpa using hka
  have n5 : ¬ 8 ≤ ka := by omega
  have n6 : (ka : Int) < 8 := by omega
  have c1 := H1.out.cells.here
  have c2 := H1.out.cells.vs
  have c3 := H1.out.cells.pc
  have f1 := H1.out.cells.fr 17
  have c5 := H1.out.cells.reg ka hka
  have f2 := H1.out.cells.fr 13
  have f3 := H1.out.cells.frr ka
  have e : doF mg p room s ⟨7, (ka : Int), b, c, d⟩ = (if s.src.length ≤ s.here then { s with pc := c } else { s.setReg (ka : Int) (s.src.getD s.here 0).toNat with here := s.here + 1 }, none) := rfl
  rw [e]
  clear e
  clear h hf
  unfold insV
  by_cases hc : s.src.length ≤ s.here
  · rw [if_pos hc]
    obtain ⟨A, cp, hvs⟩ := H1.out.src.sl
    rw [hvs] at c2
    have e1 : decide ((s.src.length : Int) ≤ (s.here : Int)) = true := by simp; omega
    have e2 : decide (s.src.length ≤ s.here) = true := by simpa using hc
    clear hvs hc
    go_enter Try.func35, Try.ntmps35
    go_wp2_with fail
    go_quiet (fail)
    go_wp2_with fail
    go_returns
    exact ⟨by first | rfl | simp, gk, vs, vp, vg, vt, (H1.out.drewN _).setPc c⟩
  · rw [if_neg hc]
    obtain ⟨bs, ⟨cp, hvs⟩, c4⟩ := H1.out.src.cell s.here (by omega)
    rw [hvs] at c2
    obtain ⟨y, hy⟩ : ∃ y, y = (s.src.getD s.here 0).toNat := ⟨_, rfl⟩
    have hyl : y < 256 := by rw [hy]; exact (s.src.getD s.here 0).toNat_lt
    obtain ⟨n, hn⟩ : ∃ n, n = s.src.length := ⟨_, rfl⟩
    obtain ⟨hh, hhe⟩ : ∃ hh, hh = s.here := ⟨_, rfl⟩
    rw [← hy] at c4
    rw [← hn] at c2 hc hle
    rw [← hhe] at c1 c4 hc
    have e1 : decide ((n : Int) ≤ (hh : Int)) = false := by simp; omega
    have e2 : decide (n ≤ hh) = false := by simp; omega
    have hi : (hh : Int) < (n : Int) := by omega
    have HY := Lib.hid (And.intro hy (And.intro hn hhe))
    have hgr := H1.out.ap.n1
    clear hvs hy hn hhe
    go_enter Try.func35, Try.ntmps35
    go_wp2_with fail
    go_quiet (fail)
    go_wp2_with fail
    go_region
    go_wp2_with fail
    go_returns
    refine ⟨by first | rfl | simp, gk, vs, vp, vg, vt, ?_⟩
    rw [← HY.out.1, ← HY.out.2.2]
    first | exact ((H1.out.drewN _).setReg ka (y : Int)).setHere (hh + 1) | exact (((H1.out.drewN _).drewN _).setReg ka (y : Int)).setHere (hh + 1) | exact (((H1.out.drewN _).drew).setReg ka (y : Int)).setHere (hh + 1)
end Go.Proofs.Ytgejpggbmgiocaa
/- The reference's instructions: a number is told. -/
namespace Go.Proofs.Ytgejpggbmgiocaa
open Go.RowKit
theorem at_form {v : Value} {W : World} {gg n c : Nat} (h : v.ownBlock = some gg ∨ gg = W.heap.size) : (Value.slice (some ⟨gg, 0, none⟩) n c).ownBlock = v.ownBlock ∨ (Value.slice (some ⟨gg, 0, none⟩) n c).ownBlock = some W.heap.size := by
  rcases h with h | h
  · exact .inl h.symm
  · exact .inr (by rw [← h]; rfl)
set_option maxRecDepth 100000 in
set_option maxHeartbeats 4000000 in
theorem rdo_17 (B g gr gk : Nat) (w0 W : World) (prg : List Value) (room fuel : Int) (s : St) (vs vp vg vt : Value) (mg : List Int → Option (List Int)) (p : Prog) (i : Ins) (ho : i.op = 17) (hf : fitsF i = true) (h : RR B g gr gk w0 W prg room fuel s vs vp vg vt) (hn : s.told.length ≤ 10000000000) :
    Calls Try.prog 35 #[.pointer (some ⟨g, 0, none⟩), insV i] W (ResR B g gr w0 prg room fuel (doF mg p room s i)) := by
  obtain ⟨op, a, b, c, d⟩ := i
  simp only at ho
  subst ho
  obtain ⟨ka, hka, rfl⟩ := reg_nat (x := a) (by simpa [fitsF] using hf)
  have H1 := Lib.hid (h.alloc (.cells #[.int .i64 17, .int .i64 (ka : Int), .int .i64 b, .int .i64 c, .int .i64 d] 40))
  have hlt := h.lt
  have c0 := H1.out.cells.vr
  have n1 : decide ((ka : Int) < 0) = false := by simp
  have n2 : decide ((8 : Int) ≤ (ka : Int)) = false := by simp; omega
  have n4 : decide (ka < 8) = true := by simpa using hka
  have n5 : ¬ 8 ≤ ka := by omega
  have n6 : (ka : Int) < 8 := by omega
  have c1 := H1.out.cells.reg ka hka
  have c2 := H1.out.cells.vt
  have f1 := H1.out.cells.fr 16
  obtain ⟨r, hr⟩ : ∃ r, r = s.regs.getD ka 0 := ⟨_, rfl⟩
  obtain ⟨n, hn'⟩ : ∃ n, n = s.told.length := ⟨_, rfl⟩
  rw [← hr] at c1
  rw [← hn'] at hn
  obtain ⟨i9, hi9, hz9, hsz9, hbt9⟩ := info_parts info3
  have y1 : (0 : Nat) < 1 := by omega
  have y2 : n + 1 ≤ maxLen := by unfold maxLen; omega
  have y3 : (n + 1) * 8 ≤ 140737488355328 := by omega
  have y4 : ∀ u ∈ [(.int .i64 r : Value)], u.oneCell' = true := by intro u hu; simp at hu; subst hu; rfl
  have HR := Lib.hid hr
  have HN := Lib.hid hn'
  have hbs := H1.out.Bs
  clear hr hn'
  clear h hf
  unfold insV
  go_enter Try.func35, Try.ntmps35
  go_wp2_with fail
  go_region_law (first
    | (refine step_append_lies _ rfl (.tmp 342) (.tmp 351) 26 rfl B 3 i9 _ 1 8 Try.underlying26 hi9 hz9 hsz9 hbt9 rfl y1 vt n (numsV .i64 s.told) (by rfl) ?_ ⟨_, 0, none⟩ 1 1 [.int .i64 r] (by rfl) rfl (one_news ?_) y4 y1 y2 y3 ?_ _ rfl ?_
       · rw [HN.out]
         repeat first | exact H1.out.told | refine World.ownsRow.drew ?_ | refine World.ownsRow.alloc ?_ _ | refine own_drewN ?_ _
       · first | exact cell_new_at (by simp) | (show World.cell? (World.alloc _ _) _ = _; exact cell_new_at (by simp)) | (simp; done)
       · simp at hbs ⊢ <;> omega
       intro g5 c9 w5 hown5 hgrow5 hat5 hlt5
       have hbx := RR.midBox (B := B) (g := g) (gr := gr) (gk := gk) (w0 := w0) (prg := prg) (room := room) (fuel := fuel) (s := s) (vs := vs) (vp := vp) (vg := vg) (vt := vt) (by repeat first | exact H1.out | refine RR.drew ?_ | refine RR.alloc ?_ _ | refine RR.drewN ?_ _) hgrow5 H1.out.toldRow
       have d1 := hbx.vt
       have d2 := hbx.fr 16
       have hnx := RR.toldApp (B := B) (g := g) (gr := gr) (gk := gk) (w0 := w0) (prg := prg) (room := room) (fuel := fuel) (s := s) (vs := vs) (vp := vp) (vg := vg) (vt := vt) (by repeat first | exact H1.out | refine RR.drew ?_ | refine RR.alloc ?_ _ | refine RR.drewN ?_ _) (xs := [r]) (by rw [HN.out] at hown5; exact hown5) hgrow5 (at_form hat5)))
  all_goals
    go_wp2_with fail
    go_returns
    refine ⟨by first | rfl | simp, gk, vs, vp, vg, .slice (some ⟨g5, 0, none⟩) (n + 1) c9, ?_⟩
    rw [← HN.out] at hnx
    have e9 : ({ s with told := s.told ++ [r] } : St) = (doF mg p room s ⟨17, (ka : Int), b, c, d⟩).1 := by rw [HR.out]; rfl
    rw [← e9]
    exact hnx
end Go.Proofs.Ytgejpggbmgiocaa
/- The reference's instructions: a sign. -/
namespace Go.Proofs.Ytgejpggbmgiocaa
open Go.RowKit
set_option maxRecDepth 100000 in
set_option maxHeartbeats 4000000 in
theorem rdo_15 (B g gr gk : Nat) (w0 W : World) (prg : List Value) (room fuel : Int) (s : St) (vs vp vg vt : Value) (mg : List Int → Option (List Int)) (p : Prog) (i : Ins) (ho : i.op = 15) (hf : fitsF i = true) (h : RR B g gr gk w0 W prg room fuel s vs vp vg vt) (hn : s.signs.length ≤ 10000000000) :
    Calls Try.prog 35 #[.pointer (some ⟨g, 0, none⟩), insV i] W (ResR B g gr w0 prg room fuel (doF mg p room s i)) := by
  obtain ⟨op, a, b, c, d⟩ := i
  simp only at ho
  subst ho
  obtain ⟨ka, hka, rfl⟩ := reg_nat (x := a) (by simpa [fitsF] using hf)
  have H1 := Lib.hid (h.alloc (.cells #[.int .i64 15, .int .i64 (ka : Int), .int .i64 b, .int .i64 c, .int .i64 d] 40))
  have hlt := h.lt
  have c0 := H1.out.cells.vr
  have n1 : decide ((ka : Int) < 0) = false := by simp
  have n2 : decide ((8 : Int) ≤ (ka : Int)) = false := by simp; omega
  have n4 : decide (ka < 8) = true := by simpa using hka
  have n5 : ¬ 8 ≤ ka := by omega
  have n6 : (ka : Int) < 8 := by omega
  have c1 := H1.out.cells.reg ka hka
  have c2 := H1.out.cells.vg
  have f1 := H1.out.cells.fr 15
  obtain ⟨r, hr⟩ : ∃ r, r = s.regs.getD ka 0 := ⟨_, rfl⟩
  obtain ⟨n, hn'⟩ : ∃ n, n = s.signs.length := ⟨_, rfl⟩
  rw [← hr] at c1
  rw [← hn'] at hn
  obtain ⟨i9, hi9, hz9, hsz9, hbt9⟩ := info_parts info3
  have y1 : (0 : Nat) < 1 := by omega
  have y2 : n + 1 ≤ maxLen := by unfold maxLen; omega
  have y3 : (n + 1) * 8 ≤ 140737488355328 := by omega
  have y4 : ∀ u ∈ [(.int .i64 r : Value)], u.oneCell' = true := by intro u hu; simp at hu; subst hu; rfl
  have HR := Lib.hid hr
  have HN := Lib.hid hn'
  have hbs := H1.out.Bs
  clear hr hn'
  clear h hf
  unfold insV
  go_enter Try.func35, Try.ntmps35
  go_wp2_with fail
  go_region_law (first
    | (refine step_append_lies _ rfl (.tmp 274) (.tmp 283) 26 rfl B 3 i9 _ 1 8 Try.underlying26 hi9 hz9 hsz9 hbt9 rfl y1 vg n (numsV .i64 s.signs) (by rfl) ?_ ⟨_, 0, none⟩ 1 1 [.int .i64 r] (by rfl) rfl (one_news ?_) y4 y1 y2 y3 ?_ _ rfl ?_
       · rw [HN.out]
         repeat first | exact H1.out.sgn | refine World.ownsRow.drew ?_ | refine World.ownsRow.alloc ?_ _ | refine own_drewN ?_ _
       · first | exact cell_new_at (by simp) | (show World.cell? (World.alloc _ _) _ = _; exact cell_new_at (by simp)) | (simp; done)
       · simp at hbs ⊢ <;> omega
       intro g5 c9 w5 hown5 hgrow5 hat5 hlt5
       have hbx := RR.midBox (B := B) (g := g) (gr := gr) (gk := gk) (w0 := w0) (prg := prg) (room := room) (fuel := fuel) (s := s) (vs := vs) (vp := vp) (vg := vg) (vt := vt) (by repeat first | exact H1.out | refine RR.drew ?_ | refine RR.alloc ?_ _ | refine RR.drewN ?_ _) hgrow5 H1.out.sgnRow
       have d1 := hbx.vg
       have d2 := hbx.fr 15
       have hnx := RR.sgnApp (B := B) (g := g) (gr := gr) (gk := gk) (w0 := w0) (prg := prg) (room := room) (fuel := fuel) (s := s) (vs := vs) (vp := vp) (vg := vg) (vt := vt) (by repeat first | exact H1.out | refine RR.drew ?_ | refine RR.alloc ?_ _ | refine RR.drewN ?_ _) (xs := [r]) (by rw [HN.out] at hown5; exact hown5) hgrow5 (at_form hat5)))
  all_goals
    go_wp2_with fail
    go_returns
    refine ⟨by first | rfl | simp, gk, vs, vp, .slice (some ⟨g5, 0, none⟩) (n + 1) c9, vt, ?_⟩
    rw [← HN.out] at hnx
    have e9 : ({ s with signs := s.signs ++ [r] } : St) = (doF mg p room s ⟨15, (ka : Int), b, c, d⟩).1 := by rw [HR.out]; rfl
    rw [← e9]
    exact hnx
end Go.Proofs.Ytgejpggbmgiocaa
/- The reference's instructions: a byte. -/
namespace Go.Proofs.Ytgejpggbmgiocaa
open Go.RowKit
set_option maxRecDepth 100000 in
set_option maxHeartbeats 4000000 in
theorem rdo_12 (B g gr gk : Nat) (w0 W : World) (prg : List Value) (room fuel : Int) (s : St) (vs vp vg vt : Value) (mg : List Int → Option (List Int)) (p : Prog) (i : Ins) (ho : i.op = 12) (hf : fitsF i = true) (h : RR B g gr gk w0 W prg room fuel s vs vp vg vt) (hb : isB (s.reg i.a) = true) (hn : s.put.length ≤ 10000000000) :
    Calls Try.prog 35 #[.pointer (some ⟨g, 0, none⟩), insV i] W (ResR B g gr w0 prg room fuel (doF mg p room s i)) := by
  obtain ⟨op, a, b, c, d⟩ := i
  simp only at ho
  subst ho
  obtain ⟨ka, hka, rfl⟩ := reg_nat (x := a) (by simpa [fitsF] using hf)
  have H1 := Lib.hid (h.alloc (.cells #[.int .i64 12, .int .i64 (ka : Int), .int .i64 b, .int .i64 c, .int .i64 d] 40))
  have hlt := h.lt
  have c0 := H1.out.cells.vr
  have n1 : decide ((ka : Int) < 0) = false := by simp
  have n2 : decide ((8 : Int) ≤ (ka : Int)) = false := by simp; omega
  have n4 : decide (ka < 8) = true := by simpa using hka
  have n5 : ¬ 8 ≤ ka := by omega
  have n6 : (ka : Int) < 8 := by omega
  have c1 := H1.out.cells.reg ka hka
  have c2 := H1.out.cells.vp
  have f1 := H1.out.cells.fr 14
  obtain ⟨r, hr⟩ : ∃ r, r = s.regs.getD ka 0 := ⟨_, rfl⟩
  obtain ⟨n, hn'⟩ : ∃ n, n = s.put.length := ⟨_, rfl⟩
  rw [← hr] at c1
  rw [← hn'] at hn
  obtain ⟨i9, hi9, hz9, hsz9, hbt9⟩ := info_parts info5
  have hb2 : 0 ≤ r ∧ r < 256 := by have h9 : isB (s.regs.getD ka 0) = true := hb; rw [← hr] at h9; simpa [isB] using h9
  have hwr : IntKind.u8.wrap r = r := by rw [IntKind.wrap_u8]; omega
  have hu8 : ((UInt8.ofNat r.toNat).toNat : Int) = r := by rw [UInt8.toNat_ofNat']; omega
  have y1 : (0 : Nat) < 1 := by omega
  have y2 : n + 1 ≤ maxLen := by unfold maxLen; omega
  have y3 : (n + 1) * 1 ≤ 140737488355328 := by omega
  have y4 : ∀ u ∈ [(.int .u8 r : Value)], u.oneCell' = true := by intro u hu; simp at hu; subst hu; rfl
  have HR := Lib.hid hr
  have HN := Lib.hid hn'
  have hbs := H1.out.Bs
  clear hr hn'
  clear h hf
  unfold insV
  go_enter Try.func35, Try.ntmps35
  go_wp2_with fail
  go_region_law (first
    | (refine step_append_lies _ rfl (.tmp 220) (.tmp 230) 62 rfl B 5 i9 _ 1 1 Try.underlying62 hi9 hz9 hsz9 hbt9 rfl y1 vp n (bytesV s.put) (by rfl) ?_ ⟨_, 0, none⟩ 1 1 [.int .u8 r] (by rfl) rfl (one_news ?_) y4 y1 y2 y3 ?_ _ rfl ?_
       · rw [HN.out]
         repeat first | exact H1.out.put | refine World.ownsRow.drew ?_ | refine World.ownsRow.alloc ?_ _ | refine own_drewN ?_ _
       · first | exact cell_new_at (by simp) | (show World.cell? (World.alloc _ _) _ = _; exact cell_new_at (by simp)) | (simp; done)
       · simp at hbs ⊢ <;> omega
       intro g5 c9 w5 hown5 hgrow5 hat5 hlt5
       have hbx := RR.midBox (B := B) (g := g) (gr := gr) (gk := gk) (w0 := w0) (prg := prg) (room := room) (fuel := fuel) (s := s) (vs := vs) (vp := vp) (vg := vg) (vt := vt) (by repeat first | exact H1.out | refine RR.drew ?_ | refine RR.alloc ?_ _ | refine RR.drewN ?_ _) hgrow5 H1.out.putRow
       have d1 := hbx.vp
       have d2 := hbx.fr 14
       have hnx := RR.putApp (B := B) (g := g) (gr := gr) (gk := gk) (w0 := w0) (prg := prg) (room := room) (fuel := fuel) (s := s) (vs := vs) (vp := vp) (vg := vg) (vt := vt) (by repeat first | exact H1.out | refine RR.drew ?_ | refine RR.alloc ?_ _ | refine RR.drewN ?_ _) (xs := [UInt8.ofNat r.toNat]) (by rw [HN.out] at hown5; simp only [bytesV, List.map_cons, List.map_nil, hu8] at hown5 ⊢; exact hown5) hgrow5 (at_form hat5)))
  all_goals
    go_wp2_with fail
    go_returns
    refine ⟨by first | rfl | simp, gk, vs, .slice (some ⟨g5, 0, none⟩) (n + 1) c9, vg, vt, ?_⟩
    rw [← HN.out] at hnx
    have e9 : ({ s with put := s.put ++ [UInt8.ofNat r.toNat] } : St) = (doF mg p room s ⟨12, (ka : Int), b, c, d⟩).1 := by rw [HR.out]; rfl
    rw [← e9]
    exact hnx
end Go.Proofs.Ytgejpggbmgiocaa
