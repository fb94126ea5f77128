/- Do2, Do3 of this seat, in one text. -/
import Derived.Test.YtgejpggbmgiocaaM6
import Derived.BigRegion
import Derived.Deep.RegionLaw
import Derived.Deep.Cut
import Derived.Deep.AppendLies
import Derived.Test.YtgejpggbmgiocaaM3
/- What is done once it is paid: appends. -/
namespace Go.Proofs.Ytgejpggbmgiocaa
open Go.RowKit
theorem cell_new_at {w : World} {u : Value} {t : TypeId} {k : Nat} (hk : w.heap.size = k) : (w.alloc (.cells #[u] t)).cell? ⟨k, 0, none⟩ = some u := by subst hk; simp
theorem one_news {w : World} {g : Nat} {u : Value} (h0 : w.cell? ⟨g, 0, none⟩ = some u) : ∀ j u', [u][j]? = some u' → w.cell? ((⟨g, 0, none⟩ : Addr).add j) = some u' := by
  intro j u' hj
  match j, hj with
  | 0, hj => simp at hj; subst hj; simpa [Addr.add] using h0
theorem info5 : (Try.prog.info? 5).map (fun i => (i.zero, i.size, i.bytes)) = some (some (.int .u8 0), 1, 1) := by kernel_rfl
theorem RS.drew {B g : Nat} {w0 W : World} {prg : List Value} {room fuel : Int} {s : St} {vs vp vg vt : Value} (h : RS B g w0 W prg room fuel s vs vp vg vt) : RS B g w0 W.drew prg room fuel s vs vp vg vt := h.call (Below.refl _ _).drew
set_option maxRecDepth 100000 in
set_option maxHeartbeats 4000000 in
theorem do_17 (B g : Nat) (w0 W : World) (prg : List Value) (room fuel : Int) (s : St) (vs vp vg vt : Value) (b c d : Int) (ka : Nat) (hka : ka < 8) (x : Int) (t : ByteArray) (h : RS B g w0 W prg room fuel s vs vp vg vt) (hn : s.told.length ≤ 10000000000) :
    Calls Try.prog 32 #[.pointer (some ⟨g, 0, none⟩), .agg #[.int .i64 17, .int .i64 (ka : Int), .int .i64 b, .int .i64 c, .int .i64 d], .int .i64 x, .string t] W fun e w' => e = .returned (.tuple #[.int .i64 0, .bool false]) ∧ ∃ gg cap, RS B g w0 w' prg room fuel { s with told := s.told ++ [s.regs.getD ka 0] } vs vp vg (.slice (some ⟨gg, 0, none⟩) (s.told.length + 1) cap) := by
  have H := Lib.hid h
  have H1 := Lib.hid (h.alloc (.cells #[.int .i64 17, .int .i64 (ka : Int), .int .i64 b, .int .i64 c, .int .i64 d] 40))
  have hlt := h.lt
  have hb7 := and_small ka hka
  have c1 := H1.out.cells.reg ka hka
  have c2 := H1.out.cells.vt
  have f1 := H1.out.cells.fr 24
  obtain ⟨r, hr⟩ : ∃ r, r = s.regs.getD ka 0 := ⟨_, rfl⟩
  obtain ⟨n, hn'⟩ : ∃ n, n = s.told.length := ⟨_, rfl⟩
  rw [← hr] at c1
  rw [← hn'] at hn
  obtain ⟨i9, hi9, hz9, hsz9, hbt9⟩ := info_parts info3
  have y1 : (0 : Nat) < 1 := by omega
  have y2 : n + 1 ≤ maxLen := by unfold maxLen; omega
  have y3 : (n + 1) * 8 ≤ 140737488355328 := by omega
  have y4 : ∀ u ∈ [(.int .i64 r : Value)], u.oneCell' = true := by intro u hu; simp at hu; subst hu; rfl
  have HR := Lib.hid hr
  have HN := Lib.hid hn'
  clear hr hn'
  clear h
  go_enter Try.func32, Try.ntmps32
  go_wp2_with fail
  go_quiet (fail)
  go_wp2_with fail
  go_region_law (first
    | (refine step_append_lies _ rfl (.tmp 234) (.tmp 238) 26 rfl (g + 1) 3 i9 _ 1 8 Try.underlying26 hi9 hz9 hsz9 hbt9 rfl y1 vt n (numsV .i64 s.told) (by rfl) ?_ ⟨_, 0, none⟩ 1 1 [.int .i64 r] (by rfl) rfl (one_news ?_) y4 y1 y2 y3 ?_ _ rfl ?_
       · rw [HN.out]
         repeat first | exact H1.out.told | refine World.ownsRow.drew ?_ | refine World.ownsRow.alloc ?_ _ | refine own_drewN ?_ _
       · first | exact cell_new_at (by simp) | (show World.cell? (World.alloc _ _) _ = _; exact cell_new_at (by simp)) | (simp; done)
       · simp <;> omega
       intro g5 c9 w5 hown5 hgrow5 hat5 hlt5
       have hbx := RS.midBox (B := B) (g := g) (w0 := w0) (prg := prg) (room := room) (fuel := fuel) (s := s) (vs := vs) (vp := vp) (vg := vg) (vt := vt) (by repeat first | exact H1.out | refine RS.drew ?_ | refine RS.alloc ?_ _ | refine RS.drewN ?_ _) hgrow5 (fun b e => by have := (H1.out.told.lt b e).1; omega)
       have d1 := hbx.vt
       have d2 := hbx.fr 24
       have hnx := RS.toldApp (B := B) (g := g) (w0 := w0) (prg := prg) (room := room) (fuel := fuel) (s := s) (vs := vs) (vp := vp) (vg := vg) (vt := vt) (by repeat first | exact H1.out | refine RS.drew ?_ | refine RS.alloc ?_ _ | refine RS.drewN ?_ _) (xs := [r]) (by rw [HN.out] at hown5; exact hown5) hgrow5 hat5))
  all_goals
    go_wp2_with fail
    go_returns
    refine ⟨by first | rfl | simp, g5, c9, ?_⟩
    rw [← HN.out, ← HR.out]
    rw [← HN.out] at hnx
    exact hnx
set_option maxRecDepth 100000 in
set_option maxHeartbeats 4000000 in
theorem do_15 (B g : Nat) (w0 W : World) (prg : List Value) (room fuel : Int) (s : St) (vs vp vg vt : Value) (b c d : Int) (ka : Nat) (hka : ka < 8) (x : Int) (t : ByteArray) (h : RS B g w0 W prg room fuel s vs vp vg vt) (hn : s.signs.length ≤ 10000000000) :
    Calls Try.prog 32 #[.pointer (some ⟨g, 0, none⟩), .agg #[.int .i64 15, .int .i64 (ka : Int), .int .i64 b, .int .i64 c, .int .i64 d], .int .i64 x, .string t] W fun e w' => e = .returned (.tuple #[.int .i64 0, .bool false]) ∧ ∃ gg cap, RS B g w0 w' prg room fuel { s with signs := s.signs ++ [s.regs.getD ka 0] } vs vp (.slice (some ⟨gg, 0, none⟩) (s.signs.length + 1) cap) vt := by
  have H := Lib.hid h
  have H1 := Lib.hid (h.alloc (.cells #[.int .i64 15, .int .i64 (ka : Int), .int .i64 b, .int .i64 c, .int .i64 d] 40))
  have hlt := h.lt
  have hb7 := and_small ka hka
  have c1 := H1.out.cells.reg ka hka
  have c2 := H1.out.cells.vg
  have f1 := H1.out.cells.fr 23
  obtain ⟨r, hr⟩ : ∃ r, r = s.regs.getD ka 0 := ⟨_, rfl⟩
  obtain ⟨n, hn'⟩ : ∃ n, n = s.signs.length := ⟨_, rfl⟩
  rw [← hr] at c1
  rw [← hn'] at hn
  obtain ⟨i9, hi9, hz9, hsz9, hbt9⟩ := info_parts info3
  have y1 : (0 : Nat) < 1 := by omega
  have y2 : n + 1 ≤ maxLen := by unfold maxLen; omega
  have y3 : (n + 1) * 8 ≤ 140737488355328 := by omega
  have y4 : ∀ u ∈ [(.int .i64 r : Value)], u.oneCell' = true := by intro u hu; simp at hu; subst hu; rfl
  have HR := Lib.hid hr
  have HN := Lib.hid hn'
  clear hr hn'
  clear h
  go_enter Try.func32, Try.ntmps32
  go_wp2_with fail
  go_quiet (fail)
  go_wp2_with fail
  go_region_law (first
    | (refine step_append_lies _ rfl (.tmp 220) (.tmp 224) 26 rfl (g + 1) 3 i9 _ 1 8 Try.underlying26 hi9 hz9 hsz9 hbt9 rfl y1 vg n (numsV .i64 s.signs) (by rfl) ?_ ⟨_, 0, none⟩ 1 1 [.int .i64 r] (by rfl) rfl (one_news ?_) y4 y1 y2 y3 ?_ _ rfl ?_
       · rw [HN.out]
         repeat first | exact H1.out.sgn | refine World.ownsRow.drew ?_ | refine World.ownsRow.alloc ?_ _ | refine own_drewN ?_ _
       · first | exact cell_new_at (by simp) | (show World.cell? (World.alloc _ _) _ = _; exact cell_new_at (by simp)) | (simp; done)
       · simp <;> omega
       intro g5 c9 w5 hown5 hgrow5 hat5 hlt5
       have hbx := RS.midBox (B := B) (g := g) (w0 := w0) (prg := prg) (room := room) (fuel := fuel) (s := s) (vs := vs) (vp := vp) (vg := vg) (vt := vt) (by repeat first | exact H1.out | refine RS.drew ?_ | refine RS.alloc ?_ _ | refine RS.drewN ?_ _) hgrow5 (fun b e => by have := (H1.out.sgn.lt b e).1; omega)
       have d1 := hbx.vg
       have d2 := hbx.fr 23
       have hnx := RS.sgnApp (B := B) (g := g) (w0 := w0) (prg := prg) (room := room) (fuel := fuel) (s := s) (vs := vs) (vp := vp) (vg := vg) (vt := vt) (by repeat first | exact H1.out | refine RS.drew ?_ | refine RS.alloc ?_ _ | refine RS.drewN ?_ _) (xs := [r]) (by rw [HN.out] at hown5; exact hown5) hgrow5 hat5))
  all_goals
    go_wp2_with fail
    go_returns
    refine ⟨by first | rfl | simp, g5, c9, ?_⟩
    rw [← HN.out, ← HR.out]
    rw [← HN.out] at hnx
    exact hnx
end Go.Proofs.Ytgejpggbmgiocaa
/- What is done once it is paid: moves and marks. -/
namespace Go.Proofs.Ytgejpggbmgiocaa
open Go.RowKit
set_option maxRecDepth 100000 in
set_option maxHeartbeats 4000000 in
theorem do_3 (B g : Nat) (w0 W : World) (prg : List Value) (room fuel : Int) (s : St) (vs vp vg vt : Value) (c d : Int) (ka kb : Nat) (hka : ka < 8) (hkb : kb < 8) (x : Int) (t : ByteArray) (h : RS B g w0 W prg room fuel s vs vp vg vt) :
    Calls Try.prog 32 #[.pointer (some ⟨g, 0, none⟩), .agg #[.int .i64 3, .int .i64 (ka : Int), .int .i64 (kb : Int), .int .i64 c, .int .i64 d], .int .i64 x, .string t] W fun e w' => e = .returned (.tuple #[.int .i64 0, .bool false]) ∧ RS B g w0 w' prg room fuel { s with regs := s.regs.set ka (s.regs.getD kb 0) } vs vp vg vt := by
  have H := Lib.hid h
  have H1 := Lib.hid (h.alloc (.cells #[.int .i64 3, .int .i64 (ka : Int), .int .i64 (kb : Int), .int .i64 c, .int .i64 d] 40))
  have hlt := h.lt
  have hb7 := and_small ka hka
  have c1 := H1.out.cells.reg ka hka
  have c2 := H1.out.cells.reg kb hkb
  have f1 := H1.out.cells.fr (10 + ka)
  obtain ⟨r, hr⟩ : ∃ r, r = s.regs.getD kb 0 := ⟨_, rfl⟩
  rw [← hr] at c2 ⊢
  clear hr
  clear h
  go_enter Try.func32, Try.ntmps32
  go_wp2_with fail
  go_quiet (fail)
  go_wp2_with fail
  go_region
  go_wp2_with fail
  go_returns
  exact ⟨by first | rfl | simp, (H1.out.drewN _).setReg ka hka r⟩
set_option maxRecDepth 100000 in
set_option maxHeartbeats 4000000 in
theorem do_9 (B g : Nat) (w0 W : World) (prg : List Value) (room fuel : Int) (s : St) (vs vp vg vt : Value) (b c d : Int) (ka : Nat) (hka2 : ka < 2) (x : Int) (t : ByteArray) (h : RS B g w0 W prg room fuel s vs vp vg vt) :
    Calls Try.prog 32 #[.pointer (some ⟨g, 0, none⟩), .agg #[.int .i64 9, .int .i64 (ka : Int), .int .i64 b, .int .i64 c, .int .i64 d], .int .i64 x, .string t] W fun e w' => e = .returned (.tuple #[.int .i64 0, .bool false]) ∧ RS B g w0 w' prg room fuel { s with marks := s.marks.set ka s.here } vs vp vg vt := by
  have H := Lib.hid h
  have H1 := Lib.hid (h.alloc (.cells #[.int .i64 9, .int .i64 (ka : Int), .int .i64 b, .int .i64 c, .int .i64 d] 40))
  have hlt := h.lt
  have hka : ka < 8 := by omega
  have hb7 := and_small ka hka
  have c1 := H1.out.cells.mark ka hka2
  have c2 := H1.out.cells.here
  have f1 := H1.out.cells.fr (18 + ka)
  clear h
  go_enter Try.func32, Try.ntmps32
  go_wp2_with fail
  go_quiet (fail)
  go_wp2_with fail
  go_region
  go_wp2_with fail
  go_returns
  exact ⟨by first | rfl | simp, (H1.out.drewN _).setMark ka hka2 s.here⟩
set_option maxRecDepth 100000 in
set_option maxHeartbeats 4000000 in
theorem do_10 (B g : Nat) (w0 W : World) (prg : List Value) (room fuel : Int) (s : St) (vs vp vg vt : Value) (b c d : Int) (ka : Nat) (hka2 : ka < 2) (x : Int) (t : ByteArray) (h : RS B g w0 W prg room fuel s vs vp vg vt) :
    Calls Try.prog 32 #[.pointer (some ⟨g, 0, none⟩), .agg #[.int .i64 10, .int .i64 (ka : Int), .int .i64 b, .int .i64 c, .int .i64 d], .int .i64 x, .string t] W fun e w' => e = .returned (.tuple #[.int .i64 0, .bool false]) ∧ RS B g w0 w' prg room fuel { s with here := s.marks.getD ka 0 } vs vp vg vt := by
  have H := Lib.hid h
  have H1 := Lib.hid (h.alloc (.cells #[.int .i64 10, .int .i64 (ka : Int), .int .i64 b, .int .i64 c, .int .i64 d] 40))
  have hlt := h.lt
  have hka : ka < 8 := by omega
  have hb7 := and_small ka hka
  have c1 := H1.out.cells.mark ka hka2
  have c2 := H1.out.cells.here
  have f1 := H1.out.cells.fr 21
  obtain ⟨r, hr⟩ : ∃ r, r = s.marks.getD ka 0 := ⟨_, rfl⟩
  rw [← hr] at c1 ⊢
  clear hr
  clear h
  go_enter Try.func32, Try.ntmps32
  go_wp2_with fail
  go_quiet (fail)
  go_wp2_with fail
  go_region
  go_wp2_with fail
  go_returns
  exact ⟨by first | rfl | simp, (H1.out.drewN _).setHere r⟩
set_option maxRecDepth 100000 in
set_option maxHeartbeats 4000000 in
theorem do_11_yes (B g : Nat) (w0 W : World) (prg : List Value) (room fuel : Int) (s : St) (vs vp vg vt : Value) (b c d : Int) (ka : Nat) (hka2 : ka < 2) (x : Int) (t : ByteArray) (h : RS B g w0 W prg room fuel s vs vp vg vt) (hc : s.here = s.marks.getD ka 0) :
    Calls Try.prog 32 #[.pointer (some ⟨g, 0, none⟩), .agg #[.int .i64 11, .int .i64 (ka : Int), .int .i64 b, .int .i64 c, .int .i64 d], .int .i64 x, .string t] W fun e w' => e = .returned (.tuple #[.int .i64 0, .bool false]) ∧ RS B g w0 w' prg room fuel { s with pc := c } vs vp vg vt := by
  have H := Lib.hid h
  have H1 := Lib.hid (h.alloc (.cells #[.int .i64 11, .int .i64 (ka : Int), .int .i64 b, .int .i64 c, .int .i64 d] 40))
  have hlt := h.lt
  have hka : ka < 8 := by omega
  have hb7 := and_small ka hka
  have c1 := H1.out.cells.mark ka hka2
  have c2 := H1.out.cells.here
  have c3 := H1.out.cells.pc
  have f1 := H1.out.cells.fr 25
  obtain ⟨r, hr⟩ : ∃ r, r = s.marks.getD ka 0 := ⟨_, rfl⟩
  obtain ⟨q, hq⟩ : ∃ q, q = s.here := ⟨_, rfl⟩
  rw [← hr] at c1 hc
  rw [← hq] at c2 hc
  have e1 : ((q : Int) == (r : Int)) = true := by simp; omega
  have e2 : (q == r) = true := by simp; omega
  clear hc hr hq
  clear h
  go_enter Try.func32, Try.ntmps32
  go_wp2_with fail
  go_quiet (fail)
  go_wp2_with fail
  go_quiet (fail)
  go_wp2_with fail
  go_returns
  exact ⟨by first | rfl | simp, (H1.out.drewN _).setPc c⟩
set_option maxRecDepth 100000 in
set_option maxHeartbeats 4000000 in
theorem do_11_no (B g : Nat) (w0 W : World) (prg : List Value) (room fuel : Int) (s : St) (vs vp vg vt : Value) (b c d : Int) (ka : Nat) (hka2 : ka < 2) (x : Int) (t : ByteArray) (h : RS B g w0 W prg room fuel s vs vp vg vt) (hc : ¬ s.here = s.marks.getD ka 0) :
    Calls Try.prog 32 #[.pointer (some ⟨g, 0, none⟩), .agg #[.int .i64 11, .int .i64 (ka : Int), .int .i64 b, .int .i64 c, .int .i64 d], .int .i64 x, .string t] W fun e w' => e = .returned (.tuple #[.int .i64 0, .bool false]) ∧ RS B g w0 w' prg room fuel s vs vp vg vt := by
  have H := Lib.hid h
  have H1 := Lib.hid (h.alloc (.cells #[.int .i64 11, .int .i64 (ka : Int), .int .i64 b, .int .i64 c, .int .i64 d] 40))
  have hlt := h.lt
  have hka : ka < 8 := by omega
  have hb7 := and_small ka hka
  have c1 := H1.out.cells.mark ka hka2
  have c2 := H1.out.cells.here
  have c3 := H1.out.cells.pc
  have f1 := H1.out.cells.fr 25
  obtain ⟨r, hr⟩ : ∃ r, r = s.marks.getD ka 0 := ⟨_, rfl⟩
  obtain ⟨q, hq⟩ : ∃ q, q = s.here := ⟨_, rfl⟩
  rw [← hr] at c1 hc
  rw [← hq] at c2 hc
  have e1 : ((q : Int) == (r : Int)) = false := by simp; omega
  have e2 : (q == r) = false := by simp; omega
  clear hc hr hq
  clear h
  go_enter Try.func32, Try.ntmps32
  go_wp2_with fail
  go_quiet (fail)
  go_wp2_with fail
  go_quiet (fail)
  go_wp2_with fail
  go_returns
  exact ⟨by first | rfl | simp, (H1.out.drewN _).drewN _⟩
end Go.Proofs.Ytgejpggbmgiocaa
