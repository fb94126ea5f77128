/- Do4 of this seat, in one text. -/
import Derived.Test.YtgejpggbmgiocaaM7
import Derived.Test.YtgejpggbmgiocaaM3
import Derived.Lib.AppendStr
/- What a run's instructions do: Look, Copy, Text, Turn. -/
namespace Go.Proofs.Ytgejpggbmgiocaa
open Go.RowKit
def TabC (tabs : List Tbl) (DA : Nat → Option Addr) (dc : Nat → Nat) (k j : Nat) : Value := if j = 0 then .int .i64 (tabs.getD k noTbl).cols else .slice (DA k) (tabs.getD k noTbl).data.length (dc k)
/-- a program's tables in memory -/
structure TabsIn (w : World) (B : Nat) (prg : List Value) (tabs : List Tbl) : Prop where
  arr : ∃ A c DA dc, prg[5]? = some (.slice A tabs.length c) ∧ Arr w B 2 A tabs.length (TabC tabs DA dc) ∧ ∀ k, k < tabs.length → Arr w B 1 (DA k) (tabs.getD k noTbl).data.length (IntC (tabs.getD k noTbl).data)
  le : tabs.length ≤ 140737488355328
  led : ∀ k, k < tabs.length → (tabs.getD k noTbl).data.length ≤ 140737488355328
theorem TabsIn.at {w w' : World} {B : Nat} {prg : List Value} {tabs : List Tbl} (h : TabsIn w B prg tabs) (hb : Below B w w') {k : Nat} (hk : k < tabs.length) : ∃ b o c DA dc, prg[5]? = some (.slice (some ⟨b, o, none⟩) tabs.length c) ∧
    w'.cell? ⟨b, o + k * 2, none⟩ = some (.int .i64 (tabs.getD k noTbl).cols) ∧ w'.cell? ⟨b, o + k * 2 + 1, none⟩ = some (.slice DA (tabs.getD k noTbl).data.length dc) ∧
    Arr w' B 1 DA (tabs.getD k noTbl).data.length (IntC (tabs.getD k noTbl).data) := by
  obtain ⟨A, c, DA, dc, h5, ha, hd⟩ := h.arr
  obtain ⟨b, o, rfl, c0, c1⟩ := (ha.below hb).two hk
  exact ⟨b, o, c, DA k, dc k, h5, c1.1, c1.2, (hd k hk).below hb⟩
set_option maxRecDepth 100000 in
set_option maxHeartbeats 4000000 in
theorem do_8 (B g : Nat) (w0 W : World) (prg : List Value) (room fuel : Int) (s : St) (vs vp vg vt : Value) (b c : Int) (ka : Nat) (hka : ka < 8) (kd : Nat) (tabs : List Tbl) (hd : kd < tabs.length) (ht : TabsIn w0 B prg tabs) (cc : Nat) (hcc : cc < (tabs.getD kd noTbl).data.length) (t : ByteArray) (h : RS B g w0 W prg room fuel s vs vp vg vt) :
    Calls Try.prog 32 #[.pointer (some ⟨g, 0, none⟩), .agg #[.int .i64 8, .int .i64 (ka : Int), .int .i64 b, .int .i64 c, .int .i64 (kd : Int)], .int .i64 (cc : Int), .string t] W fun e w' => e = .returned (.tuple #[.int .i64 0, .bool false]) ∧ RS B g w0 w' prg room fuel { s with regs := s.regs.set ka ((tabs.getD kd noTbl).data.getD cc 0) } vs vp vg vt := by
  have H := Lib.hid h
  have H1 := Lib.hid (h.alloc (.cells #[.int .i64 8, .int .i64 (ka : Int), .int .i64 b, .int .i64 c, .int .i64 (kd : Int)] 40))
  have hlt := h.lt
  have hb7 := and_small ka hka
  have c3 := H1.out.cells.reg ka hka
  have f1 := H1.out.cells.fr (10 + ka)
  have c5 := H1.out.cells.p 5 (by omega)
  obtain ⟨bt, ot, ct, DA, dc, h5, t0, t1, harr⟩ := ht.at H1.out.below hd
  rw [h5] at c5
  obtain ⟨bd, od, rfl, _, hdc⟩ := harr.one hcc
  unfold IntC at hdc
  obtain ⟨y, hy⟩ : ∃ y, y = (tabs.getD kd noTbl).data.getD cc 0 := ⟨_, rfl⟩
  have hle1 := ht.le
  have hle2 := ht.led kd hd
  obtain ⟨nt, hnt⟩ : ∃ n, n = tabs.length := ⟨_, rfl⟩
  obtain ⟨nd, hnd⟩ : ∃ n, n = (tabs.getD kd noTbl).data.length := ⟨_, rfl⟩
  rw [← hy] at hdc ⊢
  rw [← hnt] at c5 hd hle1
  rw [← hnd] at t1 hcc hle2
  have i1 : (kd : Int) < (nt : Int) := by omega
  have i2 : (cc : Int) < (nd : Int) := by omega
  clear h ht harr hy hnt hnd h5 t0
  go_enter Try.func32, Try.ntmps32
  go_wp2_with fail
  go_quiet (fail)
  go_wp2_with fail
  go_region
  go_wp2_with fail
  go_returns
  exact ⟨by first | rfl | simp, (H1.out.drewN _).setReg ka hka y⟩
/-- an append of a text's bytes: where the new row lies -/
theorem run_append_string_at {P : Program} (w : World) (base : Nat) (t u ty e : TypeId) (i : TypeInfo) (ht : P.underlying t = some (.slice e)) (hu : P.underlying u = some .string) (hi : P.info? e = some i) (hz : i.zero = some (.int .u8 0))
    (hsize : i.size = 1) (hby : i.bytes = 1) (v : Value) (n : Nat) (xs : List Value) (hown : w.ownsRow base e 1 v n xs) (s : ByteArray)
    (h63 : n + s.size ≤ maxLen) (hbytes : n + s.size ≤ 140737488355328) (hbase : base ≤ w.heap.size) :
    ∃ v' w', (Builtin.append_ #[t, u] ty #[v, .string s]).run P w = .ok v' w' ∧ w'.ownsRow base e 1 v' (n + s.size) (xs ++ Lib.strCells s) ∧ w.grownBy w' v.ownBlock ∧ (v'.ownBlock = v.ownBlock ∨ v'.ownBlock = some w.heap.size) := by
  obtain ⟨v', w', hr, ho, hg, hnil⟩ := Lib.run_append_own_string w base t u ty e i ht hu hi hz hsize hby v n xs hown s h63 hbytes hbase
  have hsmall : n + s.size ≤ 9223372036854775807 := by simp only [maxLen] at h63; omega
  refine ⟨v', w', hr, ho, hg, ?_⟩
  rcases hown.2 with ⟨rfl, rfl⟩ | ⟨g, cap, cur, rfl, hbg, hgg, hnc, hcm, hcs, htake⟩
  · by_cases hm : s.size = 0
    · rw [hnil.2 ⟨rfl, hm⟩]; exact .inl rfl
    · have h2 := run_append_nil_string (P := P) w t u ty e i (.int .u8 0) ht hu hi hz s (by omega) (by omega) (by rw [hby]; omega)
      rw [hr] at h2
      injection h2 with h3 h4
      rw [h3]; exact .inr rfl
  · by_cases hroom : n + s.size ≤ cap
    · have h2 := Lib.run_append_room_string (P := P) w t u ty e i ht hu hi hsize g n cap cur hgg s hroom (by omega)
      rw [hr] at h2
      injection h2 with h3 h4
      rw [h3]; exact .inl rfl
    · have holds : ∀ j u, xs[j]? = some u → w.cell? ((⟨g, 0, none⟩ : Addr).add j) = some u := hown.cells (g := g) rfl
      have h2 := Lib.run_append_grow_string (P := P) w t u ty e i (.int .u8 0) ht hu hi hz ⟨g, 0, none⟩ n cap xs (by rw [hsize]; simpa using hown.1) holds s (by omega) (by omega) (by rw [hby]; exact growslice_fits (by omega) (by omega))
      rw [hr] at h2
      injection h2 with h3 h4
      rw [h3]; exact .inr rfl
theorem wpList_append_string_at {P : Program} (w : World) {ops : Array Oper} {rest : List Oper} {o : Oper} {a : Act} {Q : Exit → Act → World → Prop} (hgd : o.guard = none) (sl x : Operand) (t u : TypeId)
    (ho : o.op = .call { callee := .builtin .append, args := #[sl, x], argTypes := #[t, u] })
    (base : Nat) (e : TypeId) (i : TypeInfo) (ht : P.underlying t = some (.slice e)) (hu : P.underlying u = some .string) (hi : P.info? e = some i) (hz : i.zero = some (.int .u8 0))
    (hsize : i.size = 1) (hby : i.bytes = 1)
    (v : Value) (n : Nat) (xs : List Value) (hs : a.eval sl = v) (hown : w.ownsRow base e 1 v n xs) (s : ByteArray) (hx : a.eval x = .string s)
    (h63 : n + s.size ≤ maxLen) (hbytes : n + s.size ≤ 140737488355328) (hbase : base ≤ w.heap.size)
    (h : ∀ v' w', w'.ownsRow base e 1 v' (n + s.size) (xs ++ Lib.strCells s) → w.grownBy w' v.ownBlock → (v'.ownBlock = v.ownBlock ∨ v'.ownBlock = some w.heap.size) → wpList P ops Q rest (a.put o.dst v') w') : wpList P ops Q (o :: rest) a w := by
  refine wpList_plain hgd fun K hK => ?_
  obtain ⟨v', w', hr, h2, h3, h4⟩ := run_append_string_at (P := P) w base t u o.type e i ht hu hi hz hsize hby v n xs hown s h63 hbytes hbase
  unfold Oper.wp execOp
  simp only [ho, resolve, invoke, builtin, Sem.run_bind, Sem.run_pure, Result.andThen_ok, List.map_toArray, List.map_cons, List.map_nil, hs, hx, hr]
  exact hK _ _ (h v' w' h2 h3 h4)
theorem apart_any {W : World} {v u v' : Value} (h : Apart v u) (hor : v'.ownBlock = u.ownBlock ∨ v'.ownBlock = some W.heap.size) (hv : ∀ b, v.ownBlock = some b → b < W.heap.size) : Apart v v' := fun b e e2 => by
  rcases hor with h9 | h9
  · exact h b e (by rw [← h9]; exact e2)
  · rw [h9] at e2
    injection e2 with e2
    have := hv b e; omega
theorem RS.putApp2 {B g : Nat} {w0 W W' : World} {prg : List Value} {room fuel : Int} {s : St} {vs vp vg vt v' : Value} (h : RS B g w0 W prg room fuel s vs vp vg vt) {xs : List UInt8} (ho : W'.ownsRow (g + 1) 5 1 v' (s.put.length + xs.length) (bytesV s.put ++ bytesV xs)) (hg : W.grownBy W' vp.ownBlock) (hor : v'.ownBlock = vp.ownBlock ∨ v'.ownBlock = some W.heap.size) :
    RS B g w0 (W'.setCell ⟨g, 22, none⟩ v') prg room fuel { s with put := s.put ++ xs } vs v' vg vt := by
  have hm := h.mid hg (fun b e => by have := (h.put.lt b e).1; omega)
  have hh : ∀ b, b ≠ g → (W'.setCell ⟨g, 22, none⟩ v').heap[b]? = W'.heap[b]? := fun b hb => Below.heap_setCell _ _ _ b hb
  have hl : (s.put ++ xs).length = s.put.length + xs.length := by simp
  have hs : W.heap.size ≤ W'.heap.size := hg.size
  refine ⟨h.pl, h.rl, h.ml, hm.1.setCell (p := ⟨g, 22, none⟩) h.gB _, h.gB, ?_, ?_, ?_, ?_, ?_, h.asg, (apart_any h.asp hor (fun b e => (h.src.near b e).2)), h.ass, h.ast, (apart_any h.apg.symm hor (fun b e => (h.sgn.lt b e).2)).symm, (apart_any h.apt.symm hor (fun b e => (h.told.lt b e).2)).symm, h.agt⟩
  · have := hm.2.set 22 v'
    rw [rs_tail h.pl h.rl h.ml 2] at this
    exact this
  · refine (h.src.keep hs (fun b e => hg.block b (h.src.near b e).2 (fun e9 => h.asp b e e9.symm))).keep (by simp) (fun b e => hh b (fun e9 => h.asg (by rw [e, e9])))
  · rw [hl]; simp only [bytesV, List.map_append] at ho ⊢; exact own_move ho (fun b _ e ho' _ => (hh b (by have := (ho.lt b e).1; omega)).trans ho')
  · exact own_move (own_far h.sgn hg h.apg.symm) (fun b _ e ho' _ => (hh b (by have := (h.sgn.lt b e).1; omega)).trans ho')
  · exact own_move (own_far h.told hg h.apt.symm) (fun b _ e ho' _ => (hh b (by have := (h.told.lt b e).1; omega)).trans ho')
theorem strCells_bytes (t : ByteArray) : Lib.strCells t = bytesV t.data.toList := rfl
set_option maxRecDepth 100000 in
set_option maxHeartbeats 4000000 in
theorem do_13 (B g : Nat) (w0 W : World) (prg : List Value) (room fuel : Int) (s : St) (vs vp vg vt : Value) (b c d : Int) (ka : Nat) (hka : ka < 8) (x : Int) (t : ByteArray) (h : RS B g w0 W prg room fuel s vs vp vg vt) (hn : s.put.length + t.size ≤ 10000000000) :
    Calls Try.prog 32 #[.pointer (some ⟨g, 0, none⟩), .agg #[.int .i64 13, .int .i64 (ka : Int), .int .i64 b, .int .i64 c, .int .i64 d], .int .i64 x, .string t] W fun e w' => e = .returned (.tuple #[.int .i64 0, .bool false]) ∧ ∃ vp', RS B g w0 w' prg room fuel { s with put := s.put ++ t.data.toList } vs vp' vg vt := by
  have H := Lib.hid h
  have H1 := Lib.hid (h.alloc (.cells #[.int .i64 13, .int .i64 (ka : Int), .int .i64 b, .int .i64 c, .int .i64 d] 40))
  have hlt := h.lt
  have hb7 := and_small ka hka
  have c2 := H1.out.cells.vp
  obtain ⟨i9, hi9, hz9, hsz9, hbt9⟩ := info_parts info5
  clear h
  go_enter Try.func32, Try.ntmps32
  go_wp2_with fail
  go_quiet (fail)
  have hpl := H1.out.put
  have hlt2 := H1.out.lt
  go_wp2_with (first
    | (at_builtin; refine wpList_append_string_at _ rfl (.tmp 190) (.tmp 191) 62 9 rfl (g + 1) 5 i9 Try.underlying62 Try.underlying9 hi9 hz9 hsz9 hbt9 vp s.put.length (bytesV s.put) rfl (own_drewN hpl nq) t rfl (by unfold maxLen; omega) (by omega) (by simp at hlt2 ⊢; omega) ?_; intro v5 w5 hown5 hgrow5 hor5
       obtain ⟨A5, c5, rfl⟩ := own_sl hown5
       have hbx := RS.midBox (H1.out.drewN nq) hgrow5 (fun b e => by have := (H1.out.put.lt b e).1; omega)
       have d1 := hbx.vp
       have d2 := hbx.fr 22
       have hnx := RS.putApp2 (H1.out.drewN nq) (xs := t.data.toList) (by rw [strCells_bytes] at hown5; exact hown5) hgrow5 hor5))
  go_returns
  exact ⟨by first | rfl | simp, _, hnx⟩
set_option maxRecDepth 100000 in
set_option maxHeartbeats 4000000 in
theorem do_12 (B g : Nat) (w0 W : World) (prg : List Value) (room fuel : Int) (s : St) (vs vp vg vt : Value) (b c d : Int) (ka : Nat) (hka : ka < 8) (x : Int) (t : ByteArray) (h : RS B g w0 W prg room fuel s vs vp vg vt) (hn : s.put.length ≤ 10000000000) (hb0 : 0 ≤ s.regs.getD ka 0) (hb1 : s.regs.getD ka 0 < 256) :
    Calls Try.prog 32 #[.pointer (some ⟨g, 0, none⟩), .agg #[.int .i64 12, .int .i64 (ka : Int), .int .i64 b, .int .i64 c, .int .i64 d], .int .i64 x, .string t] W fun e w' => e = .returned (.tuple #[.int .i64 0, .bool false]) ∧ ∃ gg cap, RS B g w0 w' prg room fuel { s with put := s.put ++ [UInt8.ofNat (s.regs.getD ka 0).toNat] } vs (.slice (some ⟨gg, 0, none⟩) (s.put.length + 1) cap) vg vt := by
  have H := Lib.hid h
  have H1 := Lib.hid (h.alloc (.cells #[.int .i64 12, .int .i64 (ka : Int), .int .i64 b, .int .i64 c, .int .i64 d] 40))
  have hlt := h.lt
  have hb7 := and_small ka hka
  have c1 := H1.out.cells.reg ka hka
  have c2 := H1.out.cells.vp
  have f1 := H1.out.cells.fr 22
  obtain ⟨r, hr⟩ : ∃ r, r = s.regs.getD ka 0 := ⟨_, rfl⟩
  obtain ⟨n, hn'⟩ : ∃ n, n = s.put.length := ⟨_, rfl⟩
  rw [← hr] at c1
  rw [← hn'] at hn
  obtain ⟨i9, hi9, hz9, hsz9, hbt9⟩ := info_parts info5
  rw [← hr] at hb0 hb1
  have hwr : IntKind.u8.wrap r = r := by rw [IntKind.wrap_u8]; omega
  have hu8 : ((UInt8.ofNat r.toNat).toNat : Int) = r := by rw [UInt8.toNat_ofNat']; omega
  have y1 : (0 : Nat) < 1 := by omega
  have y2 : n + 1 ≤ maxLen := by unfold maxLen; omega
  have y3 : (n + 1) * 1 ≤ 140737488355328 := by omega
  have y4 : ∀ u ∈ [(.int .u8 r : Value)], u.oneCell' = true := by intro u hu; simp at hu; subst hu; rfl
  have HR := Lib.hid hr
  have HN := Lib.hid hn'
  clear hr hn'
  clear h
  go_enter Try.func32, Try.ntmps32
  go_wp2_with fail
  go_quiet (fail)
  go_wp2_with fail
  go_region_law (first
    | (refine step_append_lies _ rfl (.tmp 175) (.tmp 180) 62 rfl (g + 1) 5 i9 _ 1 1 Try.underlying62 hi9 hz9 hsz9 hbt9 rfl y1 vp n (bytesV s.put) (by rfl) ?_ ⟨_, 0, none⟩ 1 1 [.int .u8 r] (by rfl) rfl (one_news ?_) y4 y1 y2 y3 ?_ _ rfl ?_
       · rw [HN.out]
         repeat first | exact H1.out.put | refine World.ownsRow.drew ?_ | refine World.ownsRow.alloc ?_ _ | refine own_drewN ?_ _
       · first | exact cell_new_at (by simp) | (show World.cell? (World.alloc _ _) _ = _; exact cell_new_at (by simp)) | (simp; done)
       · simp <;> omega
       intro g5 c9 w5 hown5 hgrow5 hat5 hlt5
       have hbx := RS.midBox (B := B) (g := g) (w0 := w0) (prg := prg) (room := room) (fuel := fuel) (s := s) (vs := vs) (vp := vp) (vg := vg) (vt := vt) (by repeat first | exact H1.out | refine RS.drew ?_ | refine RS.alloc ?_ _ | refine RS.drewN ?_ _) hgrow5 (fun b e => by have := (H1.out.put.lt b e).1; omega)
       have d1 := hbx.vp
       have d2 := hbx.fr 22
       have hnx := RS.putApp (B := B) (g := g) (w0 := w0) (prg := prg) (room := room) (fuel := fuel) (s := s) (vs := vs) (vp := vp) (vg := vg) (vt := vt) (by repeat first | exact H1.out | refine RS.drew ?_ | refine RS.alloc ?_ _ | refine RS.drewN ?_ _) (xs := [UInt8.ofNat r.toNat]) (by rw [HN.out] at hown5; simp only [bytesV, List.map_cons, List.map_nil, hu8] at hown5 ⊢; exact hown5) hgrow5 hat5))
  all_goals
    go_wp2_with fail
    go_returns
    refine ⟨by first | rfl | simp, g5, c9, ?_⟩
    rw [← HN.out, ← HR.out]
    rw [← HN.out] at hnx
    exact hnx
theorem rc_vs {prg : List Value} {room fuel : Int} {s : St} {vs vp vg vt u : Value} (h1 : prg.length = 10) (h2 : s.regs.length = 8) (h3 : s.marks.length = 2) : (rcells prg s vs vp vg vt room fuel).set 20 u = rcells prg s u vp vg vt room fuel := rs_tail h1 h2 h3 0 u
theorem rc_vp {prg : List Value} {room fuel : Int} {s : St} {vs vp vg vt u : Value} (h1 : prg.length = 10) (h2 : s.regs.length = 8) (h3 : s.marks.length = 2) : (rcells prg s vs vp vg vt room fuel).set 22 u = rcells prg s vs u vg vt room fuel := rs_tail h1 h2 h3 2 u
theorem rc_here {prg : List Value} {room fuel : Int} {s : St} {vs vp vg vt : Value} (h1 : prg.length = 10) (h2 : s.regs.length = 8) (h3 : s.marks.length = 2) (x : Nat) : (rcells prg s vs vp vg vt room fuel).set 21 (.int .i64 (x : Int)) = rcells prg { s with here := x } vs vp vg vt room fuel := rs_tail h1 h2 h3 1 _
theorem RS.turn {B g : Nat} {w0 W : World} {prg : List Value} {room fuel : Int} {s : St} {vs vp vg vt : Value} (h : RS B g w0 W prg room fuel s vs vp vg vt) :
    RS B g w0 (((((W.setCell ⟨g, 20, none⟩ vp).setCell ⟨g, 22, none⟩ (.slice none 0 0)).setCell ⟨g, 21, none⟩ (.int .i64 0)).setCell ⟨g, 18, none⟩ (.int .i64 0)).setCell ⟨g, 19, none⟩ (.int .i64 0)) prg room fuel { s with src := s.put, put := [], here := 0, marks := [0, 0] } vp (.slice none 0 0) vg vt := by
  have hb1 := h.box.set 20 vp
  rw [rc_vs h.pl h.rl h.ml] at hb1
  have hb2 := hb1.set 22 (.slice none 0 0)
  rw [rc_vp h.pl h.rl h.ml] at hb2
  have hb3 := hb2.set 21 (.int .i64 ((0 : Nat) : Int))
  rw [rc_here h.pl h.rl h.ml] at hb3
  have hb4 := hb3.set (18 + 0) (.int .i64 ((0 : Nat) : Int))
  rw [rs_mark (s := { s with here := 0 }) h.pl h.rl 0 0 (by omega) h.ml] at hb4
  have hb5 := hb4.set (18 + 1) (.int .i64 ((0 : Nat) : Int))
  rw [rs_mark (s := { s with here := 0, marks := s.marks.set 0 0 }) h.pl h.rl 1 0 (by omega) (by simp [h.ml])] at hb5
  have hmk : (s.marks.set 0 0).set 1 0 = [0, 0] := by
    have := h.ml
    match hm : s.marks, this with
    | [a, b], _ => rfl
  rw [hmk] at hb5
  have hh : ∀ b, b ≠ g → (((((W.setCell ⟨g, 20, none⟩ vp).setCell ⟨g, 22, none⟩ (.slice none 0 0)).setCell ⟨g, 21, none⟩ (.int .i64 0)).setCell ⟨g, 18, none⟩ (.int .i64 0)).setCell ⟨g, 19, none⟩ (.int .i64 0)).heap[b]? = W.heap[b]? := fun b hb => by
    rw [Below.heap_setCell _ _ _ b hb, Below.heap_setCell _ _ _ b hb, Below.heap_setCell _ _ _ b hb, Below.heap_setCell _ _ _ b hb, Below.heap_setCell _ _ _ b hb]
  refine ⟨h.pl, h.rl, rfl, ((((h.below.setCell (p := ⟨g, 20, none⟩) h.gB _).setCell (p := ⟨g, 22, none⟩) h.gB _).setCell (p := ⟨g, 21, none⟩) h.gB _).setCell (p := ⟨g, 18, none⟩) h.gB _).setCell (p := ⟨g, 19, none⟩) h.gB _, h.gB, hb5, ?_, World.ownsRow_nil _ _ _ _, ?_, ?_, ?_, ?_, h.apg, h.apt, ?_, ?_, h.agt⟩
  · refine ⟨?_, fun b e => ⟨by have := (h.put.lt b e).1; have := h.gB; omega, by have := (h.put.lt b e).2; simpa using this⟩, fun j hj => ?_⟩
    · exact own_sl h.put
    · have hj2 : j < s.put.length := hj
      obtain ⟨b, cap, hv, _⟩ := h.put.form (by omega)
      refine ⟨b, ⟨cap, hv⟩, ?_⟩
      have hp := h.put
      rw [hv] at hp
      have hc := hp.cellAt j (by omega)
      have hne : b ≠ g := by have := (hp.lt b rfl).1; omega
      have e1 := hh b hne
      have e2 : ∀ W' : World, W'.heap[b]? = W.heap[b]? → W'.cell? ⟨b, j, none⟩ = W.cell? ⟨b, j, none⟩ := fun W' e => by simp only [World.cell?, e]
      rw [e2 _ e1, hc]
      simp [bytesV, hj2]
  · exact own_move h.sgn (fun b _ e ho _ => (hh b (by have := (h.sgn.lt b e).1; omega)).trans ho)
  · exact own_move h.told (fun b _ e ho _ => (hh b (by have := (h.told.lt b e).1; omega)).trans ho)
  · intro e
    have := (h.put.lt g e).1
    omega
  · intro b _ e2; cases e2
  · intro b e; cases e
  · intro b e; cases e
set_option maxRecDepth 100000 in
set_option maxHeartbeats 4000000 in
theorem do_14 (B g : Nat) (w0 W : World) (prg : List Value) (room fuel : Int) (s : St) (vs vp vg vt : Value) (a b c d : Int) (x : Int) (t : ByteArray) (h : RS B g w0 W prg room fuel s vs vp vg vt) :
    Calls Try.prog 32 #[.pointer (some ⟨g, 0, none⟩), .agg #[.int .i64 14, .int .i64 a, .int .i64 b, .int .i64 c, .int .i64 d], .int .i64 x, .string t] W fun e w' => e = .returned (.tuple #[.int .i64 0, .bool false]) ∧ RS B g w0 w' prg room fuel { s with src := s.put, put := [], here := 0, marks := [0, 0] } vp (.slice none 0 0) vg vt := by
  have H1 := Lib.hid (h.alloc (.cells #[.int .i64 14, .int .i64 a, .int .i64 b, .int .i64 c, .int .i64 d] 40))
  have hlt := h.lt
  obtain ⟨k7, hk7, hb7⟩ := and_seven a
  have c1 := H1.out.cells.vp
  have c2 := H1.out.cells.vs
  have c3 := H1.out.cells.here
  have c4 := H1.out.cells.mark 0 (by omega)
  have c5 := H1.out.cells.mark 1 (by omega)
  have f := H1.out.cells.fr
  have f1 := f 20
  have f2 := f 22
  have f3 := f 21
  have f4 := f 18
  have f5 := f 19
  obtain ⟨Ap, cp, hvp⟩ := own_sl H1.out.put
  obtain ⟨np, hnp⟩ : ∃ n, n = s.put.length := ⟨_, rfl⟩
  rw [← hnp] at hvp
  subst hvp
  clear h f hnp
  go_enter Try.func32, Try.ntmps32
  go_wp2_with fail
  go_quiet (fail)
  have H2 := Lib.hid (H1.out.drewN nq).turn
  go_wp2_with fail
  go_returns
  exact ⟨by first | rfl | simp, H2.out⟩
end Go.Proofs.Ytgejpggbmgiocaa
