/- RTx of this seat, in one text. -/
import Derived.Test.YtgejpggbmgiocaaM25
import Derived.Test.YtgejpggbmgiocaaM4
import Derived.Test.YtgejpggbmgiocaaM33
import Derived.ArgAppend
/- The reference's text of an instruction. -/
namespace Go.Proofs.Ytgejpggbmgiocaa
open Go.RowKit
/-- an append, by what it does -/
theorem step_append_run {P : Program} (w : World) {ops : Array Oper} {o : Oper} {a : Act} {K : Act → World → Prop} {Q : Exit → Act → World → Prop} {E : Prop} (hgd : o.guard = none) (s x : Operand) (t : TypeId)
    (ho : o.op = .call { callee := .builtin .append, args := #[s, x], argTypes := #[t, t] }) (v xv : Value) (hs : a.eval s = v) (hx : a.eval x = xv) (R : Value → World → Prop)
    (hrun : ∃ v' w', (Builtin.append_ #[t, t] o.type #[v, xv]).run P w = .ok v' w' ∧ R v' w') (h : ∀ v' w', R v' w' → K (a.put o.dst v') w') :
    if Region.wanted o (yielded ops a.tmps) = true then Oper.wp P o a w K Q else E := by
  have hw : Region.wanted o (yielded ops a.tmps) = true := by simp [Region.wanted, hgd]
  rw [if_pos hw]
  obtain ⟨v', w', hr, hR⟩ := hrun
  unfold Oper.wp
  simp [execOp, ho, resolve, invoke, builtin, hs, hx, hr, Result.andThen]
  exact h v' w' hR
/-- bytes that lie in a block of their own -/
structure BytesAt (w : World) (b : Nat) (l : Bs) : Prop where
  lt : b < w.heap.size
  cell : ∀ j, j < l.length → w.cell? ⟨b, j, none⟩ = some (.int .u8 (l.getD j 0).toNat)
theorem BytesAt.below {w w' : World} {b : Nat} {l : Bs} (h : BytesAt w b l) (hb : Below w.heap.size w w') : BytesAt w' b l :=
  ⟨Nat.lt_of_lt_of_le h.lt hb.size, fun j hj => (hb.cell (p := ⟨b, j, none⟩) h.lt).trans (h.cell j hj)⟩
/-- a text's bytes, in a new block with room unfrozen -/
structure NewBytes (W w : World) (b : Nat) (l : Bs) (cap : Nat) : Prop where
  at_ : BytesAt w b l
  new : W.heap.size ≤ b
  le : l.length ≤ cap
  room : ∀ j, j < cap → (w.cell? ⟨b, j, none⟩).isSome = true ∧ w.frozen? ⟨b, j, none⟩ = false
  bel : Below W.heap.size W w
theorem new_bytes (W : World) (s : ByteArray) : NewBytes W (Lib.bytesWorld W 5 s) W.heap.size s.data.toList (grownCap W s.size 0 5) := by
  have hge := grownCap_ge W s.size 0 5
  have hsz : (Lib.bytesCells W 5 s).size = grownCap W s.size 0 5 := by
    have h1 : s.data.size = s.size := rfl
    simp [Lib.bytesCells]; omega
  refine ⟨⟨by rw [Lib.bytesWorld_size]; omega, fun j hj => Lib.bytesWorld_cell W 5 s j hj⟩, Nat.le_refl _, hge, fun j hj => ?_, below_bytes W s⟩
  have hn := Lib.bytesWorld_at_new W 5 s
  constructor
  · simp only [World.cell?, hn]
    simp [hsz, hj]
  · unfold World.frozen?
    simp only [hn]
    simp; omega
theorem NewBytes.drewN {W w : World} {b : Nat} {l : Bs} {cap : Nat} (h : NewBytes W w b l cap) (n : Nat) : NewBytes W (w.drewN n) b l cap :=
  ⟨h.at_.below (below_drewN (Below.refl _ _) n), h.new, h.le, fun j hj => h.room j hj, below_drewN h.bel n⟩
theorem NewBytes.drew {W w : World} {b : Nat} {l : Bs} {cap : Nat} (h : NewBytes W w b l cap) : NewBytes W w.drew b l cap := h.drewN 1
theorem NewBytes.alloc {W w : World} {b : Nat} {l : Bs} {cap : Nat} (h : NewBytes W w b l cap) (o : Obj) : NewBytes W (w.alloc o) b l cap := by
  have hb : Below w.heap.size w (w.alloc o) := (Below.refl _ _).alloc (Nat.le_refl _) _
  refine ⟨h.at_.below hb, h.new, h.le, fun j hj => ?_, h.bel.alloc h.bel.size _⟩
  rw [hb.cell (p := ⟨b, j, none⟩) h.at_.lt, hb.frozen (p := ⟨b, j, none⟩) h.at_.lt]
  exact h.room j hj
theorem bget (l : Bs) (j : Nat) (hj : j < l.length) : (bytesV l)[j]? = some (.int .u8 (l.getD j 0).toNat) := by simp [bytesV, hj]
/-- one byte more -/
theorem append_byte (W w : World) (b : Nat) (l : Bs) (cap : Nat) (x : UInt8) (ad : Nat) (h : NewBytes W w b l cap) (hx : w.cell? ⟨ad, 0, none⟩ = some (.int .u8 (x.toNat : Int))) (hl : l.length ≤ 140737488355328 - 1) (ty : TypeId) :
    ∃ v' w', (Builtin.append_ #[62, 62] ty #[.slice (some ⟨b, 0, none⟩) l.length cap, .slice (some ⟨ad, 0, none⟩) 1 1]).run Try.prog w = .ok v' w' ∧ (∃ b' c', v' = .slice (some ⟨b', 0, none⟩) (l.length + 1) c' ∧ BytesAt w' b' (l ++ [x]) ∧ Below W.heap.size W w') := by
  obtain ⟨i9, hi9, hz9, hsz9, hbt9⟩ := info_parts info5
  by_cases hr : l.length + 1 ≤ cap
  · have hrm := h.room l.length (by omega)
    have hnew : ∀ j u, [(Value.int .u8 (x.toNat : Int))][j]? = some u → w.cell? ((⟨ad, 0, none⟩ : Addr).add j) = some u := fun j u hj => by
      cases j with
      | zero => simp at hj; subst hj; rw [add_plain']; exact hx
      | succ j => simp at hj
    have hrun := run_append_room_cells (P := Try.prog) w 62 ty 5 i9 Try.underlying62 hi9 b 0 l.length cap ⟨ad, 0, none⟩ 1 1 [.int .u8 (x.toNat : Int)] (by simp [hsz9]) hnew (by intro u hu; simp at hu; subst hu; rfl) hr
      (fun j hj => by simp at hj; subst hj; rw [hsz9]; simpa using hrm.1) (fun j hj => by simp at hj; subst hj; rw [hsz9]; simpa using hrm.2)
    refine ⟨_, _, hrun, b, cap, rfl, ?_, ?_⟩
    · rw [hsz9, Nat.zero_add, Nat.mul_one]
      refine ⟨by show b < (w.setCell ⟨b, l.length, none⟩ (.int .u8 (x.toNat : Int))).heap.size; simpa using h.at_.lt, fun j hj => ?_⟩
      have hj2 : j < l.length + 1 := by simpa using hj
      by_cases hlt : j < l.length
      · rw [World.cell?_setCells_out b _ _ w ⟨b, j, none⟩ (fun _ _ => .inl hlt), h.at_.cell j hlt]
        simp [hlt, List.getElem?_append_left]
      · obtain rfl : j = l.length := by omega
        have := World.cell?_setCells_in b [.int .u8 (x.toNat : Int)] l.length w (fun j hj => by simp at hj; subst hj; simpa using hrm.1) 0 (by simp)
        simp only [Nat.add_zero] at this
        rw [this]
        simp
    · rw [hsz9, Nat.zero_add, Nat.mul_one]
      exact h.bel.setCell (p := ⟨b, l.length, none⟩) h.new _
  · obtain ⟨v', w', hrun, ho, hg⟩ := run_append_arg_grows (P := Try.prog) w 62 ty 5 i9 (.int .u8 0) 1 1 Try.underlying62 hi9 hz9 hsz9 hbt9 rfl (by omega) ⟨b, 0, none⟩ l.length cap (bytesV l) (by simp [bytesV]) (fun j u hj => by
      rw [add_plain', Nat.zero_add]
      have hj2 : j < l.length := by have := (List.getElem?_eq_some_iff.1 hj).1; simpa [bytesV] using this
      rw [h.at_.cell j hj2]
      simpa [bytesV, hj2] using hj) ⟨ad, 0, none⟩ 1 1 [.int .u8 (x.toNat : Int)] (by simp) (fun j u hj => by
      cases j with
      | zero => simp at hj; subst hj; rw [add_plain']; exact hx
      | succ j => simp at hj) (by omega) (by unfold maxLen; omega) (by omega)
    refine ⟨v', w', hrun, ?_⟩
    obtain ⟨b', c', rfl, _⟩ := ho.form (by omega)
    refine ⟨b', c', rfl, ⟨(ho.lt b' rfl).2, fun j hj => ?_⟩, h.bel.grown hg h.bel.size (fun k e => by cases e)⟩
    have hj2 : j < l.length + 1 := by simpa using hj
    have hc := ho.cellAt j (by omega)
    rw [hc]
    have e1 : bytesV l ++ [.int .u8 (x.toNat : Int)] = bytesV (l ++ [x]) := by simp [bytesV]
    rw [e1, bget _ _ hj]
/-- what a text's call returns -/
def TextRes (W : World) (l : Bs) (e : Ending) (w' : World) : Prop := ∃ b c, e = .returned (.slice (some ⟨b, 0, none⟩) l.length c) ∧ BytesAt w' b l ∧ Below W.heap.size W w'
set_option maxRecDepth 100000 in
set_option maxHeartbeats 4000000 in
theorem rtext_any (B g gr gk : Nat) (w0 W : World) (prg : List Value) (room fuel : Int) (s : St) (vs vp vg vt : Value) (p : Prog) (op a b c d : Int) (h : RR B g gr gk w0 W prg room fuel s vs vp vg vt) (ht : TextsIn w0 B prg p.texts)
    (ha : isReg a = true) (hb : isReg b = true) (htl : ∀ k, (p.texts.getD k ⟨#[]⟩).size ≤ 140737488351232) (hok : textOk p s ⟨op, a, b, c, d⟩) (hrg : ∀ k, -9223372036854775808 ≤ s.regs.getD k 0 ∧ s.regs.getD k 0 ≤ 9223372036854775807) :
    Calls Try.prog 34 #[.pointer (some ⟨g, 0, none⟩), .agg #[.int .i64 op, .int .i64 a, .int .i64 b, .int .i64 c, .int .i64 d]] W (TextRes W (textF p s ⟨op, a, b, c, d⟩)) := by
  obtain ⟨ka, hka, rfl⟩ := reg_nat ha
  obtain ⟨kb, hkb, rfl⟩ := reg_nat hb
  have H1 := Lib.hid (h.alloc (.cells #[.int .i64 op, .int .i64 (ka : Int), .int .i64 (kb : Int), .int .i64 c, .int .i64 d] 40))
  have hlt := h.lt
  have hbs : Below W.heap.size W (W.alloc (.cells #[.int .i64 op, .int .i64 (ka : Int), .int .i64 (kb : Int), .int .i64 c, .int .i64 d] 40)) := (Below.refl _ _).alloc (Nat.le_refl _) _
  obtain ⟨hok1, hok2, hok3⟩ := hok
  have HREG := Lib.hid (show s.reg (ka : Int) = s.regs.getD ka 0 ∧ s.reg (kb : Int) = s.regs.getD kb 0 from ⟨rfl, rfl⟩)
  simp only [HREG.out.1, HREG.out.2] at hok1 hok2 hok3
  obtain ⟨rv, hrv⟩ : ∃ x, x = s.regs.getD ka 0 := ⟨_, rfl⟩
  obtain ⟨rb, hrb⟩ : ∃ x, x = s.regs.getD kb 0 := ⟨_, rfl⟩
  have hreg := HREG.out
  have v1 := H1.out.cells.reg ka hka
  have HB1 := hrg ka
  rw [← hrv] at hok1 hok2 hok3 v1 hreg HB1
  rw [← hrb] at hok3 hreg
  obtain ⟨kt, hkt⟩ : ∃ kt : Nat, rv / 2 = (kt : Int) := ⟨(rv / 2).toNat, by omega⟩
  have hktn : kt < p.texts.length := by omega
  have hq3 : wrap64 (rv.tdiv 2) = (kt : Int) := by rw [Int.tdiv_eq_ediv_of_nonneg (by omega), hkt]; exact IntWalk.wrap64_in _ (by omega)
  have hq4 : IntKind.i64.wrap (rv.tdiv 2) = (kt : Int) := by rw [Int.tdiv_eq_ediv_of_nonneg (by omega), hkt]; exact IntWalk.i64_in _ (by omega)
  have hmod4 : rv.tmod 2 = rv % 2 := Int.tmod_eq_emod_of_nonneg (by omega)
  have v0 := H1.out.cells.vr
  obtain ⟨A6, c6, h6, ha6⟩ := ht.arr
  have ha6 := ha6.below H1.out.below
  have v3 := H1.out.cells.p 6 (by omega)
  rw [h6] at v3
  have hle6 := ht.le
  obtain ⟨b6, o6, rfl, _, hc6⟩ := ha6.one hktn
  unfold TxtC at hc6
  obtain ⟨t0, ht0⟩ : ∃ t, t = p.texts.getD kt ⟨#[]⟩ := ⟨_, rfl⟩
  have hsz : t0.size ≤ 140737488351232 := by rw [ht0]; exact htl kt
  rw [← ht0] at hc6
  obtain ⟨nt, hnt⟩ : ∃ n, n = p.texts.length := ⟨_, rfl⟩
  rw [← hnt] at v3 hle6 hktn
  have hkti : (kt : Int) < (nt : Int) := by omega
  have n1 : decide ((ka : Int) < 0) = false := by simp
  have n2 : decide ((8 : Int) ≤ (ka : Int)) = false := by simp; omega
  have n4 : decide (ka < 8) = true := by simpa using hka
  have n5 : ¬ 8 ≤ ka := by omega
  have n6 : (ka : Int) < 8 := by omega
  have hcv := fun W => Lib.run_convert_string_bytes (P := Try.prog) W 9 62 5 t0 Try.underlying9 Try.underlying62 Try.underlying5
  have HBS := Lib.hid hbs
  have HF := Lib.hid (And.intro hreg (And.intro ht0 (And.intro hkt hok3)))
  have HRV := Lib.hid (And.intro hrv hrb)
  clear h ht hrg hok2 hok3 hbs ha6 hnt ht0 h6 hreg hrv hrb
  by_cases hpar : rv % 2 = 1
  · have htf : textF p s ⟨op, (ka : Int), (kb : Int), c, d⟩ = t0.data.toList ++ [UInt8.ofNat rb.toNat] := by
      rw [HF.out.2.1]; exact textF_odd p s op _ _ c d rv rb kt HF.out.1.1 HF.out.1.2 hpar HF.out.2.2.1
    rw [htf]
    have hib := HF.out.2.2.2 hpar
    have HIB := Lib.hid hib
    rw [hpar] at hmod4
    clear htf hib hkt hpar
    have p1 : decide ((kb : Int) < 0) = false := by simp
    have p2 : decide ((8 : Int) ≤ (kb : Int)) = false := by simp; omega
    have p4 : decide (kb < 8) = true := by simpa using hkb
    have p5 : ¬ 8 ≤ kb := by omega
    have p6 : (kb : Int) < 8 := by omega
    go_enter Try.func34, Try.ntmps34
    go_wp2_with fail
    go_quiet (fail)
    have H2 := Lib.hid (H1.out.drewN nq)
    have I2 := Lib.hid ((Blk.new W 40 [.int .i64 op, .int .i64 (ka : Int), .int .i64 (kb : Int), .int .i64 c, .int .i64 d]).drewN nq)
    have hbs2 := below_drewN HBS.out nq
    have hc7 : ((W.alloc (.cells #[.int .i64 op, .int .i64 (ka : Int), .int .i64 (kb : Int), .int .i64 c, .int .i64 d] 40)).drewN nq).cell? ⟨b6, o6 + kt, none⟩ = some (.string t0) := by simpa using hc6
    have v7 : ((W.alloc (.cells #[.int .i64 op, .int .i64 (ka : Int), .int .i64 (kb : Int), .int .i64 c, .int .i64 d] 40)).drewN nq).cell? ⟨g, 6, none⟩ = some (.slice (some ⟨b6, o6, none⟩) nt c6) := by simpa using v3
    clear v0 v1 v3 hc6 HBS
    obtain ⟨ib, hib⟩ : ∃ ib, ib = W.heap.size := ⟨_, rfl⟩
    rw [← hib] at I2 ⊢
    generalize (W.alloc (.cells #[.int .i64 op, .int .i64 (ka : Int), .int .i64 (kb : Int), .int .i64 c, .int .i64 d] 40)).drewN nq = W2 at H2 I2 hbs2 hc7 v7 ⊢
    have HB2 := Lib.hid hbs2
    have HIBK := Lib.hid hib
    clear hbs2 hib H1
    have v0 := H2.out.cells.vr
    have v2 := H2.out.cells.reg kb hkb
    have i2 := I2.out.cell 2
    simp only [List.getElem?_cons_zero, List.getElem?_cons_succ] at i2
    have hlt2 := H2.out.lt
    rw [← HRV.out.2] at v2
    have hbm := isB_mod rb HIB.out.symm
    have HBM := Lib.hid hbm
    clear hbm
    have NB := Lib.hid (new_bytes W2 t0)
    have H3 := Lib.hid (H2.out.call (below_bytes W2 t0))
    have I3 := Lib.hid (I2.out.below (below_bytes W2 t0) I2.out.lt)
    go_wp2_with fail
    obtain ⟨cp, hcp⟩ : ∃ cp, cp = grownCap W2 t0.size 0 5 := ⟨_, rfl⟩
    obtain ⟨nb, hnb⟩ : ∃ nb, nb = W2.heap.size := ⟨_, rfl⟩
    rw [← hcp, ← hnb] at NB
    rw [← hcp, ← hnb]
    have HNB := Lib.hid hnb
    clear hcp hnb hcv v0 v2 i2 hc7 v7 hlt2
    generalize Lib.bytesWorld W2 5 t0 = W3 at NB H3 I3 ⊢
    have v0 := H3.out.cells.vr
    have v2 := H3.out.cells.reg kb hkb
    rw [← HRV.out.2] at v2
    have i2 := I3.out.cell 2
    simp only [List.getElem?_cons_zero, List.getElem?_cons_succ] at i2
    have hlt3 := H3.out.lt
    go_region_law (first
      | (refine step_append_run _ rfl (.tmp 28) (.tmp 38) 62 rfl _ _ (by rfl) (by rfl) (fun v' w' => ∃ b' c', v' = .slice (some ⟨b', 0, none⟩) (t0.data.toList.length + 1) c' ∧ BytesAt w' b' (t0.data.toList ++ [UInt8.ofNat rb.toNat]) ∧ Below W2.heap.size W2 w') (append_byte W2 _ nb t0.data.toList cp (UInt8.ofNat rb.toNat) _ ?_ ?_ (by rw [data_len]; omega) _) ?_
         · repeat first | exact NB.out | refine NewBytes.alloc ?_ _ | refine NewBytes.drew ?_ | refine NewBytes.drewN ?_ _
         · rw [← HBM.out]
           first | exact cell_new_at (by simp) | (show World.cell? (World.alloc _ _) _ = _; exact cell_new_at (by simp)) | (simp; done)
         rintro v5 w5 ⟨b5, c5, rfl, hat, hbel⟩))
    all_goals
      go_wp2_with fail
      go_returns
      exact ⟨b5, c5, by simp, hat, HB2.out.trans (hbel.mono HB2.out.size)⟩
  · have hpar0 : rv % 2 = 0 := by omega
    have htf : textF p s ⟨op, (ka : Int), (kb : Int), c, d⟩ = t0.data.toList := by
      rw [HF.out.2.1]; exact textF_even p s op _ _ c d rv kt HF.out.1.1 hpar0 HF.out.2.2.1
    rw [htf]
    rw [hpar0] at hmod4
    clear htf hkt hpar hpar0
    go_enter Try.func34, Try.ntmps34
    go_wp2_with fail
    go_quiet (fail)
    have H2 := Lib.hid (H1.out.drewN nq)
    have I2 := Lib.hid ((Blk.new W 40 [.int .i64 op, .int .i64 (ka : Int), .int .i64 (kb : Int), .int .i64 c, .int .i64 d]).drewN nq)
    have hbs2 := below_drewN HBS.out nq
    have hc7 : ((W.alloc (.cells #[.int .i64 op, .int .i64 (ka : Int), .int .i64 (kb : Int), .int .i64 c, .int .i64 d] 40)).drewN nq).cell? ⟨b6, o6 + kt, none⟩ = some (.string t0) := by simpa using hc6
    have v7 : ((W.alloc (.cells #[.int .i64 op, .int .i64 (ka : Int), .int .i64 (kb : Int), .int .i64 c, .int .i64 d] 40)).drewN nq).cell? ⟨g, 6, none⟩ = some (.slice (some ⟨b6, o6, none⟩) nt c6) := by simpa using v3
    clear v0 v1 v3 hc6 HBS
    obtain ⟨ib, hib⟩ : ∃ ib, ib = W.heap.size := ⟨_, rfl⟩
    rw [← hib] at I2 ⊢
    generalize (W.alloc (.cells #[.int .i64 op, .int .i64 (ka : Int), .int .i64 (kb : Int), .int .i64 c, .int .i64 d] 40)).drewN nq = W2 at H2 I2 hbs2 hc7 v7 ⊢
    have HB2 := Lib.hid hbs2
    have HIBK := Lib.hid hib
    clear hbs2 hib H1
    have v0 := H2.out.cells.vr
    have v2 := H2.out.cells.reg kb hkb
    have i2 := I2.out.cell 2
    simp only [List.getElem?_cons_zero, List.getElem?_cons_succ] at i2
    have hlt2 := H2.out.lt
    go_wp2_with fail
    go_returns
    exact ⟨W2.heap.size, _, rfl, (new_bytes W2 t0).at_, HB2.out.trans ((below_bytes W2 t0).mono HB2.out.size)⟩
end Go.Proofs.Ytgejpggbmgiocaa
