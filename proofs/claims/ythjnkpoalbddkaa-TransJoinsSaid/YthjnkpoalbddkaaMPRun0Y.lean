/- A maker runs: what holds in memory at each byte. -/
import Derived.Test.YthjnkpoalbddkaaMPMem3Y
import Derived.Test.YthjnkpoalbddkaaMPStateY
import Derived.Test.YthjnkpoalbddkaaMPTextY
import Derived.Test.YthjnkpoalbddkaaStepY
namespace Go.Proofs.Ythjnkpoalbddkaa.MP
open Go.RowKit Go.Maps Go.WideMaps
/-- what a maker's run is told of its two functions -/
structure Env (fs fe : Nat) (B : Nat) (C : Bool → World → Prop) (cs ce : List Value) (step : St → UInt8 → Bs × St) (fin : St → Bs) (Ok : St → Prop) (lg : St → UInt8 → Bool) (lge : St → Bool) : Prop where
  go : ∀ fl W W', C fl W → B ≤ W.heap.size → But (fun k => B ≤ k) W W' → C fl W'
  hstep : ∀ fl W s (c : UInt8), C fl W → B ≤ W.heap.size → Ok s → Calls Try.prog fs ([Value.agg #[.int .i64 s.1, .int .i64 s.2], .int .u8 (c.toNat : Int)] ++ cs).toArray W fun e W' =>
    e = .returned (.tuple #[.string ⟨(step s c).1.toArray⟩, .agg #[.int .i64 (step s c).2.1, .int .i64 (step s c).2.2]]) ∧ But (fun k => k < B) W W' ∧ C (fl || lg s c) W'
  hfin : ∀ fl W s, C fl W → B ≤ W.heap.size → Ok s → Calls Try.prog fe ([Value.agg #[.int .i64 s.1, .int .i64 s.2]] ++ ce).toArray W fun e W' =>
    e = .returned (.string ⟨(fin s).toArray⟩) ∧ But (fun k => k < B) W W' ∧ C (fl || lge s) W'
  ok : ∀ s c, Ok s → Ok (step s c).2
  i64 : ∀ s, Ok s → I64 s.1 ∧ I64 s.2
  len : ∀ s c, Ok s → (step s c).1.length ≤ 100000
  elen : ∀ s, Ok s → (fin s).length ≤ 100000
/-- a zero machine's cells -/
def z4 : List Value := [.slice none 0 0, .slice none 0 0, .slice none 0 0, .slice none 0 0]
/-- the maker, its context and the two rows that are being filled -/
structure MidI (C : Bool → World → Prop) (B bk k gx gp gr : Nat) (vn vp ve : Value) (gno gtx : Nat) (RN RP : Nat → Nat) (W : World) (m : Mk St) (fl : Bool) (vt va : Value) (D1 D2 : DataW Unit) (lx lp : List Value) : Prop where
  mkr : MkIn W B bk m vn vp ve vt va gno gtx D1 D2 RN RP
  nl : m.next.length = k
  pl : m.put.length = k
  ctx : C fl W
  bx : Blk W gx 3 lx
  bp : Blk W gp 3 lp
  ex : ve.ownBlock ≠ some gx
  ep : ve.ownBlock ≠ some gp
  rn : ∀ i, i < k → RN i ≠ gx ∧ RN i ≠ gp ∧ RP i ≠ gx ∧ RP i ≠ gp
  ne : gx ≠ gp
  ax : B ≤ gx
  ap : B ≤ gp
  br : Blk W gr 42 z4
  ar : B ≤ gr
section
variable {fs fe : Nat} {cs ce : List Value} {C : Bool → World → Prop} {step : St → UInt8 → Bs × St} {fin : St → Bs} {Ok : St → Prop} {lg : St → UInt8 → Bool} {lge : St → Bool} {B bk k gx gp gr : Nat} {vn vp ve : Value} {gno gtx : Nat} {RN RP : Nat → Nat} {W W' : World} {m : Mk St} {fl fl' : Bool} {vt va : Value} {D1 D2 : DataW Unit} {lx lp : List Value}
theorem MidI.behind (h : MidI C B bk k gx gp gr vn vp ve gno gtx RN RP W m fl vt va D1 D2 lx lp) (hb : But (fun k => k < B) W W') (hc : C fl' W') : MidI C B bk k gx gp gr vn vp ve gno gtx RN RP W' m fl' vt va D1 D2 lx lp :=
  ⟨h.mkr.but hb (fun k hk => by omega), h.nl, h.pl, hc, hb.blk h.bx (by have := h.ax; omega), hb.blk h.bp (by have := h.ap; omega), h.ex, h.ep, h.rn, h.ne, h.ax, h.ap, hb.blk h.br (by have := h.ar; omega), h.ar⟩
theorem MidI.go (h : MidI C B bk k gx gp gr vn vp ve gno gtx RN RP W m fl vt va D1 D2 lx lp) (he : Env fs fe B C cs ce step fin Ok lg lge) (hw : Below W.heap.size W W') : MidI C B bk k gx gp gr vn vp ve gno gtx RN RP W' m fl vt va D1 D2 lx lp := by
  have hb := But.of_below hw
  have e : ∀ k, k < W.heap.size → ¬ W.heap.size ≤ k := fun k hk => by omega
  exact ⟨h.mkr.go hw, h.nl, h.pl, he.go _ _ _ h.ctx h.mkr.hB (hb.mono (fun k hk e9 => by omega)), hb.blk h.bx (e _ h.bx.lt), hb.blk h.bp (e _ h.bp.lt), h.ex, h.ep, h.rn, h.ne, h.ax, h.ap, hb.blk h.br (e _ h.br.lt), h.ar⟩
theorem MidI.state (h : MidI C B bk k gx gp gr vn vp ve gno gtx RN RP W m fl vt va D1 D2 lx lp) (he : Env fs fe B C cs ce step fin Ok lg lge) {s : St} {va' : Value} {D1' : DataW Unit} (hb : But (fun k => k = bk ∨ k = gno ∨ va.ownBlock = some k) W W')
    (hm : MkIn W' B bk (m.addS s) vn vp ve vt va' gno gtx D1' D2 RN RP) : MidI C B bk k gx gp gr vn vp ve gno gtx RN RP W' (m.addS s) fl vt va' D1' D2 lx lp := by
  have hl := m.addS_le s
  refine ⟨hm, hl.next ▸ h.nl, hl.put ▸ h.pl, he.go _ _ _ h.ctx h.mkr.hB (hb.mono (fun k hk e => ?_)), hb.blk h.bx (ApS.blk h.mkr h.bx (by decide) (by decide)).no, hb.blk h.bp (ApS.blk h.mkr h.bp (by decide) (by decide)).no, h.ex, h.ep, h.rn, h.ne, h.ax, h.ap, hb.blk h.br (ApS.blk h.mkr h.br (by decide) (by decide)).no, h.ar⟩
  rcases e with e | e | e
  · rw [e]; exact h.mkr.hbk
  · rw [e]; exact h.mkr.hno
  · exact (h.mkr.oa.lt k e).1
theorem MidI.text (h : MidI C B bk k gx gp gr vn vp ve gno gtx RN RP W m fl vt va D1 D2 lx lp) (he : Env fs fe B C cs ce step fin Ok lg lge) {t : Bs} {vt' : Value} {D2' : DataW Unit} (hb : But (fun k => k = bk ∨ k = gtx ∨ vt.ownBlock = some k) W W')
    (hm : MkIn W' B bk (m.addT t) vn vp ve vt' va gno gtx D1 D2' RN RP) : MidI C B bk k gx gp gr vn vp ve gno gtx RN RP W' (m.addT t) fl vt' va D1 D2' lx lp := by
  have hl := m.addT_le t
  refine ⟨hm, hl.next ▸ h.nl, hl.put ▸ h.pl, he.go _ _ _ h.ctx h.mkr.hB (hb.mono (fun k hk e => ?_)), hb.blk h.bx (ApT.blk h.mkr h.bx (by decide) (by decide)).no, hb.blk h.bp (ApT.blk h.mkr h.bp (by decide) (by decide)).no, h.ex, h.ep, h.rn, h.ne, h.ax, h.ap, hb.blk h.br (ApT.blk h.mkr h.br (by decide) (by decide)).no, h.ar⟩
  rcases e with e | e | e
  · rw [e]; exact h.mkr.hbk
  · rw [e]; exact h.mkr.htx
  · exact (h.mkr.ot.lt k e).1
theorem MidI.putX (h : MidI C B bk k gx gp gr vn vp ve gno gtx RN RP W m fl vt va D1 D2 lx lp) (he : Env fs fe B C cs ce step fin Ok lg lge) (j : Nat) (v : Value) : MidI C B bk k gx gp gr vn vp ve gno gtx RN RP (W.setCell ⟨gx, j, none⟩ v) m fl vt va D1 D2 (lx.set j v) lp := by
  have hb : But (fun k => k = gx) W (W.setCell ⟨gx, j, none⟩ v) := (But.of_grown (grownBy_setCell W gx j v)).mono (fun k _ e => by injection e with e; exact e.symm)
  exact ⟨h.mkr.cur h.bx hb h.ex (fun i hi => (h.rn i (by have := h.nl; omega)).1) (fun i hi => (h.rn i (by have := h.pl; omega)).2.2.1), h.nl, h.pl, he.go _ _ _ h.ctx h.mkr.hB (hb.mono (fun k _ e => by rw [e]; exact h.ax)), h.bx.set j v, hb.blk h.bp (fun e => h.ne e.symm), h.ex, h.ep, h.rn, h.ne, h.ax, h.ap, hb.blk h.br (fun e => blk_ne h.br h.bx (by decide) e), h.ar⟩
theorem MidI.putP (h : MidI C B bk k gx gp gr vn vp ve gno gtx RN RP W m fl vt va D1 D2 lx lp) (he : Env fs fe B C cs ce step fin Ok lg lge) (j : Nat) (v : Value) : MidI C B bk k gx gp gr vn vp ve gno gtx RN RP (W.setCell ⟨gp, j, none⟩ v) m fl vt va D1 D2 lx (lp.set j v) := by
  have hb : But (fun k => k = gp) W (W.setCell ⟨gp, j, none⟩ v) := (But.of_grown (grownBy_setCell W gp j v)).mono (fun k _ e => by injection e with e; exact e.symm)
  exact ⟨h.mkr.cur h.bp hb h.ep (fun i hi => (h.rn i (by have := h.nl; omega)).2.1) (fun i hi => (h.rn i (by have := h.pl; omega)).2.2.2), h.nl, h.pl, he.go _ _ _ h.ctx h.mkr.hB (hb.mono (fun k _ e => by rw [e]; exact h.ap)), hb.blk h.bx h.ne, h.bp.set j v, h.ex, h.ep, h.rn, h.ne, h.ax, h.ap, hb.blk h.br (fun e => blk_ne h.br h.bp (by decide) e), h.ar⟩
end
structure InI (C : Bool → World → Prop) (step : St → UInt8 → Bs × St) (fin : St → Bs) (first : St) (Ok : St → Prop) (lg : St → UInt8 → Bool) (lge : St → Bool) (B bk k gx gp gr : Nat) (s : St) (vn vp ve : Value) (gno gtx : Nat) (RN RP : Nat → Nat) (W : World) (m : Mk St) (c : Nat) (fl : Bool) (vt va : Value) (D1 D2 : DataW Unit) (nx pt : List Int) : Prop where
  run : RunI step fin first Ok lg lge m k c fl
  mid : MidI C B bk k gx gp gr vn vp ve gno gtx RN RP W m fl vt va D1 D2 (numsV .i64 nx ++ List.replicate (256 - c) (.int .i64 0)) (numsV .i64 pt ++ List.replicate (256 - c) (.int .i64 0))
  row : RowOk step m s nx pt c
  cur : m.all[k]? = some s
  few : m.all.length ≤ 1200
  tfew : m.texts.length ≤ 4097
section
variable {fs fe : Nat} {cs ce : List Value} {C : Bool → World → Prop} {step : St → UInt8 → Bs × St} {fin : St → Bs} {first : St} {Ok : St → Prop} {lg : St → UInt8 → Bool} {lge : St → Bool} {B bk k gx gp gr : Nat} {s : St} {vn vp ve : Value} {gno gtx : Nat} {RN RP : Nat → Nat} {W W' : World} {m : Mk St} {c : Nat} {fl : Bool} {vt va : Value} {D1 D2 : DataW Unit} {nx pt : List Int}
theorem InI.ok (h : InI C step fin first Ok lg lge B bk k gx gp gr s vn vp ve gno gtx RN RP W m c fl vt va D1 D2 nx pt) : Ok s := h.run.mem s (List.mem_of_getElem? h.cur)
theorem InI.klt (h : InI C step fin first Ok lg lge B bk k gx gp gr s vn vp ve gno gtx RN RP W m c fl vt va D1 D2 nx pt) : k < m.all.length := (List.getElem?_eq_some_iff.1 h.cur).1
theorem set_row (l : List Int) (n : Nat) (x : Int) : (numsV .i64 l ++ List.replicate (n + 1) (Value.int .i64 0)).set l.length (.int .i64 x) = numsV .i64 (l ++ [x]) ++ List.replicate n (.int .i64 0) := by
  have h1 : l.length = (numsV .i64 l).length := by simp [numsV]
  rw [h1, List.set_append_right _ _ (Nat.le_refl _), Nat.sub_self, numsV_snoc, List.replicate_succ, List.set_cons_zero]
  simp
end
end Go.Proofs.Ythjnkpoalbddkaa.MP
