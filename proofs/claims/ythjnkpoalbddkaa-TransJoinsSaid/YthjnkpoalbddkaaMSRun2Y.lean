/- A maker runs: a state is whole. -/
import Derived.Test.YthjnkpoalbddkaaMSRun0Y
import Derived.Test.YthjnkpoalbddkaaRegL
namespace Go.Proofs.Ythjnkpoalbddkaa.MS
open Go.RowKit Go.Maps Go.WideMaps
section
variable {fs fe : Nat} {cs ce : List Value} {C : Bool → World → Prop} {step : St → UInt8 → Bs × St} {fin : St → Bs} {first : St} {Ok : St → Prop} {lg : St → UInt8 → Bool} {lge : St → Bool} {B bk k gx gp gr : Nat} {s : St} {vn vp ve : Value} {gno gtx : Nat} {RN RP : Nat → Nat} {W W' : World} {m : Mk St} {c : Nat} {fl : Bool} {vt va vt' va' : Value} {D1 D2 D1' D2' : DataW Unit} {nx pt : List Int}
/-- the cells that the end of a round reads -/
theorem MkIn.four {A : Nat} {n cap : Nat} (h : MkIn W B bk m vn vp ve vt (.slice (some ⟨A, 0, none⟩) n cap) gno gtx D1 D2 RN RP) (hn : m.all.length = n) (hs : m.all[k]? = some s) :
    W.cell? ⟨bk, 2, none⟩ = some ve ∧ W.cell? ⟨bk, 5, none⟩ = some (.slice (some ⟨A, 0, none⟩) n cap) ∧ W.cell? ⟨A, k, none⟩ = some (.string ⟨s.toArray⟩) := by
  have hk := (List.getElem?_eq_some_iff.1 hs).1
  subst hn
  have hgd : m.all.getD k [] = s := by rw [List.getD_eq_getElem?_getD, hs]; rfl
  have hcells : cellsOfEl 1 tF s = [.string ⟨s.toArray⟩] := rfl
  have hrg := (own_range h.oa rfl hk).1
  rw [hgd, hcells] at hrg
  have x0 := hrg 0 _ rfl
  simp only [Nat.add_zero, Nat.mul_one] at x0
  have c2 := h.box.cell 2
  have c5 := h.box.cell 5
  simp only [List.getElem?_cons_zero, List.getElem?_cons_succ] at c2 c5
  exact ⟨c2, c5, x0⟩
theorem but_cell {S : Nat → Prop} {w w1 : World} (h : But S w w1) {g j : Nat} {v : Value} (hc : w.cell? ⟨g, j, none⟩ = some v) (hn : ¬ S g) : w1.cell? ⟨g, j, none⟩ = some v := by
  have hl := World.block_lt_of_cell? w _ hc
  have e := h.block g hl hn
  simp only [World.cell?, e]
  exact hc
theorem MkIn.four' {A : Nat} {n cap : Nat} {W' : World} (h : MkIn W B bk m vn vp ve vt (.slice (some ⟨A, 0, none⟩) n cap) gno gtx D1 D2 RN RP) (hn : m.all.length = n) (hs : m.all[k]? = some s) (hb : But (fun k => ve.ownBlock = some k) W W') :
    W'.cell? ⟨bk, 2, none⟩ = some ve ∧ W'.cell? ⟨bk, 5, none⟩ = some (.slice (some ⟨A, 0, none⟩) n cap) ∧ W'.cell? ⟨A, k, none⟩ = some (.string ⟨s.toArray⟩) ∧ Blk W' bk 110 [vn, vp, ve, vt, .map (some gno), .slice (some ⟨A, 0, none⟩) n cap, .map (some gtx), .bool m.bad] := by
  obtain ⟨h2, h5, h0⟩ := h.four hn hs
  have nb : ve.ownBlock ≠ some bk := fun e => blk_own_ne h.box h.oe (by decide) e
  have na : ve.ownBlock ≠ some A := fun e => own_own_ne h.oa h.oe (by decide) A rfl e
  exact ⟨but_cell hb h2 nb, but_cell hb h5 nb, but_cell hb h0 na, hb.blk h.box nb⟩
theorem InI.rowsIn {v0 v1 : Value} (h : InI C step fin first Ok lg lge B bk k gx gp gr s vn vp ve gno gtx RN RP W m 256 fl vt va D1 D2 nx pt) (he : Env fs fe B C cs ce step fin Ok lg lge)
    (hr : RwIn W W' B bk vn vp [ve, vt, .map (some gno), va, .map (some gtx), .bool m.bad] v0 v1 v0 (k + 1) (slV RN k ++ [.slice (some ⟨gx, 0, none⟩) 256 256]) v1 (k + 1) (slV RP k ++ [.slice (some ⟨gp, 0, none⟩) 256 256])) :
    MkIn W' B bk (m.rowed nx pt) v0 v1 ve vt va gno gtx D1 D2 (fun i => if i = m.next.length then gx else RN i) (fun i => if i = m.next.length then gp else RP i) ∧ C fl W' ∧ Blk W' gr 42 z4 := by
  have e1 := h.mid.nl
  have e2 := h.mid.pl
  have hx := h.mid.bx
  have hp := h.mid.bp
  simp only [Nat.sub_self, List.replicate_zero, List.append_nil] at hx hp
  refine ⟨h.mid.mkr.rowed (by rw [e1, e2]) (by rw [e1, e2]; exact hr) hx hp h.row.nl h.row.pl h.mid.ax h.mid.ap h.mid.ex h.mid.ep, he.go _ _ _ h.mid.ctx h.mid.mkr.hB (hr.but.mono (fun k _ e => ?_)), hr.but.blk h.mid.br (fun e => ?_)⟩
  · rcases e with e | e | e
    · rw [e]; exact h.mid.mkr.hbk
    · exact (h.mid.mkr.nx.own.lt k e).1
    · exact (h.mid.mkr.pt.own.lt k e).1
  · rcases e with e | e | e
    · exact blk_ne h.mid.br h.mid.mkr.box (by decide) e
    · exact blk_own_ne h.mid.br h.mid.mkr.nx.own (by decide) e
    · exact blk_own_ne h.mid.br h.mid.mkr.pt.own (by decide) e
end
/-- what is known at the head of the outer loop -/
structure OutI (C : Bool → World → Prop) (step : St → UInt8 → Bs × St) (fin : St → Bs) (first : St) (Ok : St → Prop) (lg : St → UInt8 → Bool) (lge : St → Bool) (B bk gr : Nat) (gno gtx : Nat) (W : World) (m : Mk St) (k : Nat) (fl : Bool) (vn vp ve vt va : Value) (D1 D2 : DataW Unit) (RN RP : Nat → Nat) : Prop where
  run : RunI step fin first Ok lg lge m k 0 fl
  mkr : MkIn W B bk m vn vp ve vt va gno gtx D1 D2 RN RP
  ctx : C fl W
  few : m.all.length ≤ 1200
  tfew : m.texts.length ≤ 4097
  br : Blk W gr 42 z4
  ar : B ≤ gr
section
variable {fs fe : Nat} {cs ce : List Value} {C : Bool → World → Prop} {step : St → UInt8 → Bs × St} {fin : St → Bs} {first : St} {Ok : St → Prop} {lg : St → UInt8 → Bool} {lge : St → Bool} {B bk k gx gp gr : Nat} {s : St} {vn vp ve : Value} {gno gtx : Nat} {RN RP : Nat → Nat} {W W' : World} {m : Mk St} {c : Nat} {fl : Bool} {vt va vt' va' : Value} {D1 D2 D1' D2' : DataW Unit} {nx pt : List Int}
/-- a state is whole -/
theorem InI.whole {v0 v1 vt' : Value} {D2' : DataW Unit} {RN' RP' : Nat → Nat} {W9 W10 W11 : World} {q : Nat} {g cap : Nat} {tx : Bs} (htx : tx = fin s)
    (h : InI C step fin first Ok lg lge B bk k gx gp gr s vn vp ve gno gtx RN RP W m 256 fl vt va D1 D2 nx pt) (he : Env fs fe B C cs ce step fin Ok lg lge) (hbad : m.bad = false)
    (h9 : MkIn W9 B bk (m.rowed nx pt) v0 v1 ve vt va gno gtx D1 D2 RN' RP') (hc9 : C (fl || lge s) W9) (hr9 : Blk W9 gr 42 z4) (hb10 : But (fun k => k = bk ∨ k = gtx ∨ vt.ownBlock = some k) W9 W10)
    (h10 : MkIn W10 B bk ((m.rowed nx pt).addT tx) v0 v1 ve vt' va gno gtx D1 D2' RN' RP') (hq : q = plc ((m.rowed nx pt).addT tx).texts tx) (hb11 : But (fun k => ve.ownBlock = some k) W10 W11)
    (ho : W11.ownsRow B 3 1 (.slice (some ⟨g, 0, none⟩) (k + 1) cap) (k + 1) (numsV .i64 m.ends ++ [.int .i64 q])) (hat : ve.ownBlock = some g ∨ W10.heap.size ≤ g) :
    OutI C step fin first Ok lg lge B bk gr gno gtx (W11.setCell ⟨bk, 2, none⟩ (.slice (some ⟨g, 0, none⟩) (k + 1) cap)) (((m.rowed nx pt).addT tx).ended (q : Nat)) (k + 1) (fl || lge s) v0 v1 (.slice (some ⟨g, 0, none⟩) (k + 1) cap) vt' va D1 D2' RN' RP' := by
  subst hq htx
  have hset := (But.of_grown (grownBy_setCell W11 bk 2 (.slice (some ⟨g, 0, none⟩) (k + 1) cap))).mono (S' := fun k => k = bk) (fun k _ e => by injection e with e; exact e.symm)
  have hbx := hb11.blk h10.box (fun e => blk_own_ne h10.box h10.oe (by decide) e)
  have hb12 : But (fun k => k = bk ∨ ve.ownBlock = some k) W10 (W11.setCell ⟨bk, 2, none⟩ (.slice (some ⟨g, 0, none⟩) (k + 1) cap)) := (hb11.mono (fun k _ e => .inr e)).trans hset (fun k _ e => .inl e)
  have el : ((m.rowed nx pt).addT (fin s)).ends = m.ends := ((m.rowed nx pt).addT_le (fin s)).ends
  have hel := h.run.ok.el
  have hall : ((m.rowed nx pt).addT (fin s)).all = m.all := by rw [addT_all]; rfl
  have hf := fits_of h.run.ok hbad
  refine ⟨h.run.whole h.cur h.row, h10.ended hb12 (hbx.set 2 _) ?_ (fun k hk => ?_), ?_, ?_, ?_, ?_, h.mid.ar⟩
  · rw [el, hel]
    exact hset.own ho (fun k hk e => blk_own_ne hbx ho (by decide) (by rw [hk, e]))
  · injection hk with hk
    simp only at hk
    subst hk
    exact hat
  · refine he.go _ _ _ (he.go _ _ _ hc9 h9.hB (hb10.mono (fun k _ e => ?_))) h10.hB (hb12.mono (fun k _ e => ?_))
    · rcases e with e | e | e
      · rw [e]; exact h9.hbk
      · rw [e]; exact h9.htx
      · exact (h9.ot.lt k e).1
    · rcases e with e | e
      · rw [e]; exact h10.hbk
      · exact (h10.oe.lt k e).1
  · show ((m.rowed nx pt).addT (fin s)).all.length ≤ 1200
    rw [hall]; exact hf.1
  · show ((m.rowed nx pt).addT (fin s)).texts.length ≤ 4097
    have := addT_len (m.rowed nx pt) (fin s)
    have h8 : (m.rowed nx pt).texts = m.texts := rfl
    rw [h8] at this
    omega
  · have h1 := hb10.blk hr9 (ApT.blk h9 hr9 (by decide) (by decide)).no
    refine hb12.blk h1 (fun e => ?_)
    rcases e with e | e
    · exact blk_ne h1 h10.box (by decide) e
    · exact blk_own_ne h1 h10.oe (by decide) e
end
section
variable {C : Bool → World → Prop} {step : St → UInt8 → Bs × St} {fin : St → Bs} {first : St} {Ok : St → Prop} {lg : St → UInt8 → Bool} {lge : St → Bool} {B bk gr : Nat} {gno gtx : Nat} {W W' : World} {m : Mk St} {k : Nat} {fl : Bool} {vn vp ve vt va : Value} {D1 D2 : DataW Unit} {RN RP : Nat → Nat}
/-- the machine is copied out of the maker -/
theorem OutI.out (h : OutI C step fin first Ok lg lge B bk gr gno gtx W m k fl vn vp ve vt va D1 D2 RN RP) (hb : But (fun k => k = gr) W W') : MkIn W' B bk m vn vp ve vt va gno gtx D1 D2 RN RP := by
  have hno : ∀ {v : Value} {base size n : Nat} {e : TypeId} {xs : List Value}, W.ownsRow base e size v n xs → e ≠ 42 → ∀ k, v.ownBlock = some k → ¬ k = gr := fun ho h1 k hk e => blk_own_ne h.br ho (Ne.symm h1) (by rw [hk, e])
  have hbl : ∀ {g : Nat} {t : TypeId} {cur : List Value}, Blk W g t cur → t ≠ 42 → ¬ g = gr := fun hg h1 => blk_ne hg h.br h1
  have h := And.intro h.mkr h.br
  obtain ⟨h, hr⟩ := h
  exact ⟨Nat.le_trans h.hB hb.size, h.hbk, h.hno, h.htx, hb.blk h.box (hbl h.box (by decide)), h.nx.but hb (hno h.nx.own (by decide)) (fun i hi => hbl (h.nx.blk i hi).2.1 (by decide)), h.pt.but hb (hno h.pt.own (by decide)) (fun i hi => hbl (h.pt.blk i hi).2.1 (by decide)),
    hb.own h.oe (hno h.oe (by decide)), hb.own h.ot (hno h.ot (by decide)), hb.own h.oa (hno h.oa (by decide)), hb.maps h.no (map_blk_ne h.no hr), h.kno, hb.maps h.tx (map_blk_ne h.tx hr), h.ktx, h.dm, h.dnp, h.dat⟩
end
section
variable {W wr : World} {B bk : Nat} {vn vp : Value} {rest : List Value} {c0 c1 v0 v1 : Value} {n0 n1 : Nat} {x0 x1 : List Value} {l : Array Bool}
theorem rw_sl (h : RwIn W wr B bk vn vp rest vn vp v0 n0 x0 v1 n1 x1) : SL [(21, fun W' => W'.cell? ⟨bk, 0, none⟩ = some vn), (25, fun W' => W'.cell? ⟨bk, 1, none⟩ = some vp)] l wr :=
  SL.cons (h.box.cell 0) (SL.cons (h.box.cell 1) SL.nil)
theorem rw_sl1 (hl : l.getD 21 true = true) (h : RwIn W wr B bk vn vp rest c0 vp v0 n0 x0 v1 n1 x1) : SL [(21, fun W' => W'.cell? ⟨bk, 0, none⟩ = some vn), (25, fun W' => W'.cell? ⟨bk, 1, none⟩ = some vp)] l wr :=
  SL.off hl (SL.cons (h.box.cell 1) SL.nil)
theorem rw_sl2 (hl : l.getD 21 true = true) (hl2 : l.getD 25 true = true) : SL [(21, fun W' => W'.cell? ⟨bk, 0, none⟩ = some vn), (25, fun W' => W'.cell? ⟨bk, 1, none⟩ = some vp)] l wr :=
  SL.off hl (SL.off hl2 SL.nil)
theorem grow_blk {W W' : World} {g : Nat} {t : TypeId} {cur : List Value} {v : Value} (h : Blk W g t cur) (hg : W.grownBy W' v.ownBlock) (hn : v.ownBlock ≠ some g) : Blk W' g t cur := (But.of_grown hg).blk h hn
theorem far_own {W : World} {base size n g : Nat} {e : TypeId} {v : Value} {xs : List Value} (ho : W.ownsRow base e size v n xs) (hg : W.heap.size ≤ g) : v.ownBlock ≠ some g := fun e => by
  have := (ho.lt g e).2
  omega
end
end Go.Proofs.Ythjnkpoalbddkaa.MS
