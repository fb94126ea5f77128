/- Then's steps and ends. -/
import Derived.Test.YthjnkpoalbddkaaThBehY
import Derived.Laws.Rows
import Derived.Deep.Cut
import Derived.Deep.CutRange
import Derived.Deep.CutBlock
import Derived.Deep.WholeRow
namespace Go.Proofs.Ythjnkpoalbddkaa
open Go.RowKit
noncomputable section
def stepT (a b : Mach) (s : Int × Int) (c : UInt8) : Bs × (Int × Int) :=
  ((behG b s.2.toNat (outT a s.1.toNat c)).1, (((nextS a s.1.toNat c : Nat) : Int), (((behG b s.2.toNat (outT a s.1.toNat c)).2 : Nat) : Int)))
def lgT (b : Mach) (a : Mach) (s : Int × Int) (c : UInt8) : Bool := lgB b s.2.toNat (outT a s.1.toNat c)
def finT (a b : Mach) (s : Int × Int) : Bs := (behG b s.2.toNat (endText a s.1.toNat).data.toList).1 ++ (endText b (behG b s.2.toNat (endText a s.1.toNat).data.toList).2).data.toList
def lgE (b : Mach) (a : Mach) (s : Int × Int) : Bool := lgB b s.2.toNat (endText a s.1.toNat).data.toList
end
/-- two machines' states -/
structure PairOk (a b : Mach) (s : Int × Int) : Prop where
  l1 : 0 ≤ s.1
  h1 : s.1.toNat < a.next.length
  l2 : 0 ≤ s.2
  h2 : s.2.toNat < b.next.length
theorem PairOk.step {a b : Mach} (ha : RightM a) (hb : RightM b) {s : Int × Int} (h : PairOk a b s) (c : UInt8) : PairOk a b (stepT a b s c).2 := by
  have h1 := (state_facts ha h.h1 c).2.2.2.1
  have h2 := behG_lt hb h.h2 (outT a s.1.toNat c)
  exact ⟨by unfold stepT; simp, by unfold stepT; simpa using h1, by unfold stepT; simp, by unfold stepT; simpa using h2⟩
theorem step_len {a b : Mach} (s : Int × Int) (c : UInt8) : (stepT a b s c).1.length ≤ 4097 := behG_len _
theorem endText_len {m : Mach} (h : RightM m) {i : Nat} (hi : i < m.next.length) : (endText m i).size ≤ 4096 := by
  have hst := h.states i hi
  have h1 := hst.endlo
  have h2 := hst.endhi
  apply Classical.byContradiction
  intro h9
  exact h.short ⟨(m.ends.getD i 0).toNat, by omega, by unfold endText at h9; omega⟩
theorem fin_len {a b : Mach} (hb : RightM b) {s : Int × Int} (h : PairOk a b s) : (finT a b s).length ≤ 8193 := by
  unfold finT
  rw [List.length_append]
  have h1 := behG_len (m := b) (st := s.2.toNat) (endText a s.1.toNat).data.toList
  have h2 := endText_len hb (behG_lt hb h.h2 (endText a s.1.toNat).data.toList)
  have h3 : (endText b (behG b s.2.toNat (endText a s.1.toNat).data.toList).2).data.toList.length = (endText b (behG b s.2.toNat (endText a s.1.toNat).data.toList).2).size := size_data _
  omega
theorem results_tmp_cell {fn : Func} {p u : Tmp} {ty : TypeId} (h : fn.results = #[.tmp u, .cell p ty]) (tmps : Array Value) (w : World) (g : Nat) (cs : Array Value)
    (hp : tmps.getD p undef = .pointer (some ⟨g, 0, none⟩)) (hl : (loadVar ty ⟨g, 0, none⟩).run Try.prog w = .ok (.agg cs) w) :
    (results fn tmps).run Try.prog w = .ok (.tuple #[tmps.getD u undef, .agg cs]) w := by
  have hp' : tmps[p]?.getD undef = .pointer (some ⟨g, 0, none⟩) := by simpa using hp
  simp only [results, h]
  simp [Result.andThen, hp', asAddr, hl]
/-- what Then's closures look at -/
structure TCtx (w0 : World) (a b : Mach) (Aa Ab : Nat → Option Addr) (na nb ca cb : Nat → Nat) (RAa : Nat → Option Addr) (rca : Nat → Nat) (PAa : Nat → Option Addr) (pca : Nat → Nat) (RAb : Nat → Option Addr) (rcb : Nat → Nat) (PAb : Nat → Option Addr) (pcb : Nat → Nat) (ba bb bL bf : Nat) (fl : Bool) (W : World) : Prop where
  bel : Below w0.heap.size w0 W
  ma : MachIn w0 (Aa 0) (Aa 1) (Aa 2) (Aa 3) (na 0) (na 1) (na 2) (na 3) a RAa rca PAa pca
  mb : MachIn w0 (Ab 0) (Ab 1) (Ab 2) (Ab 3) (nb 0) (nb 1) (nb 2) (nb 3) b RAb rcb PAb pcb
  ra : RightM a
  rb : RightM b
  xa : Blk W ba 42 [.slice (Aa 0) (na 0) (ca 0), .slice (Aa 1) (na 1) (ca 1), .slice (Aa 2) (na 2) (ca 2), .slice (Aa 3) (na 3) (ca 3)]
  xb : Blk W bb 42 [.slice (Ab 0) (nb 0) (cb 0), .slice (Ab 1) (nb 1) (cb 1), .slice (Ab 2) (nb 2) (cb 2), .slice (Ab 3) (nb 3) (cb 3)]
  xL : Blk W bL 4 [.bool fl]
  xf : Blk W bf 86 [.func (.func 53) #[] #[.pointer (some ⟨bb, 0, none⟩), .pointer (some ⟨bL, 0, none⟩)]]
  la : w0.heap.size ≤ ba
  lb : w0.heap.size ≤ bb
  lL : w0.heap.size ≤ bL
  lf : w0.heap.size ≤ bf
section
variable {w0 : World} {a b : Mach} {Aa Ab : Nat → Option Addr} {na nb ca cb : Nat → Nat} {RAa : Nat → Option Addr} {rca : Nat → Nat} {PAa : Nat → Option Addr} {pca : Nat → Nat} {RAb : Nat → Option Addr} {rcb : Nat → Nat} {PAb : Nat → Option Addr} {pcb : Nat → Nat} {ba bb bL bf : Nat} {fl fl' : Bool} {W W' : World}
theorem TCtx.but {S : Nat → Prop} (h : TCtx w0 a b Aa Ab na nb ca cb RAa rca PAa pca RAb rcb PAb pcb ba bb bL bf fl W) (hb : But S W W') (hs : ∀ k, S k → w0.heap.size ≤ k ∧ k ≠ ba ∧ k ≠ bb ∧ k ≠ bL ∧ k ≠ bf) : TCtx w0 a b Aa Ab na nb ca cb RAa rca PAa pca RAb rcb PAb pcb ba bb bL bf fl W' :=
  ⟨h.bel.trans (hb.below h.bel.size (fun k hk => (hs k hk).1)), h.ma, h.mb, h.ra, h.rb, hb.blk h.xa (fun e => (hs _ e).2.1 rfl), hb.blk h.xb (fun e => (hs _ e).2.2.1 rfl), hb.blk h.xL (fun e => (hs _ e).2.2.2.1 rfl), hb.blk h.xf (fun e => (hs _ e).2.2.2.2 rfl), h.la, h.lb, h.lL, h.lf⟩
theorem TCtx.go (h : TCtx w0 a b Aa Ab na nb ca cb RAa rca PAa pca RAb rcb PAb pcb ba bb bL bf fl W) (hw : Below W.heap.size W W') : TCtx w0 a b Aa Ab na nb ca cb RAa rca PAa pca RAb rcb PAb pcb ba bb bL bf fl W' := by
  have hb := But.of_below hw
  have e : ∀ k, k < W.heap.size → ¬ W.heap.size ≤ k := fun k hk => by omega
  exact ⟨h.bel.trans (hw.mono h.bel.size), h.ma, h.mb, h.ra, h.rb, hb.blk h.xa (e _ h.xa.lt), hb.blk h.xb (e _ h.xb.lt), hb.blk h.xL (e _ h.xL.lt), hb.blk h.xf (e _ h.xf.lt), h.la, h.lb, h.lL, h.lf⟩
/-- the mark is set, or not -/
theorem TCtx.mark (h : TCtx w0 a b Aa Ab na nb ca cb RAa rca PAa pca RAb rcb PAb pcb ba bb bL bf fl W) (hb : But (fun k => k = bL) W W') (hL : Blk W' bL 4 [.bool fl']) : TCtx w0 a b Aa Ab na nb ca cb RAa rca PAa pca RAb rcb PAb pcb ba bb bL bf fl' W' :=
  ⟨h.bel.trans (hb.below h.bel.size (fun k hk => by rw [hk]; exact h.lL)), h.ma, h.mb, h.ra, h.rb, hb.blk h.xa (blk_ne h.xa h.xL (by decide)), hb.blk h.xb (blk_ne h.xb h.xL (by decide)), hL, hb.blk h.xf (blk_ne h.xf h.xL (by decide)), h.la, h.lb, h.lL, h.lf⟩
end
theorem info89 : (Try.prog.info? 89).map (·.size) = some 2 := by kernel_rfl
set_option maxRecDepth 100000 in
set_option maxHeartbeats 8000000 in
theorem thstep_any (w0 : World) (a b : Mach) (Aa Ab : Nat → Option Addr) (na nb ca cb : Nat → Nat) (RAa : Nat → Option Addr) (rca : Nat → Nat) (PAa : Nat → Option Addr) (pca : Nat → Nat) (RAb : Nat → Option Addr) (rcb : Nat → Nat) (PAb : Nat → Option Addr) (pcb : Nat → Nat) (ba bb bL bf : Nat) (fl : Bool) (W : World)
    (h : TCtx w0 a b Aa Ab na nb ca cb RAa rca PAa pca RAb rcb PAb pcb ba bb bL bf fl W) (s : Int × Int) (hs : PairOk a b s) (c : UInt8) :
    Calls Try.prog 56 #[.agg #[.int .i64 s.1, .int .i64 s.2], .int .u8 (c.toNat : Int), .pointer (some ⟨ba, 0, none⟩), .pointer (some ⟨bf, 0, none⟩)] W fun e W' =>
      e = .returned (.tuple #[.string ⟨(stepT a b s c).1.toArray⟩, .agg #[.int .i64 (stepT a b s c).2.1, .int .i64 (stepT a b s c).2.2]]) ∧ But (fun k => k = bL) W W' ∧ TCtx w0 a b Aa Ab na nb ca cb RAa rca PAa pca RAb rcb PAb pcb ba bb bL bf (fl || lgT b a s c) W' := by
  obtain ⟨x, y⟩ := s
  obtain ⟨i, hi⟩ := Int.eq_ofNat_of_zero_le hs.l1
  obtain ⟨j, hj⟩ := Int.eq_ofNat_of_zero_le hs.l2
  simp only at hi hj
  subst hi
  subst hj
  have hia : i < a.next.length := by simpa using hs.h1
  have hjb : j < b.next.length := by simpa using hs.h2
  obtain ⟨W1, hW1⟩ : ∃ W1, W1 = (W.alloc (.cells #[.int .i64 (i : Int), .int .i64 (j : Int)] 89)).alloc (.cells #[.int .i64 0, .int .i64 0] 89) := ⟨_, rfl⟩
  have hbW : Below W.heap.size W W1 := by rw [hW1]; exact ((Below.refl _ _).alloc (Nat.le_refl _) _).alloc (by simp) _
  have h1 := h.go hbW
  have hx1 : Blk W1 W.heap.size 89 [.int .i64 (i : Int), .int .i64 (j : Int)] := by rw [hW1]; exact (Blk.new W 89 _).alloc _
  have hr1 : Blk W1 (W.heap.size + 1) 89 [.int .i64 0, .int .i64 0] := by
    rw [hW1]
    have := Blk.new (W.alloc (.cells #[.int .i64 (i : Int), .int .i64 (j : Int)] 89)) 89 [.int .i64 0, .int .i64 0]
    simpa using this
  have a0 := h1.xa.cell 0
  have a1 := h1.xa.cell 1
  have a2 := h1.xa.cell 2
  have a3 := h1.xa.cell 3
  have x0 := hx1.cell 0
  simp only [List.getElem?_cons_zero, List.getElem?_cons_succ] at a0 a1 a2 a3 x0
  have HST := Lib.hid (step_any (Aa 0) (Aa 1) (Aa 2) (Aa 3) (na 0) (na 1) (na 2) (na 3) (ca 0) (ca 1) (ca 2) (ca 3) a RAa rca PAa pca W1 (h1.ma.keep h1.bel) h1.ra i (by have := h1.ma.next.len; omega) c)
  have H1 := Lib.hid (And.intro h1 (And.intro hx1 (And.intro hr1 hbW)))
  have HI := Lib.hid (And.intro hia (And.intro hjb hW1))
  have H0 := Lib.hid h
  clear h h1 hx1 hr1 hs hbW
  go_enter Try.func56, Try.ntmps56
  go_upto_region 1 with (fail)
  rw [← hW1]
  clear hW1
  go_wp2_with fail
  refine HST.out.mono ?_
  rintro e W2 ⟨rfl, hb2⟩
  have H2 := Lib.hid (And.intro (H1.out.1.go hb2) (And.intro (H1.out.2.1.below hb2 H1.out.2.1.lt) (And.intro (H1.out.2.2.1.below hb2 H1.out.2.2.1.lt) hb2)))
  have f0 := H2.out.1.xf.cell 0
  have y1 := H2.out.2.1.cell 1
  simp only [List.getElem?_cons_zero, List.getElem?_cons_succ] at f0 y1
  have hot : (⟨(outT a i c).toArray⟩ : ByteArray).size ≤ 1000000 := by
    have := outT_len H1.out.1.ra HI.out.1 c
    show (outT a i c).toArray.size ≤ _
    simp; omega
  have HB := Lib.hid (behind_any (Ab 0) (Ab 1) (Ab 2) (Ab 3) (nb 0) (nb 1) (nb 2) (nb 3) (cb 0) (cb 1) (cb 2) (cb 3) b RAb rcb PAb pcb ⟨(outT a i c).toArray⟩ W2 bb bL j fl (H2.out.1.mb.keep H2.out.1.bel) H2.out.1.rb hot ⟨H2.out.1.xb⟩ H2.out.1.xL HI.out.2.1)
  clear HST hb2 hot a0 a1 a2 a3 x0
  go_wp2_with fail
  refine HB.out.mono ?_
  rintro e W3 ⟨rfl, hb3, hL3⟩
  have hbr := H2.out.2.2.1
  have H3 := Lib.hid (And.intro (hb3.blk hbr (blk_ne hbr H2.out.1.xL (by decide))) (And.intro hb3 hL3))
  have r0 := H3.out.1.cell 0
  have r1 := H3.out.1.cell 1
  simp only [List.getElem?_cons_zero, List.getElem?_cons_succ] at r0 r1
  have z0 := H3.out.1.frozen 0
  have z1 := H3.out.1.frozen 1
  clear HB hb3 hL3 hbr f0 y1
  go_wp2
  have hB := (H3.out.1.set 0 (.int .i64 (nextS a i c))).set 1 (.int .i64 (behG b j (outT a i c)).2)
  have hbs := (grownBy_setCell W3 (W.heap.size + 1) 0 (.int .i64 (nextS a i c))).trans (grownBy_setCell _ (W.heap.size + 1) 1 (.int .i64 (behG b j (outT a i c)).2))
  have hbu := But.of_grown hbs
  have hL4 := hbu.blk H3.out.2.2 (by intro e; injection e with e; exact blk_ne H3.out.1 H3.out.2.2 (by decide) e)
  have hbt : But (fun k => k = bL ∨ k = W.heap.size + 1) W2 _ := (H3.out.2.1.mono (S' := fun k => k = bL ∨ k = W.heap.size + 1) (fun k _ e => Or.inl e)).trans hbu (fun k _ e => by injection e with e; exact Or.inr e.symm)
  have hsz := H1.out.2.2.2.size
  have hlr := H1.out.2.2.1.lt
  have h12 : But (fun k => k = bL) W W2 := ((But.of_below H1.out.2.2.2).trans (S := fun k => W.heap.size ≤ k) (But.of_below H2.out.2.2.2) (fun k _ e => by omega)).mono (fun k h9 e => by omega)
  have hbe := h12.trans (S := fun k => k = bL) hbt (fun k h9 e => by
    rcases e with e | e
    · exact e
    · omega)
  refine bodyPost_ret (results_tmp_cell rfl _ _ (W.heap.size + 1) _ rfl (run_loadVar_row _ _ 89 89 _ (0, 0) _ hB Try.underlying89 rfl info89)) rfl ?_
  exact ⟨rfl, hbe, H0.out.mark hbe hL4⟩
end Go.Proofs.Ythjnkpoalbddkaa
