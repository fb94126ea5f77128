/- RR of this seat, in one text. -/
import Derived.Test.YtgejpggbmgiocaaM19
import Derived.Test.YtgejpggbmgiocaaM8
/- A run of the reference in memory. -/
namespace Go.Proofs.Ytgejpggbmgiocaa
open Go.RowKit

def marksV (l : List Nat) : List Value := l.map (fun (m : Nat) => Value.int .i64 (m : Int))
def rrc (prg : List Value) (gr gk : Nat) (s : St) (vs vp vg vt : Value) (room fuel : Int) : List Value :=
  prg ++ [.slice (some ⟨gr, 0, none⟩) 8 8, .slice (some ⟨gk, 0, none⟩) 2 2, vs, .int .i64 s.here, vp, vg, vt, .int .i64 s.pc, .int .i64 room, .int .i64 fuel, .int .i64 s.used]
structure AP (g gr gk : Nat) (vs vp vg vt : Value) : Prop where
  n1 : g ≠ gr
  n2 : g ≠ gk
  n3 : gr ≠ gk
  fs : ∀ b, vs.ownBlock = some b → b ≠ g ∧ b ≠ gr ∧ b ≠ gk
  fp : ∀ b, vp.ownBlock = some b → b ≠ g ∧ b ≠ gr ∧ b ≠ gk
  fg : ∀ b, vg.ownBlock = some b → b ≠ g ∧ b ≠ gr ∧ b ≠ gk
  ft : ∀ b, vt.ownBlock = some b → b ≠ g ∧ b ≠ gr ∧ b ≠ gk
  asp : Apart vs vp
  ass : Apart vs vg
  ast : Apart vs vt
  apg : Apart vp vg
  apt : Apart vp vt
  agt : Apart vg vt
structure RR (B g gr gk : Nat) (w0 W : World) (prg : List Value) (room fuel : Int) (s : St) (vs vp vg vt : Value) : Prop where
  pl : prg.length = 10
  rl : s.regs.length = 8
  ml : s.marks.length = 2
  below : Below B w0 W
  gB : B ≤ g
  grB : B ≤ gr
  gkB : B ≤ gk
  box : Blk W g 72 (rrc prg gr gk s vs vp vg vt room fuel)
  rb : Blk W gr 3 (numsV .i64 s.regs)
  mb : Blk W gk 3 (marksV s.marks)
  src : SrcIn W B vs s.src
  put : W.ownsRow B 5 1 vp s.put.length (bytesV s.put)
  sgn : W.ownsRow B 3 1 vg s.signs.length (numsV .i64 s.signs)
  told : W.ownsRow B 3 1 vt s.told.length (numsV .i64 s.told)
  ap : AP g gr gk vs vp vg vt
section
variable {B g gr gk : Nat} {w0 W W' : World} {prg : List Value} {room fuel : Int} {s s' : St} {vs vp vg vt : Value}
theorem RR.lt (h : RR B g gr gk w0 W prg room fuel s vs vp vg vt) : g < W.heap.size := h.box.lt
theorem RR.Bs (h : RR B g gr gk w0 W prg room fuel s vs vp vg vt) : B ≤ W.heap.size := Nat.le_trans h.gB (Nat.le_of_lt h.lt)
/-- what lies in the world is as it was -/
theorem RR.call (h : RR B g gr gk w0 W prg room fuel s vs vp vg vt) (hb : Below W.heap.size W W') : RR B g gr gk w0 W' prg room fuel s vs vp vg vt :=
  ⟨h.pl, h.rl, h.ml, h.below.trans (hb.mono h.Bs), h.gB, h.grB, h.gkB, (hb.block g h.lt).trans h.box, (hb.block gr h.rb.lt).trans h.rb, (hb.block gk h.mb.lt).trans h.mb, h.src.keep hb.size (fun b e => hb.block b (h.src.near b e).2),
    own_move h.put (fun b _ e ho _ => (hb.block b (h.put.lt b e).2).trans ho), own_move h.sgn (fun b _ e ho _ => (hb.block b (h.sgn.lt b e).2).trans ho), own_move h.told (fun b _ e ho _ => (hb.block b (h.told.lt b e).2).trans ho), h.ap⟩
theorem RR.drewN (h : RR B g gr gk w0 W prg room fuel s vs vp vg vt) (n : Nat) : RR B g gr gk w0 (W.drewN n) prg room fuel s vs vp vg vt := h.call (below_drewN (Below.refl _ _) n)
theorem RR.alloc (h : RR B g gr gk w0 W prg room fuel s vs vp vg vt) (o : Obj) : RR B g gr gk w0 (W.alloc o) prg room fuel s vs vp vg vt := h.call ((Below.refl _ _).alloc (Nat.le_refl _) _)
/-- a store into one of the three blocks -/
theorem RR.store (h : RR B g gr gk w0 W prg room fuel s vs vp vg vt) (c k : Nat) (v : Value) (hc : c = g ∨ c = gr ∨ c = gk)
    (h1 : Blk (W.setCell ⟨c, k, none⟩ v) g 72 (rrc prg gr gk s' vs vp vg vt room fuel)) (h2 : Blk (W.setCell ⟨c, k, none⟩ v) gr 3 (numsV .i64 s'.regs)) (h3 : Blk (W.setCell ⟨c, k, none⟩ v) gk 3 (marksV s'.marks))
    (hr : s'.regs.length = 8) (hm : s'.marks.length = 2) (e1 : s'.src = s.src) (e2 : s'.put = s.put) (e3 : s'.signs = s.signs) (e4 : s'.told = s.told) :
    RR B g gr gk w0 (W.setCell ⟨c, k, none⟩ v) prg room fuel s' vs vp vg vt := by
  have hh : ∀ b, b ≠ c → (W.setCell ⟨c, k, none⟩ v).heap[b]? = W.heap[b]? := fun b hb => Below.heap_setCell _ _ _ b hb
  have hcB : B ≤ c := by have := h.gB; have := h.grB; have := h.gkB; omega
  have hf : ∀ b, b ≠ g ∧ b ≠ gr ∧ b ≠ gk → b ≠ c := fun b hb => by omega
  refine ⟨h.pl, hr, hm, h.below.setCell (p := ⟨c, k, none⟩) hcB _, h.gB, h.grB, h.gkB, h1, h2, h3, ?_, ?_, ?_, ?_, h.ap⟩
  · rw [e1]; exact h.src.keep (by simp) (fun b e => hh b (hf b (h.ap.fs b e)))
  · rw [e2]; exact own_move h.put (fun b o e ho _ => (hh b (hf b (h.ap.fp b e))).trans ho)
  · rw [e3]; exact own_move h.sgn (fun b o e ho _ => (hh b (hf b (h.ap.fg b e))).trans ho)
  · rw [e4]; exact own_move h.told (fun b o e ho _ => (hh b (hf b (h.ap.ft b e))).trans ho)
theorem rrc_prg (hp : prg.length = 10) (k : Nat) (hk : k < 10) : (rrc prg gr gk s vs vp vg vt room fuel)[k]? = prg[k]? := by
  unfold rrc; rw [List.getElem?_append_left (by omega)]
theorem rrc_tail (hp : prg.length = 10) (k : Nat) : (rrc prg gr gk s vs vp vg vt room fuel)[10 + k]? = [Value.slice (some ⟨gr, 0, none⟩) 8 8, .slice (some ⟨gk, 0, none⟩) 2 2, vs, .int .i64 s.here, vp, vg, vt, .int .i64 s.pc, .int .i64 room, .int .i64 fuel, .int .i64 s.used][k]? := by
  unfold rrc; rw [show 10 + k = prg.length + k by omega, get_app]
theorem rrs_tail (hp : prg.length = 10) (k : Nat) (v : Value) : (rrc prg gr gk s vs vp vg vt room fuel).set (10 + k) v = prg ++ [Value.slice (some ⟨gr, 0, none⟩) 8 8, .slice (some ⟨gk, 0, none⟩) 2 2, vs, .int .i64 s.here, vp, vg, vt, .int .i64 s.pc, .int .i64 room, .int .i64 fuel, .int .i64 s.used].set k v := by
  unfold rrc; rw [show 10 + k = prg.length + k by omega, set_app]
/-- the cells -/
structure RBox (W : World) (g gr gk : Nat) (prg : List Value) (room fuel : Int) (s : St) (vs vp vg vt : Value) : Prop where
  p : ∀ k, k < 10 → W.cell? ⟨g, k, none⟩ = prg[k]?
  vr : W.cell? ⟨g, 10, none⟩ = some (.slice (some ⟨gr, 0, none⟩) 8 8)
  vk : W.cell? ⟨g, 11, none⟩ = some (.slice (some ⟨gk, 0, none⟩) 2 2)
  vs : W.cell? ⟨g, 12, none⟩ = some vs
  here : W.cell? ⟨g, 13, none⟩ = some (.int .i64 s.here)
  vp : W.cell? ⟨g, 14, none⟩ = some vp
  vg : W.cell? ⟨g, 15, none⟩ = some vg
  vt : W.cell? ⟨g, 16, none⟩ = some vt
  pc : W.cell? ⟨g, 17, none⟩ = some (.int .i64 s.pc)
  room : W.cell? ⟨g, 18, none⟩ = some (.int .i64 room)
  fuel : W.cell? ⟨g, 19, none⟩ = some (.int .i64 fuel)
  used : W.cell? ⟨g, 20, none⟩ = some (.int .i64 s.used)
  fr : ∀ k, W.frozen? ⟨g, k, none⟩ = false
  reg : ∀ k, k < 8 → W.cell? ⟨gr, k, none⟩ = some (.int .i64 (s.regs.getD k 0))
  frr : ∀ k, W.frozen? ⟨gr, k, none⟩ = false
  mark : ∀ k, k < 2 → W.cell? ⟨gk, k, none⟩ = some (.int .i64 (s.marks.getD k 0 : Nat))
  frk : ∀ k, W.frozen? ⟨gk, k, none⟩ = false
theorem rbox (hp : prg.length = 10) (hr : s.regs.length = 8) (hm : s.marks.length = 2) (h1 : Blk W g 72 (rrc prg gr gk s vs vp vg vt room fuel)) (h2 : Blk W gr 3 (numsV .i64 s.regs)) (h3 : Blk W gk 3 (marksV s.marks)) : RBox W g gr gk prg room fuel s vs vp vg vt := by
  have t := fun k => rrc_tail (gr := gr) (gk := gk) (s := s) (vs := vs) (vp := vp) (vg := vg) (vt := vt) (room := room) (fuel := fuel) hp k
  refine ⟨fun k hk => (h1.cell k).trans (rrc_prg hp k hk), (h1.cell 10).trans (t 0), (h1.cell 11).trans (t 1), (h1.cell 12).trans (t 2), (h1.cell 13).trans (t 3), (h1.cell 14).trans (t 4), (h1.cell 15).trans (t 5), (h1.cell 16).trans (t 6), (h1.cell 17).trans (t 7), (h1.cell 18).trans (t 8), (h1.cell 19).trans (t 9), (h1.cell 20).trans (t 10), fun k => h1.frozen k, fun k hk => (h2.cell k).trans ?_, fun k => h2.frozen k, fun k hk => (h3.cell k).trans ?_, fun k => h3.frozen k⟩
  · simp [numsV, show k < s.regs.length by omega]
  · simp [marksV, show k < s.marks.length by omega]
theorem RR.cells (h : RR B g gr gk w0 W prg room fuel s vs vp vg vt) : RBox W g gr gk prg room fuel s vs vp vg vt := rbox h.pl h.rl h.ml h.box h.rb h.mb
theorem blk_far {c k : Nat} {v : Value} {t b : Nat} {xs : List Value} (h : Blk W b t xs) (hb : b ≠ c) : Blk (W.setCell ⟨c, k, none⟩ v) b t xs := (Below.heap_setCell _ _ _ b hb).trans h
theorem RR.setTail (h : RR B g gr gk w0 W prg room fuel s vs vp vg vt) (k : Nat) (v : Value) (hs : rrc prg gr gk s' vs vp vg vt room fuel = prg ++ [Value.slice (some ⟨gr, 0, none⟩) 8 8, .slice (some ⟨gk, 0, none⟩) 2 2, vs, .int .i64 s.here, vp, vg, vt, .int .i64 s.pc, .int .i64 room, .int .i64 fuel, .int .i64 s.used].set k v)
    (e0 : s'.regs = s.regs) (e9 : s'.marks = s.marks) (e1 : s'.src = s.src) (e2 : s'.put = s.put) (e3 : s'.signs = s.signs) (e4 : s'.told = s.told) : RR B g gr gk w0 (W.setCell ⟨g, 10 + k, none⟩ v) prg room fuel s' vs vp vg vt :=
  h.store g _ v (.inl rfl) (by rw [hs, ← rrs_tail h.pl]; exact h.box.set _ _) (by rw [e0]; exact blk_far h.rb h.ap.n1.symm) (by rw [e9]; exact blk_far h.mb h.ap.n2.symm) (by rw [e0]; exact h.rl) (by rw [e9]; exact h.ml) e1 e2 e3 e4
theorem RR.setPc (h : RR B g gr gk w0 W prg room fuel s vs vp vg vt) (x : Int) : RR B g gr gk w0 (W.setCell ⟨g, 17, none⟩ (.int .i64 x)) prg room fuel { s with pc := x } vs vp vg vt := h.setTail 7 _ rfl rfl rfl rfl rfl rfl rfl
theorem RR.setHere (h : RR B g gr gk w0 W prg room fuel s vs vp vg vt) (x : Nat) : RR B g gr gk w0 (W.setCell ⟨g, 13, none⟩ (.int .i64 (x : Int))) prg room fuel { s with here := x } vs vp vg vt := h.setTail 3 _ rfl rfl rfl rfl rfl rfl rfl
theorem RR.setUsed (h : RR B g gr gk w0 W prg room fuel s vs vp vg vt) (x : Nat) : RR B g gr gk w0 (W.setCell ⟨g, 20, none⟩ (.int .i64 (x : Int))) prg room fuel { s with used := x } vs vp vg vt := h.setTail 10 _ rfl rfl rfl rfl rfl rfl rfl
theorem RR.setReg (h : RR B g gr gk w0 W prg room fuel s vs vp vg vt) (k : Nat) (x : Int) : RR B g gr gk w0 (W.setCell ⟨gr, k, none⟩ (.int .i64 x)) prg room fuel { s with regs := s.regs.set k x } vs vp vg vt :=
  h.store (s' := { s with regs := s.regs.set k x }) gr k _ (.inr (.inl rfl)) (blk_far h.box h.ap.n1) (by have := h.rb.set k (.int .i64 x); simpa [numsV, List.map_set] using this) (blk_far h.mb h.ap.n3.symm) (by simp [h.rl]) h.ml rfl rfl rfl rfl
theorem RR.setMark (h : RR B g gr gk w0 W prg room fuel s vs vp vg vt) (k : Nat) (x : Nat) : RR B g gr gk w0 (W.setCell ⟨gk, k, none⟩ (.int .i64 (x : Int))) prg room fuel { s with marks := s.marks.set k x } vs vp vg vt :=
  h.store (s' := { s with marks := s.marks.set k x }) gk k _ (.inr (.inr rfl)) (blk_far h.box h.ap.n2) (blk_far h.rb h.ap.n3) (by have := h.mb.set k (.int .i64 (x : Int)); simpa [marksV, List.map_set] using this) h.rl (by simp [h.ml]) rfl rfl rfl rfl
/-- behind an append: the three blocks -/
theorem RR.mid (h : RR B g gr gk w0 W prg room fuel s vs vp vg vt) {row : Option Nat} (hg : W.grownBy W' row) (hrow : ∀ b, row = some b → B ≤ b ∧ b ≠ g ∧ b ≠ gr ∧ b ≠ gk) : Below B w0 W' ∧ Blk W' g 72 (rrc prg gr gk s vs vp vg vt room fuel) ∧ Blk W' gr 3 (numsV .i64 s.regs) ∧ Blk W' gk 3 (marksV s.marks) :=
  ⟨h.below.grown hg h.Bs (fun k e => (hrow k e).1), (hg.block g h.lt (fun e => (hrow g e.symm).2.1 rfl)).trans h.box, (hg.block gr h.rb.lt (fun e => (hrow gr e.symm).2.2.1 rfl)).trans h.rb, (hg.block gk h.mb.lt (fun e => (hrow gk e.symm).2.2.2 rfl)).trans h.mb⟩
theorem RR.midBox (h : RR B g gr gk w0 W prg room fuel s vs vp vg vt) {row : Option Nat} (hg : W.grownBy W' row) (hrow : ∀ b, row = some b → B ≤ b ∧ b ≠ g ∧ b ≠ gr ∧ b ≠ gk) : RBox W' g gr gk prg room fuel s vs vp vg vt :=
  rbox h.pl h.rl h.ml (h.mid hg hrow).2.1 (h.mid hg hrow).2.2.1 (h.mid hg hrow).2.2.2
theorem far_any {v v' : Value} (h : RR B g gr gk w0 W prg room fuel s vs vp vg vt) (hf : ∀ b, v.ownBlock = some b → b ≠ g ∧ b ≠ gr ∧ b ≠ gk) (hor : v'.ownBlock = v.ownBlock ∨ v'.ownBlock = some W.heap.size) : ∀ b, v'.ownBlock = some b → b ≠ g ∧ b ≠ gr ∧ b ≠ gk := fun b e => by
  rcases hor with h9 | h9
  · exact hf b (by rw [← h9]; exact e)
  · rw [h9] at e
    injection e with e
    have h1 := h.lt
    have h2 := h.rb.lt
    have h3 := h.mb.lt
    omega
theorem RR.putRow (h : RR B g gr gk w0 W prg room fuel s vs vp vg vt) : ∀ b, vp.ownBlock = some b → B ≤ b ∧ b ≠ g ∧ b ≠ gr ∧ b ≠ gk := fun b e => ⟨(h.put.lt b e).1, h.ap.fp b e⟩
theorem RR.sgnRow (h : RR B g gr gk w0 W prg room fuel s vs vp vg vt) : ∀ b, vg.ownBlock = some b → B ≤ b ∧ b ≠ g ∧ b ≠ gr ∧ b ≠ gk := fun b e => ⟨(h.sgn.lt b e).1, h.ap.fg b e⟩
theorem RR.toldRow (h : RR B g gr gk w0 W prg room fuel s vs vp vg vt) : ∀ b, vt.ownBlock = some b → B ≤ b ∧ b ≠ g ∧ b ≠ gr ∧ b ≠ gk := fun b e => ⟨(h.told.lt b e).1, h.ap.ft b e⟩
theorem RR.putApp (h : RR B g gr gk w0 W prg room fuel s vs vp vg vt) {v' : Value} {xs : List UInt8} (ho : W'.ownsRow B 5 1 v' (s.put.length + xs.length) (bytesV s.put ++ bytesV xs)) (hg : W.grownBy W' vp.ownBlock) (hor : v'.ownBlock = vp.ownBlock ∨ v'.ownBlock = some W.heap.size) :
    RR B g gr gk w0 (W'.setCell ⟨g, 14, none⟩ v') prg room fuel { s with put := s.put ++ xs } vs v' vg vt := by
  have hm := h.mid hg h.putRow
  have hh : ∀ b, b ≠ g → (W'.setCell ⟨g, 14, none⟩ v').heap[b]? = W'.heap[b]? := fun b hb => Below.heap_setCell _ _ _ b hb
  have hl : (s.put ++ xs).length = s.put.length + xs.length := by simp
  have hf := far_any h h.ap.fp hor
  refine ⟨h.pl, h.rl, h.ml, hm.1.setCell (p := ⟨g, 14, none⟩) h.gB _, h.gB, h.grB, h.gkB, ?_, blk_far hm.2.2.1 h.ap.n1.symm, blk_far hm.2.2.2 h.ap.n2.symm, ?_, ?_, ?_, ?_, ⟨h.ap.n1, h.ap.n2, h.ap.n3, h.ap.fs, hf, h.ap.fg, h.ap.ft, (apart_any h.ap.asp hor (fun b e => (h.src.near b e).2)), h.ap.ass, h.ap.ast, (apart_any h.ap.apg.symm hor (fun b e => (h.sgn.lt b e).2)).symm, (apart_any h.ap.apt.symm hor (fun b e => (h.told.lt b e).2)).symm, h.ap.agt⟩⟩
  · have := hm.2.1.set 14 v'
    rw [rrs_tail h.pl 4] at this
    exact this
  · refine (h.src.keep hg.size (fun b e => hg.block b (h.src.near b e).2 (fun e9 => h.ap.asp b e e9.symm))).keep (by simp) (fun b e => hh b (h.ap.fs b e).1)
  · rw [hl]; simp only [bytesV, List.map_append] at ho ⊢; exact own_move ho (fun b _ e ho' _ => (hh b (hf b e).1).trans ho')
  · exact own_move (own_far h.sgn hg h.ap.apg.symm) (fun b _ e ho' _ => (hh b (h.ap.fg b e).1).trans ho')
  · exact own_move (own_far h.told hg h.ap.apt.symm) (fun b _ e ho' _ => (hh b (h.ap.ft b e).1).trans ho')
theorem RR.sgnApp (h : RR B g gr gk w0 W prg room fuel s vs vp vg vt) {v' : Value} {xs : List Int} (ho : W'.ownsRow B 3 1 v' (s.signs.length + xs.length) (numsV .i64 s.signs ++ numsV .i64 xs)) (hg : W.grownBy W' vg.ownBlock) (hor : v'.ownBlock = vg.ownBlock ∨ v'.ownBlock = some W.heap.size) :
    RR B g gr gk w0 (W'.setCell ⟨g, 15, none⟩ v') prg room fuel { s with signs := s.signs ++ xs } vs vp v' vt := by
  have hm := h.mid hg h.sgnRow
  have hh : ∀ b, b ≠ g → (W'.setCell ⟨g, 15, none⟩ v').heap[b]? = W'.heap[b]? := fun b hb => Below.heap_setCell _ _ _ b hb
  have hl : (s.signs ++ xs).length = s.signs.length + xs.length := by simp
  have hf := far_any h h.ap.fg hor
  refine ⟨h.pl, h.rl, h.ml, hm.1.setCell (p := ⟨g, 15, none⟩) h.gB _, h.gB, h.grB, h.gkB, ?_, blk_far hm.2.2.1 h.ap.n1.symm, blk_far hm.2.2.2 h.ap.n2.symm, ?_, ?_, ?_, ?_, ⟨h.ap.n1, h.ap.n2, h.ap.n3, h.ap.fs, h.ap.fp, hf, h.ap.ft, h.ap.asp, (apart_any h.ap.ass hor (fun b e => (h.src.near b e).2)), h.ap.ast, (apart_any h.ap.apg hor (fun b e => (h.put.lt b e).2)), h.ap.apt, (apart_any h.ap.agt.symm hor (fun b e => (h.told.lt b e).2)).symm⟩⟩
  · have := hm.2.1.set 15 v'
    rw [rrs_tail h.pl 5] at this
    exact this
  · refine (h.src.keep hg.size (fun b e => hg.block b (h.src.near b e).2 (fun e9 => h.ap.ass b e e9.symm))).keep (by simp) (fun b e => hh b (h.ap.fs b e).1)
  · exact own_move (own_far h.put hg h.ap.apg) (fun b _ e ho' _ => (hh b (h.ap.fp b e).1).trans ho')
  · rw [hl]; simp only [numsV, List.map_append] at ho ⊢; exact own_move ho (fun b _ e ho' _ => (hh b (hf b e).1).trans ho')
  · exact own_move (own_far h.told hg h.ap.agt.symm) (fun b _ e ho' _ => (hh b (h.ap.ft b e).1).trans ho')
theorem RR.toldApp (h : RR B g gr gk w0 W prg room fuel s vs vp vg vt) {v' : Value} {xs : List Int} (ho : W'.ownsRow B 3 1 v' (s.told.length + xs.length) (numsV .i64 s.told ++ numsV .i64 xs)) (hg : W.grownBy W' vt.ownBlock) (hor : v'.ownBlock = vt.ownBlock ∨ v'.ownBlock = some W.heap.size) :
    RR B g gr gk w0 (W'.setCell ⟨g, 16, none⟩ v') prg room fuel { s with told := s.told ++ xs } vs vp vg v' := by
  have hm := h.mid hg h.toldRow
  have hh : ∀ b, b ≠ g → (W'.setCell ⟨g, 16, none⟩ v').heap[b]? = W'.heap[b]? := fun b hb => Below.heap_setCell _ _ _ b hb
  have hl : (s.told ++ xs).length = s.told.length + xs.length := by simp
  have hf := far_any h h.ap.ft hor
  refine ⟨h.pl, h.rl, h.ml, hm.1.setCell (p := ⟨g, 16, none⟩) h.gB _, h.gB, h.grB, h.gkB, ?_, blk_far hm.2.2.1 h.ap.n1.symm, blk_far hm.2.2.2 h.ap.n2.symm, ?_, ?_, ?_, ?_, ⟨h.ap.n1, h.ap.n2, h.ap.n3, h.ap.fs, h.ap.fp, h.ap.fg, hf, h.ap.asp, h.ap.ass, (apart_any h.ap.ast hor (fun b e => (h.src.near b e).2)), h.ap.apg, (apart_any h.ap.apt hor (fun b e => (h.put.lt b e).2)), (apart_any h.ap.agt hor (fun b e => (h.sgn.lt b e).2))⟩⟩
  · have := hm.2.1.set 16 v'
    rw [rrs_tail h.pl 6] at this
    exact this
  · refine (h.src.keep hg.size (fun b e => hg.block b (h.src.near b e).2 (fun e9 => h.ap.ast b e e9.symm))).keep (by simp) (fun b e => hh b (h.ap.fs b e).1)
  · exact own_move (own_far h.put hg h.ap.apt) (fun b _ e ho' _ => (hh b (h.ap.fp b e).1).trans ho')
  · exact own_move (own_far h.sgn hg h.ap.agt) (fun b _ e ho' _ => (hh b (h.ap.fg b e).1).trans ho')
  · rw [hl]; simp only [numsV, List.map_append] at ho ⊢; exact own_move ho (fun b _ e ho' _ => (hh b (hf b e).1).trans ho')
end
end Go.Proofs.Ytgejpggbmgiocaa
