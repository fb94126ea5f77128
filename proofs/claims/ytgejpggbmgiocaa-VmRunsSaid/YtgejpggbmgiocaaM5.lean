/- RS of this seat, in one text. -/
import Derived.Test.YtgejpggbmgiocaaM4
/- A run of the machine in memory. -/
namespace Go.Proofs.Ytgejpggbmgiocaa
open Go.RowKit

def bytesV (l : Bs) : List Value := l.map (fun b => .int .u8 b.toNat)
def rcells (prg : List Value) (s : St) (vs vp vg vt : Value) (room fuel : Int) : List Value :=
  prg ++ (numsV .i64 s.regs ++ (s.marks.map (fun (m : Nat) => Value.int .i64 (m : Int)) ++ [vs, .int .i64 s.here, vp, vg, vt, .int .i64 s.pc, .int .i64 room, .int .i64 fuel, .int .i64 s.used]))
def Apart (v u : Value) : Prop := ∀ b, v.ownBlock = some b → u.ownBlock ≠ some b
structure SrcIn (W : World) (B : Nat) (v : Value) (l : Bs) : Prop where
  sl : ∃ A c, v = .slice A l.length c
  near : ∀ b, v.ownBlock = some b → B ≤ b ∧ b < W.heap.size
  cell : ∀ j, j < l.length → ∃ b, (∃ c, v = .slice (some ⟨b, 0, none⟩) l.length c) ∧ W.cell? ⟨b, j, none⟩ = some (.int .u8 (l.getD j 0).toNat)
structure RS (B g : Nat) (w0 W : World) (prg : List Value) (room fuel : Int) (s : St) (vs vp vg vt : Value) : Prop where
  pl : prg.length = 10
  rl : s.regs.length = 8
  ml : s.marks.length = 2
  below : Below B w0 W
  gB : B ≤ g
  box : Blk W g 67 (rcells prg s vs vp vg vt room fuel)
  src : SrcIn W B vs s.src
  put : W.ownsRow (g + 1) 5 1 vp s.put.length (bytesV s.put)
  sgn : W.ownsRow (g + 1) 3 1 vg s.signs.length (numsV .i64 s.signs)
  told : W.ownsRow (g + 1) 3 1 vt s.told.length (numsV .i64 s.told)
  asg : vs.ownBlock ≠ some g
  asp : Apart vs vp
  ass : Apart vs vg
  ast : Apart vs vt
  apg : Apart vp vg
  apt : Apart vp vt
  agt : Apart vg vt
section
variable {B g : Nat} {w0 W W' : World} {prg : List Value} {room fuel : Int} {s s' : St} {vs vp vg vt : Value}
theorem RS.lt (h : RS B g w0 W prg room fuel s vs vp vg vt) : g < W.heap.size := h.box.lt
theorem SrcIn.keep {v : Value} {l : Bs} (h : SrcIn W B v l) (hs : W.heap.size ≤ W'.heap.size) (hb : ∀ b, v.ownBlock = some b → W'.heap[b]? = W.heap[b]?) : SrcIn W' B v l := by
  refine ⟨h.sl, fun b e => ⟨(h.near b e).1, Nat.lt_of_lt_of_le (h.near b e).2 hs⟩, fun j hj => ?_⟩
  obtain ⟨b, ⟨c, rfl⟩, hc⟩ := h.cell j hj
  refine ⟨b, ⟨c, rfl⟩, ?_⟩
  have e := hb b rfl
  have : ∀ k, W'.cell? ⟨b, k, none⟩ = W.cell? ⟨b, k, none⟩ := fun k => by simp only [World.cell?, e]
  rw [this]; exact hc
/-- what lies in the world is as it was -/
theorem RS.call (h : RS B g w0 W prg room fuel s vs vp vg vt) (hb : Below W.heap.size W W') : RS B g w0 W' prg room fuel s vs vp vg vt :=
  ⟨h.pl, h.rl, h.ml, h.below.trans (hb.mono (Nat.le_trans h.gB (Nat.le_of_lt h.lt))), h.gB, (hb.block g h.lt).trans h.box, h.src.keep hb.size (fun b e => hb.block b (h.src.near b e).2),
    own_move h.put (fun b _ e ho _ => (hb.block b (h.put.lt b e).2).trans ho), own_move h.sgn (fun b _ e ho _ => (hb.block b (h.sgn.lt b e).2).trans ho), own_move h.told (fun b _ e ho _ => (hb.block b (h.told.lt b e).2).trans ho),
    h.asg, h.asp, h.ass, h.ast, h.apg, h.apt, h.agt⟩
theorem RS.drewN (h : RS B g w0 W prg room fuel s vs vp vg vt) (n : Nat) : RS B g w0 (W.drewN n) prg room fuel s vs vp vg vt := h.call (below_drewN (Below.refl _ _) n)
theorem RS.alloc (h : RS B g w0 W prg room fuel s vs vp vg vt) (o : Obj) : RS B g w0 (W.alloc o) prg room fuel s vs vp vg vt := h.call ((Below.refl _ _).alloc (Nat.le_refl _) _)
/-- a store into the box that touches no row -/
theorem RS.store (h : RS B g w0 W prg room fuel s vs vp vg vt) (k : Nat) (v : Value) (hc : (rcells prg s vs vp vg vt room fuel).set k v = rcells prg s' vs vp vg vt room fuel) (hr : s'.regs.length = 8) (hm : s'.marks.length = 2) (h1 : s'.src = s.src) (h2 : s'.put = s.put) (h3 : s'.signs = s.signs) (h4 : s'.told = s.told) :
    RS B g w0 (W.setCell ⟨g, k, none⟩ v) prg room fuel s' vs vp vg vt := by
  have hh : ∀ b, b ≠ g → (W.setCell ⟨g, k, none⟩ v).heap[b]? = W.heap[b]? := fun b hb => Below.heap_setCell _ _ _ b hb
  refine ⟨h.pl, hr, hm, h.below.setCell (p := ⟨g, k, none⟩) h.gB _, h.gB, ?_, ?_, ?_, ?_, ?_, h.asg, h.asp, h.ass, h.ast, h.apg, h.apt, h.agt⟩
  · rw [← hc]; exact h.box.set k v
  · rw [h1]; exact h.src.keep (by simp) (fun b e => hh b (fun e9 => h.asg (by rw [e, e9])))
  · rw [h2]; exact own_move h.put (fun b o e ho _ => (hh b (by have := (h.put.lt b e).1; omega)).trans ho)
  · rw [h3]; exact own_move h.sgn (fun b o e ho _ => (hh b (by have := (h.sgn.lt b e).1; omega)).trans ho)
  · rw [h4]; exact own_move h.told (fun b o e ho _ => (hh b (by have := (h.told.lt b e).1; omega)).trans ho)

theorem set_app {α : Type} (a b : List α) (k : Nat) (v : α) : (a ++ b).set (a.length + k) v = a ++ b.set k v := by
  rw [List.set_append_right _ _ (by omega)]; congr 1; congr 1; omega
theorem get_app {α : Type} (a b : List α) (k : Nat) : (a ++ b)[a.length + k]? = b[k]? := by
  rw [List.getElem?_append_right (by omega)]; congr 1; omega
section
variable (hp : prg.length = 10) (hr : s.regs.length = 8) (hm : s.marks.length = 2)
include hp
theorem rc_prg (k : Nat) (hk : k < 10) : (rcells prg s vs vp vg vt room fuel)[k]? = prg[k]? := by
  unfold rcells; rw [List.getElem?_append_left (by omega)]
theorem rc_reg (k : Nat) (hk : k < 8) (hr : s.regs.length = 8) : (rcells prg s vs vp vg vt room fuel)[10 + k]? = some (.int .i64 (s.regs.getD k 0)) := by
  unfold rcells
  rw [show 10 + k = prg.length + k by omega, get_app, List.getElem?_append_left (by simp [numsV]; omega)]
  simp [numsV, show k < s.regs.length by omega]
theorem rs_reg (k : Nat) (x : Int) (hk : k < 8) (hr : s.regs.length = 8) : (rcells prg s vs vp vg vt room fuel).set (10 + k) (.int .i64 x) = rcells prg { s with regs := s.regs.set k x } vs vp vg vt room fuel := by
  unfold rcells
  rw [show 10 + k = prg.length + k by omega, set_app, List.set_append_left _ _ (by simp [numsV]; omega)]
  simp [numsV, List.map_set]
include hr
theorem rc_mark (k : Nat) (hk : k < 2) (hm : s.marks.length = 2) : (rcells prg s vs vp vg vt room fuel)[18 + k]? = some (.int .i64 (s.marks.getD k 0 : Nat)) := by
  unfold rcells
  rw [show 18 + k = prg.length + (8 + k) by omega, get_app, show 8 + k = (numsV .i64 s.regs).length + k by simp [numsV]; omega, get_app, List.getElem?_append_left (by simp; omega)]
  simp [show k < s.marks.length by omega]
theorem rs_mark (k : Nat) (x : Nat) (hk : k < 2) (hm : s.marks.length = 2) : (rcells prg s vs vp vg vt room fuel).set (18 + k) (.int .i64 (x : Int)) = rcells prg { s with marks := s.marks.set k x } vs vp vg vt room fuel := by
  unfold rcells
  rw [show 18 + k = prg.length + (8 + k) by omega, set_app, show 8 + k = (numsV .i64 s.regs).length + k by simp [numsV]; omega, set_app, List.set_append_left _ _ (by simp; omega)]
  simp [List.map_set]
include hm
theorem rc_tail (k : Nat) : (rcells prg s vs vp vg vt room fuel)[20 + k]? = [vs, .int .i64 s.here, vp, vg, vt, .int .i64 s.pc, .int .i64 room, .int .i64 fuel, .int .i64 s.used][k]? := by
  unfold rcells
  rw [show 20 + k = prg.length + (8 + (2 + k)) by omega, get_app, show 8 + (2 + k) = (numsV .i64 s.regs).length + (2 + k) by simp [numsV]; omega, get_app,
    show 2 + k = (s.marks.map (fun (m : Nat) => Value.int .i64 (m : Int))).length + k by simp; omega, get_app]
theorem rs_tail (k : Nat) (v : Value) : (rcells prg s vs vp vg vt room fuel).set (20 + k) v = prg ++ (numsV .i64 s.regs ++ (s.marks.map (fun (m : Nat) => Value.int .i64 (m : Int)) ++ [vs, .int .i64 s.here, vp, vg, vt, .int .i64 s.pc, .int .i64 room, .int .i64 fuel, .int .i64 s.used].set k v)) := by
  unfold rcells
  rw [show 20 + k = prg.length + (8 + (2 + k)) by omega, set_app, show 8 + (2 + k) = (numsV .i64 s.regs).length + (2 + k) by simp [numsV]; omega, set_app,
    show 2 + k = (s.marks.map (fun (m : Nat) => Value.int .i64 (m : Int))).length + k by simp; omega, set_app]
end
/-- the cells of the box -/
structure Box (W : World) (g : Nat) (prg : List Value) (room fuel : Int) (s : St) (vs vp vg vt : Value) : Prop where
  p : ∀ k, k < 10 → W.cell? ⟨g, k, none⟩ = prg[k]?
  reg : ∀ k, k < 8 → W.cell? ⟨g, 10 + k, none⟩ = some (.int .i64 (s.regs.getD k 0))
  mark : ∀ k, k < 2 → W.cell? ⟨g, 18 + k, none⟩ = some (.int .i64 (s.marks.getD k 0 : Nat))
  vs : W.cell? ⟨g, 20, none⟩ = some vs
  here : W.cell? ⟨g, 21, none⟩ = some (.int .i64 s.here)
  vp : W.cell? ⟨g, 22, none⟩ = some vp
  vg : W.cell? ⟨g, 23, none⟩ = some vg
  vt : W.cell? ⟨g, 24, none⟩ = some vt
  pc : W.cell? ⟨g, 25, none⟩ = some (.int .i64 s.pc)
  room : W.cell? ⟨g, 26, none⟩ = some (.int .i64 room)
  fuel : W.cell? ⟨g, 27, none⟩ = some (.int .i64 fuel)
  used : W.cell? ⟨g, 28, none⟩ = some (.int .i64 s.used)
  fr : ∀ k, W.frozen? ⟨g, k, none⟩ = false
theorem RS.cells (h : RS B g w0 W prg room fuel s vs vp vg vt) : Box W g prg room fuel s vs vp vg vt := by
  have t := fun k => rc_tail (vs := vs) (vp := vp) (vg := vg) (vt := vt) (room := room) (fuel := fuel) h.pl h.rl h.ml k
  refine ⟨fun k hk => (h.box.cell k).trans (rc_prg h.pl k hk), fun k hk => (h.box.cell _).trans (rc_reg h.pl k hk h.rl), fun k hk => (h.box.cell _).trans (rc_mark h.pl h.rl k hk h.ml),
    (h.box.cell 20).trans (t 0), (h.box.cell 21).trans (t 1), (h.box.cell 22).trans (t 2), (h.box.cell 23).trans (t 3), (h.box.cell 24).trans (t 4), (h.box.cell 25).trans (t 5), (h.box.cell 26).trans (t 6), (h.box.cell 27).trans (t 7), (h.box.cell 28).trans (t 8), fun k => h.box.frozen k⟩
theorem RS.setPc (h : RS B g w0 W prg room fuel s vs vp vg vt) (x : Int) : RS B g w0 (W.setCell ⟨g, 25, none⟩ (.int .i64 x)) prg room fuel { s with pc := x } vs vp vg vt :=
  h.store 25 _ (rs_tail h.pl h.rl h.ml 5 _) h.rl h.ml rfl rfl rfl rfl
theorem RS.setHere (h : RS B g w0 W prg room fuel s vs vp vg vt) (x : Nat) : RS B g w0 (W.setCell ⟨g, 21, none⟩ (.int .i64 (x : Int))) prg room fuel { s with here := x } vs vp vg vt :=
  h.store 21 _ (rs_tail h.pl h.rl h.ml 1 _) h.rl h.ml rfl rfl rfl rfl
theorem RS.setUsed (h : RS B g w0 W prg room fuel s vs vp vg vt) (x : Nat) : RS B g w0 (W.setCell ⟨g, 28, none⟩ (.int .i64 (x : Int))) prg room fuel { s with used := x } vs vp vg vt :=
  h.store 28 _ (rs_tail h.pl h.rl h.ml 8 _) h.rl h.ml rfl rfl rfl rfl
theorem RS.setReg (h : RS B g w0 W prg room fuel s vs vp vg vt) (k : Nat) (hk : k < 8) (x : Int) : RS B g w0 (W.setCell ⟨g, 10 + k, none⟩ (.int .i64 x)) prg room fuel { s with regs := s.regs.set k x } vs vp vg vt :=
  h.store (10 + k) _ (rs_reg h.pl k x hk h.rl) (by simp [h.rl]) h.ml rfl rfl rfl rfl
theorem RS.setMark (h : RS B g w0 W prg room fuel s vs vp vg vt) (k : Nat) (hk : k < 2) (x : Nat) : RS B g w0 (W.setCell ⟨g, 18 + k, none⟩ (.int .i64 (x : Int))) prg room fuel { s with marks := s.marks.set k x } vs vp vg vt :=
  h.store (18 + k) _ (rs_mark h.pl h.rl k x hk h.ml) h.rl (by simp [h.ml]) rfl rfl rfl rfl
/-- behind an append to a row: the box and what is apart -/
theorem RS.mid (h : RS B g w0 W prg room fuel s vs vp vg vt) {row : Option Nat} (hg : W.grownBy W' row) (hrow : ∀ b, row = some b → g < b) : Below B w0 W' ∧ Blk W' g 67 (rcells prg s vs vp vg vt room fuel) :=
  ⟨h.below.grown hg (Nat.le_trans h.gB (Nat.le_of_lt h.lt)) (fun k e => by have := hrow k e; have := h.gB; omega), (hg.block g h.lt (fun e => by have := hrow g e.symm; omega)).trans h.box⟩
theorem RS.midBox (h : RS B g w0 W prg room fuel s vs vp vg vt) {row : Option Nat} (hg : W.grownBy W' row) (hrow : ∀ b, row = some b → g < b) : Box W' g prg room fuel s vs vp vg vt := by
  have hb := (h.mid hg hrow).2
  have t := fun k => rc_tail (vs := vs) (vp := vp) (vg := vg) (vt := vt) (room := room) (fuel := fuel) h.pl h.rl h.ml k
  refine ⟨fun k hk => (hb.cell k).trans (rc_prg h.pl k hk), fun k hk => (hb.cell _).trans (rc_reg h.pl k hk h.rl), fun k hk => (hb.cell _).trans (rc_mark h.pl h.rl k hk h.ml),
    (hb.cell 20).trans (t 0), (hb.cell 21).trans (t 1), (hb.cell 22).trans (t 2), (hb.cell 23).trans (t 3), (hb.cell 24).trans (t 4), (hb.cell 25).trans (t 5), (hb.cell 26).trans (t 6), (hb.cell 27).trans (t 7), (hb.cell 28).trans (t 8), fun k => hb.frozen k⟩
theorem apart_other {v u : Value} {gg n c : Nat} (h : Apart v u) (hor : u.ownBlock = some gg ∨ gg = W.heap.size) (hv : ∀ b, v.ownBlock = some b → b < W.heap.size) : Apart v (.slice (some ⟨gg, 0, none⟩) n c) := fun b e e2 => by
  have e3 : gg = b := by simpa [Value.ownBlock] using e2
  subst e3
  rcases hor with h9 | h9
  · exact h gg e h9
  · have := hv gg e; omega
theorem Apart.symm {v u : Value} (h : Apart v u) : Apart u v := fun b e e2 => h b e2 e
theorem own_far {base n size : Nat} {e : TypeId} {v u : Value} {xs : List Value} (h : W.ownsRow base e size v n xs) (hg : W.grownBy W' u.ownBlock) (ha : Apart v u) : W'.ownsRow base e size v n xs :=
  own_move h (fun b _ e ho _ => (hg.block b (h.lt b e).2 (fun e9 => ha b e e9.symm)).trans ho)
theorem RS.putApp (h : RS B g w0 W prg room fuel s vs vp vg vt) {gg cap : Nat} {xs : List UInt8} (ho : W'.ownsRow (g + 1) 5 1 (.slice (some ⟨gg, 0, none⟩) (s.put.length + xs.length) cap) (s.put.length + xs.length) (bytesV s.put ++ bytesV xs)) (hg : W.grownBy W' vp.ownBlock) (hor : vp.ownBlock = some gg ∨ gg = W.heap.size) :
    RS B g w0 (W'.setCell ⟨g, 22, none⟩ (.slice (some ⟨gg, 0, none⟩) (s.put.length + xs.length) cap)) prg room fuel { s with put := s.put ++ xs } vs (.slice (some ⟨gg, 0, none⟩) (s.put.length + xs.length) cap) vg vt := by
  have hm := h.mid hg (fun b e => by have := (h.put.lt b e).1; omega)
  have hh : ∀ b, b ≠ g → (W'.setCell ⟨g, 22, none⟩ (.slice (some ⟨gg, 0, none⟩) (s.put.length + xs.length) cap)).heap[b]? = W'.heap[b]? := fun b hb => Below.heap_setCell _ _ _ b hb
  have hl : (s.put ++ xs).length = s.put.length + xs.length := by simp
  have hs : W.heap.size ≤ W'.heap.size := hg.size
  refine ⟨h.pl, h.rl, h.ml, hm.1.setCell (p := ⟨g, 22, none⟩) h.gB _, h.gB, ?_, ?_, ?_, ?_, ?_, h.asg, (apart_other h.asp hor (fun b e => (h.src.near b e).2)), h.ass, h.ast, (apart_other h.apg.symm hor (fun b e => (h.sgn.lt b e).2)).symm, (apart_other h.apt.symm hor (fun b e => (h.told.lt b e).2)).symm, h.agt⟩
  · have := hm.2.set 22 (.slice (some ⟨gg, 0, none⟩) (s.put.length + xs.length) cap)
    rw [rs_tail h.pl h.rl h.ml 2] at this
    exact this
  · refine (h.src.keep hs (fun b e => hg.block b (h.src.near b e).2 (fun e9 => h.asp b e e9.symm))).keep (by simp) (fun b e => hh b (fun e9 => h.asg (by rw [e, e9])))
  · rw [hl]; simp only [bytesV, List.map_append] at ho ⊢; exact own_move ho (fun b _ e ho' _ => (hh b (by have := (ho.lt b e).1; omega)).trans ho')
  · exact own_move (own_far h.sgn hg h.apg.symm) (fun b _ e ho' _ => (hh b (by have := (h.sgn.lt b e).1; omega)).trans ho')
  · exact own_move (own_far h.told hg h.apt.symm) (fun b _ e ho' _ => (hh b (by have := (h.told.lt b e).1; omega)).trans ho')
theorem RS.sgnApp (h : RS B g w0 W prg room fuel s vs vp vg vt) {gg cap : Nat} {xs : List Int} (ho : W'.ownsRow (g + 1) 3 1 (.slice (some ⟨gg, 0, none⟩) (s.signs.length + xs.length) cap) (s.signs.length + xs.length) (numsV .i64 s.signs ++ numsV .i64 xs)) (hg : W.grownBy W' vg.ownBlock) (hor : vg.ownBlock = some gg ∨ gg = W.heap.size) :
    RS B g w0 (W'.setCell ⟨g, 23, none⟩ (.slice (some ⟨gg, 0, none⟩) (s.signs.length + xs.length) cap)) prg room fuel { s with signs := s.signs ++ xs } vs vp (.slice (some ⟨gg, 0, none⟩) (s.signs.length + xs.length) cap) vt := by
  have hm := h.mid hg (fun b e => by have := (h.sgn.lt b e).1; omega)
  have hh : ∀ b, b ≠ g → (W'.setCell ⟨g, 23, none⟩ (.slice (some ⟨gg, 0, none⟩) (s.signs.length + xs.length) cap)).heap[b]? = W'.heap[b]? := fun b hb => Below.heap_setCell _ _ _ b hb
  have hl : (s.signs ++ xs).length = s.signs.length + xs.length := by simp
  have hs : W.heap.size ≤ W'.heap.size := hg.size
  refine ⟨h.pl, h.rl, h.ml, hm.1.setCell (p := ⟨g, 23, none⟩) h.gB _, h.gB, ?_, ?_, ?_, ?_, ?_, h.asg, h.asp, (apart_other h.ass hor (fun b e => (h.src.near b e).2)), h.ast, (apart_other h.apg hor (fun b e => (h.put.lt b e).2)), h.apt, (apart_other h.agt.symm hor (fun b e => (h.told.lt b e).2)).symm⟩
  · have := hm.2.set 23 (.slice (some ⟨gg, 0, none⟩) (s.signs.length + xs.length) cap)
    rw [rs_tail h.pl h.rl h.ml 3] at this
    exact this
  · refine (h.src.keep hs (fun b e => hg.block b (h.src.near b e).2 (fun e9 => h.ass b e e9.symm))).keep (by simp) (fun b e => hh b (fun e9 => h.asg (by rw [e, e9])))
  · exact own_move (own_far h.put hg h.apg) (fun b _ e ho' _ => (hh b (by have := (h.put.lt b e).1; omega)).trans ho')
  · rw [hl]; simp only [numsV, List.map_append] at ho ⊢; exact own_move ho (fun b _ e ho' _ => (hh b (by have := (ho.lt b e).1; omega)).trans ho')
  · exact own_move (own_far h.told hg h.agt.symm) (fun b _ e ho' _ => (hh b (by have := (h.told.lt b e).1; omega)).trans ho')
theorem RS.toldApp (h : RS B g w0 W prg room fuel s vs vp vg vt) {gg cap : Nat} {xs : List Int} (ho : W'.ownsRow (g + 1) 3 1 (.slice (some ⟨gg, 0, none⟩) (s.told.length + xs.length) cap) (s.told.length + xs.length) (numsV .i64 s.told ++ numsV .i64 xs)) (hg : W.grownBy W' vt.ownBlock) (hor : vt.ownBlock = some gg ∨ gg = W.heap.size) :
    RS B g w0 (W'.setCell ⟨g, 24, none⟩ (.slice (some ⟨gg, 0, none⟩) (s.told.length + xs.length) cap)) prg room fuel { s with told := s.told ++ xs } vs vp vg (.slice (some ⟨gg, 0, none⟩) (s.told.length + xs.length) cap) := by
  have hm := h.mid hg (fun b e => by have := (h.told.lt b e).1; omega)
  have hh : ∀ b, b ≠ g → (W'.setCell ⟨g, 24, none⟩ (.slice (some ⟨gg, 0, none⟩) (s.told.length + xs.length) cap)).heap[b]? = W'.heap[b]? := fun b hb => Below.heap_setCell _ _ _ b hb
  have hl : (s.told ++ xs).length = s.told.length + xs.length := by simp
  have hs : W.heap.size ≤ W'.heap.size := hg.size
  refine ⟨h.pl, h.rl, h.ml, hm.1.setCell (p := ⟨g, 24, none⟩) h.gB _, h.gB, ?_, ?_, ?_, ?_, ?_, h.asg, h.asp, h.ass, (apart_other h.ast hor (fun b e => (h.src.near b e).2)), h.apg, (apart_other h.apt hor (fun b e => (h.put.lt b e).2)), (apart_other h.agt hor (fun b e => (h.sgn.lt b e).2))⟩
  · have := hm.2.set 24 (.slice (some ⟨gg, 0, none⟩) (s.told.length + xs.length) cap)
    rw [rs_tail h.pl h.rl h.ml 4] at this
    exact this
  · refine (h.src.keep hs (fun b e => hg.block b (h.src.near b e).2 (fun e9 => h.ast b e e9.symm))).keep (by simp) (fun b e => hh b (fun e9 => h.asg (by rw [e, e9])))
  · exact own_move (own_far h.put hg h.apt) (fun b _ e ho' _ => (hh b (by have := (h.put.lt b e).1; omega)).trans ho')
  · exact own_move (own_far h.sgn hg h.agt) (fun b _ e ho' _ => (hh b (by have := (h.sgn.lt b e).1; omega)).trans ho')
  · rw [hl]; simp only [numsV, List.map_append] at ho ⊢; exact own_move ho (fun b _ e ho' _ => (hh b (by have := (ho.lt b e).1; omega)).trans ho')
end
end Go.Proofs.Ytgejpggbmgiocaa
