/- The maker in memory; state and free. -/
import Derived.Test.YtpeoomdfopjlmaaGrowR
import Derived.Test.YtpeoomdfopjlmaaLeaving
import Derived.Maps.AppendAt
import Derived.OwnWalk
namespace Go.Proofs.Ytpeoomdfopjlmaa
open Go.RowKit

structure MI (w0 : World) (p : Nat) (S : Nat) (a z : Int) (E : List Ed) (bad : Bool) (v : Value) (W : World) : Prop where
  blk : Blk W p 50 [.int .i64 (S : Int), .int .i64 a, .int .i64 z, v, .bool bad]
  own : W.ownsRow (p + 1) 55 7 v E.length (edsV E)
  bel : Below w0.heap.size w0 W
  p0 : w0.heap.size ≤ p
/-- what stays: all elder blocks but the maker's and its row's -/
structure Went (p : Nat) (v v' : Value) (w w' : World) : Prop where
  size : w.heap.size ≤ w'.heap.size
  same : ∀ b, b < w.heap.size → b ≠ p → v.ownBlock ≠ some b → w'.heap[b]? = w.heap[b]?
  row : ∀ b, v'.ownBlock = some b → v.ownBlock = some b ∨ w.heap.size ≤ b
theorem Went.refl (p : Nat) (v : Value) (w : World) : Went p v v w w := ⟨Nat.le_refl _, fun _ _ _ _ => rfl, fun _ h => .inl h⟩
theorem Went.trans {p : Nat} {v v' v2 : Value} {w w' w2 : World} (h : Went p v v' w w') (k : Went p v' v2 w' w2) : Went p v v2 w w2 :=
  ⟨Nat.le_trans h.size k.size, fun b hb hp hv => (k.same b (Nat.lt_of_lt_of_le hb h.size) hp (fun e => by
    rcases h.row b e with h9 | h9
    · exact hv h9
    · omega)).trans (h.same b hb hp hv), fun b e => by
    rcases k.row b e with h9 | h9
    · exact h.row b h9
    · exact .inr (Nat.le_trans h.size h9)⟩
theorem Went.alloc {p : Nat} {v : Value} (w : World) (o : Obj) : Went p v v w (w.alloc o) :=
  ⟨by simp, fun b hb _ _ => Below.heap_alloc w o b hb, fun _ h => .inl h⟩
/-- a block of the call's own -/
theorem Went.blk {p : Nat} {v v' : Value} {w w' : World} (h : Went p v v' w w') {g : Nat} {t : TypeId} {cur : List Value} (hb : Blk w g t cur) (hp : g ≠ p) (hv : v.ownBlock ≠ some g) : Blk w' g t cur := (h.same g hb.lt hp hv).trans hb
section
variable {w0 W W' : World} {p S : Nat} {a z : Int} {E : List Ed} {bad : Bool} {v v' : Value}
theorem MI.lt (h : MI w0 p S a z E bad v W) : p < W.heap.size := h.blk.lt
theorem MI.alloc (h : MI w0 p S a z E bad v W) (o : Obj) : MI w0 p S a z E bad v (W.alloc o) := ⟨h.blk.alloc o, h.own.alloc o, h.bel.alloc (Nat.le_trans h.p0 (Nat.le_of_lt h.lt)) o, h.p0⟩
theorem MI.drew (h : MI w0 p S a z E bad v W) : MI w0 p S a z E bad v W.drew := ⟨h.blk, h.own.drew, h.bel.drew, h.p0⟩
theorem MI.row_lt (h : MI w0 p S a z E bad v W) {b : Nat} (hb : v.ownBlock = some b) : p + 1 ≤ b ∧ b < W.heap.size := h.own.lt b hb
theorem MI.form (h : MI w0 p S a z E bad v W) : ∃ A c, v = .slice A E.length c := by
  rcases h.own.2 with ⟨h1, h2⟩ | ⟨g, cap, cur, h1, _⟩
  · exact ⟨none, 0, by rw [h1, h2]⟩
  · exact ⟨_, _, h1⟩
theorem own_sl {W : World} {base n : Nat} {e : TypeId} {size : Nat} {v : Value} {xs : List Value} (h : W.ownsRow base e size v n xs) : ∃ A c, v = .slice A n c := by
  rcases h.2 with ⟨h1, h2⟩ | ⟨g, cap, cur, h1, _⟩
  · exact ⟨none, 0, by rw [h1, h2]⟩
  · exact ⟨_, _, h1⟩
/-- a cell of the maker is stored to -/
theorem MI.set (h : MI w0 p S a z E bad v W) (k : Nat) (x : Value) (S2 : Nat) (a2 z2 : Int) (bad2 : Bool) (he : [Value.int .i64 (S : Int), .int .i64 a, .int .i64 z, v, .bool bad].set k x = [.int .i64 (S2 : Int), .int .i64 a2, .int .i64 z2, v, .bool bad2]) :
    MI w0 p S2 a2 z2 E bad2 v (W.setCell ⟨p, k, none⟩ x) ∧ Went p v v W (W.setCell ⟨p, k, none⟩ x) := by
  have hne : ∀ b, b ≠ p → (W.setCell ⟨p, k, none⟩ x).heap[b]? = W.heap[b]? := fun b hb => Below.heap_setCell _ _ _ b (by simpa using hb)
  have hsz : (W.setCell ⟨p, k, none⟩ x).heap.size = W.heap.size := by show (W.heap.modify p _).size = _; simp
  refine ⟨⟨?_, ?_, h.bel.setCell (p := ⟨p, k, none⟩) h.p0 _, h.p0⟩, by omega, fun b _ hp _ => hne b hp, fun b e => .inl e⟩
  · have := h.blk.set k x
    rwa [he] at this
  · have hg : W.grownBy (W.setCell ⟨p, k, none⟩ x) (some p) := ⟨rfl, rfl, rfl, by omega, fun b _ hb => hne b (fun e => hb (by rw [e]))⟩
    refine h.own.kept hg ?_
    cases hv : v.ownBlock with
    | none => left; rfl
    | some b => right; exact fun e => by have := (h.row_lt hv).1; cases e; omega
/-- an edge more -/
theorem MI.app (h : MI w0 p S a z E bad v W) {e : Ed} (hg : W.grownBy W' v.ownBlock) (hown : W'.ownsRow (p + 1) 55 7 v' (E.length + 1) (edsV E ++ edV e)) (hat : v'.ownBlock = v.ownBlock ∨ v'.ownBlock = some W.heap.size) :
    MI w0 p S a z (E ++ [e]) bad v' (W'.setCell ⟨p, 3, none⟩ v') ∧ Went p v v' W (W'.setCell ⟨p, 3, none⟩ v') := by
  have hpr : v.ownBlock ≠ some p := fun e => by have := (h.row_lt e).1; omega
  have hblk : Blk W' p 50 [.int .i64 (S : Int), .int .i64 a, .int .i64 z, v, .bool bad] := h.blk.same (hg.block p h.lt (fun e => hpr e.symm))
  have hne : ∀ b, b ≠ p → (W'.setCell ⟨p, 3, none⟩ v').heap[b]? = W'.heap[b]? := fun b hb => Below.heap_setCell _ _ _ b (by simpa using hb)
  have hsz : (W'.setCell ⟨p, 3, none⟩ v').heap.size = W'.heap.size := by show (W'.heap.modify p _).size = _; simp
  have hg2 : W'.grownBy (W'.setCell ⟨p, 3, none⟩ v') (some p) := ⟨rfl, rfl, rfl, by omega, fun b _ hb => hne b (fun e => hb (by rw [e]))⟩
  have hbl : Below w0.heap.size w0 W' := h.bel.grown hg (Nat.le_trans h.p0 (Nat.le_of_lt h.lt)) (fun k hk => by have := (h.row_lt hk).1; have := h.p0; omega)
  refine ⟨⟨?_, ?_, hbl.setCell (p := ⟨p, 3, none⟩) h.p0 _, h.p0⟩, by have := hg.size; omega, fun b hb hp hv => (hne b hp).trans (hg.block b hb (fun e => hv e.symm)), fun b e => ?_⟩
  · exact hblk.set 3 v'
  · rw [edsV_snoc, List.length_append]
    refine hown.kept hg2 ?_
    cases hv : v'.ownBlock with
    | none => left; rfl
    | some b => right; exact fun e => by have := (hown.lt b hv).1; cases e; omega
  · rcases hat with h9 | h9
    · exact .inl (h9 ▸ e)
    · rw [h9] at e; cases e; exact .inr (Nat.le_refl _)
end

set_option maxRecDepth 100000 in
theorem state_any (w0 : World) (p S : Nat) (a z : Int) (E : List Ed) (v : Value) (W : World) (bad : Bool) (h : MI w0 p S a z E bad v W) (hS : S < 2000) :
    Calls Try.prog 18 #[.pointer (some ⟨p, 0, none⟩)] W fun e W' => e = .returned (.int .i64 (S : Int)) ∧ MI w0 p (S + 1) a z E bad v W' ∧ Went p v v W W' := by
  have H := Lib.hid (h.set 0 (.int .i64 ((S + 1 : Nat) : Int)) (S + 1) a z bad rfl)
  have c0 := h.blk.cell 0
  have c1 := h.blk.frozen 0
  have d1 : decide (2000 ≤ (S : Int)) = false := by simp; omega
  have hlt := h.lt
  have he : ((S + 1 : Nat) : Int) = (S : Int) + 1 := by omega
  rw [he] at H
  simp only [List.getElem?_cons_zero] at c0
  clear h he
  go_enter Try.func18, Try.ntmps18
  go_wp2_with fail
  go_returns
  exact ⟨by first | rfl | simp, H.out.1, H.out.2⟩
set_option maxRecDepth 100000 in
theorem state_full (w0 : World) (p S : Nat) (a z : Int) (E : List Ed) (v : Value) (W : World) (bad : Bool) (h : MI w0 p S a z E bad v W) (hS : S = 2000) :
    Calls Try.prog 18 #[.pointer (some ⟨p, 0, none⟩)] W fun e W' => e = .returned (.int .i64 0) ∧ MI w0 p S a z E true v W' ∧ Went p v v W W' := by
  have H := Lib.hid (h.set 4 (.bool true) S a z true rfl)
  have c0 := h.blk.cell 0
  have c4 := h.blk.cell 4
  have c1 := h.blk.frozen 4
  have d1 : decide (2000 ≤ (S : Int)) = true := by simp; omega
  have hlt := h.lt
  simp only [List.getElem?_cons_zero, List.getElem?_cons_succ] at c0 c4
  clear h
  go_enter Try.func18, Try.ntmps18
  go_wp2_with fail
  go_returns
  exact ⟨by first | rfl | simp, H.out.1, H.out.2⟩
end Go.Proofs.Ytpeoomdfopjlmaa
