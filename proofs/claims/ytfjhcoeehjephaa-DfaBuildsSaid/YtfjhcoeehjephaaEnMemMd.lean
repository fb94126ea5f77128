/- The cells of nfa.Ends: what lies where, and what each step leaves. -/
import Derived.Test.YtfjhcoeehjephaaFreeMd
import Derived.Test.YtfjhcoeehjephaaNfaMd
import Derived.Test.YtfjhcoeehjephaaBridgeMd
namespace Go.Proofs.Ytfjhcoeehjephaa
open Go.RowKit

theorem cell_heap {w w' : World} {b o : Nat} (h : w'.heap[b]? = w.heap[b]?) : w'.cell? ⟨b, o, none⟩ = w.cell? ⟨b, o, none⟩ := by simp [World.cell?, h]
theorem Arr.keepB {w w' : World} {B size n : Nat} {A : Option Addr} {C : Nat → Nat → Value} (h : Arr w B size A n C) (hA : ∀ x, A = some x → 0 < n → w'.heap[x.block]? = w.heap[x.block]?) : Arr w' B size A n C := fun hn => by
  obtain ⟨b, off, e, hlt, hc⟩ := h hn
  exact ⟨b, off, e, hlt, fun k j h1 h2 => (cell_heap (hA _ e hn)).trans (hc k j h1 h2)⟩

structure EC (w : World) (A : Option Addr) (n c S : Nat) (a z : Int) (E : List Ed) (s : ByteArray) (g : Nat) (RA : Nat → Option Addr) (rc : Nat → Nat) (eb p : Nat) (vout : Value) (out : List Int) (W : World) : Prop where
  nb : Blk W w.heap.size 24 [.int .i64 (S : Int), .int .i64 a, .int .i64 z, .slice A n c]
  sb : Boxed W (w.heap.size + 1) 9 (.string s)
  ab : Boxed W (w.heap.size + 2) 3 (.int .i64 (p : Int))
  ebx : Boxed W eb 71 (.slice (some ⟨g, 0, none⟩) S S)
  rows : RowsE W (some ⟨g, 0, none⟩) S E RA rc
  obx : Boxed W (eb + 2) 36 vout
  orow : W.ownsRow (eb + 3) 3 1 vout out.length (numsV .i64 out)
  bel : Below w.heap.size w W
  glt : g < eb
  glo : w.heap.size + 3 ≤ g
  rlt : ∀ k x, k < S → RA k = some x → w.heap.size + 3 ≤ x.block ∧ x.block < eb
  lo : w.heap.size + 3 ≤ eb
section
variable {w : World} {A : Option Addr} {n c S : Nat} {a z : Int} {E : List Ed} {s : ByteArray} {g : Nat} {RA : Nat → Option Addr} {rc : Nat → Nat} {eb p : Nat} {vout : Value} {out : List Int} {W W' : World}
theorem EC.obl (h : EC w A n c S a z E s g RA rc eb p vout out W) : eb + 2 < W.heap.size := h.obx.lt
theorem EC.orl (h : EC w A n c S a z E s g RA rc eb p vout out W) {b : Nat} (hb : vout.ownBlock = some b) : eb + 3 ≤ b ∧ b < W.heap.size := h.orow.lt b hb
theorem RowsE.keepB {A : Option Addr} (h : RowsE W A S E RA rc) (hg : ∀ x, A = some x → W'.heap[x.block]? = W.heap[x.block]?) (hr : ∀ k x, k < S → RA k = some x → W'.heap[x.block]? = W.heap[x.block]?) (hs : W.heap.size ≤ W'.heap.size) : RowsE W' A S E RA rc :=
  ⟨(h.arr.keepB (fun x e _ => hg x e)).more hs, fun k hk => ((h.row k hk).keepB (fun x e _ => hr k x hk e)).more hs⟩
theorem EC.grown (h : EC w A n c S a z E s g RA rc eb p vout out W) {row : Option Nat} (hg : W.grownBy W' row) (hr : ∀ r, row = some r → eb + 2 < r ∧ vout.ownBlock ≠ some r) : EC w A n c S a z E s g RA rc eb p vout out W' := by
  have hob := h.obl
  have hlo := h.lo
  have old : ∀ b, b ≤ eb + 2 → W'.heap[b]? = W.heap[b]? := fun b hb => hg.block b (by omega) (fun e => by have := (hr b e.symm).1; omega)
  refine ⟨(old _ (by omega)).trans h.nb, (old _ (by omega)).trans h.sb, (old _ (by omega)).trans h.ab, (old _ (by omega)).trans h.ebx, h.rows.keepB (fun x e => by cases e; exact old _ (by have := h.glt; simp only; omega)) (fun k x hk e => old _ (by have := h.rlt k x hk e; omega)) hg.size, (old _ (by omega)).trans h.obx,
    own_move h.orow (fun b o hb ho _ => (hg.block b (h.orl hb).2 (fun e => (hr b e.symm).2 hb)).trans ho), h.bel.grown hg (by have := h.bel.size; exact this) (fun k e => by have := (hr k e).1; omega), h.glt, h.glo, h.rlt, h.lo⟩
theorem EC.setAt (h : EC w A n c S a z E s g RA rc eb p vout out W) (q : Nat) : EC w A n c S a z E s g RA rc eb q vout out (W.setCell ⟨w.heap.size + 2, 0, none⟩ (.int .i64 (q : Int))) := by
  have hob := h.obl
  have hlo := h.lo
  have old : ∀ b, b ≠ w.heap.size + 2 → (W.setCell ⟨w.heap.size + 2, 0, none⟩ (.int .i64 (q : Int))).heap[b]? = W.heap[b]? := fun b hb => Below.heap_setCell _ _ _ b hb
  refine ⟨(old _ (by omega)).trans h.nb, (old _ (by omega)).trans h.sb, h.ab.set _, (old _ (by omega)).trans h.ebx, h.rows.keepB (fun x e => by cases e; exact old _ (by have := h.glo; simp only; omega)) (fun k x hk e => old _ (by have := h.rlt k x hk e; omega)) (by simp), (old _ (by omega)).trans h.obx,
    own_move h.orow (fun b o hb ho _ => (old b (by have := (h.orl hb).1; omega)).trans ho), h.bel.setCell (p := ⟨w.heap.size + 2, 0, none⟩) (by simp only; omega) _, h.glt, h.glo, h.rlt, h.lo⟩
theorem EC.app (h : EC w A n c S a z E s g RA rc eb p vout out W) {v' : Value} {x : Int} (hg : W.grownBy W' vout.ownBlock) (hown : W'.ownsRow (eb + 3) 3 1 v' (out.length + 1) (numsV .i64 out ++ [.int .i64 x])) :
    EC w A n c S a z E s g RA rc eb p v' (out ++ [x]) (W'.setCell ⟨eb + 2, 0, none⟩ v') := by
  have hob := h.obl
  have hlo := h.lo
  have old : ∀ b, b < eb + 2 → (W'.setCell ⟨eb + 2, 0, none⟩ v').heap[b]? = W.heap[b]? := fun b hb => (Below.heap_setCell _ _ _ b (by simp only; omega)).trans (hg.block b (by omega) (fun e => by have := (h.orl e.symm).1; omega))
  have hsz := hg.size
  have hobx : Boxed W' (eb + 2) 36 vout := (hg.block _ hob (fun e => by have := (h.orl e.symm).1; omega)).trans h.obx
  refine ⟨(old _ (by omega)).trans h.nb, (old _ (by omega)).trans h.sb, (old _ (by omega)).trans h.ab, (old _ (by omega)).trans h.ebx, h.rows.keepB (fun x e => by cases e; exact old _ (by have := h.glt; simp only; omega)) (fun k x hk e => old _ (by have := h.rlt k x hk e; omega)) (by simp; omega), hobx.set _,
    own_move (by rw [List.length_append, numsV_snoc]; exact hown) (fun b o hb ho _ => (Below.heap_setCell _ _ _ b (by have := (hown.lt b hb).1; simp only; omega)).trans ho), ((h.bel.grown hg h.bel.size (fun k e => by have := (h.orl e).1; omega)).setCell (p := ⟨eb + 2, 0, none⟩) (by simp only; omega) _), h.glt, h.glo, h.rlt, h.lo⟩
end

/-- which blocks are the body's -/
def XE (nx eb : Nat) (W : World) (r : Nat) : Prop := r = nx ∨ r = nx + 1 ∨ r = eb + 2 ∨ ∃ v, (Boxed W nx 36 v ∨ Boxed W (eb + 2) 36 v) ∧ v.ownBlock = some r
structure EJ (w : World) (A : Option Addr) (n c S : Nat) (a z : Int) (E : List Ed) (s : ByteArray) (g : Nat) (RA : Nat → Option Addr) (rc : Nat → Nat) (eb nx p : Nat) (vout : Value) (out : List Int) (vnext : Value) (next : List Int) (inl : List Bool) (W : World) : Prop where
  core : EC w A n c S a z E s g RA rc eb p vout out W
  nbx : Boxed W nx 36 vnext
  nrow : W.ownsRow (nx + 5) 3 1 vnext next.length (numsV .i64 next)
  gin : Blk W (nx + 1) 4 (inl.map Value.bool)
  ibx : Boxed W (nx + 2) 28 (.slice (some ⟨nx + 1, 0, none⟩) S S)
  sep : ∀ b, vnext.ownBlock = some b → vout.ownBlock ≠ some b
  nlo : eb + 2 < nx
  nsz : nx + 5 ≤ W.heap.size
section
variable {w : World} {A : Option Addr} {n c S : Nat} {a z : Int} {E : List Ed} {s : ByteArray} {g : Nat} {RA : Nat → Option Addr} {rc : Nat → Nat} {eb nx p : Nat} {vout vnext : Value} {out next : List Int} {inl : List Bool} {W W' : World}
theorem EJ.xe (h : EJ w A n c S a z E s g RA rc eb nx p vout out vnext next inl W) (r : Nat) : XE nx eb W r ↔ r = nx ∨ r = nx + 1 ∨ r = eb + 2 ∨ vnext.ownBlock = some r ∨ vout.ownBlock = some r := by
  unfold XE
  constructor
  · rintro (h9 | h9 | h9 | ⟨v, hv | hv, hb⟩)
    · exact .inl h9
    · exact .inr (.inl h9)
    · exact .inr (.inr (.inl h9))
    · have e : v = vnext := by
        have := hv.symm.trans h.nbx
        simpa using this
      exact .inr (.inr (.inr (.inl (e ▸ hb))))
    · have e : v = vout := by
        have := hv.symm.trans h.core.obx
        simpa using this
      exact .inr (.inr (.inr (.inr (e ▸ hb))))
  · rintro (h9 | h9 | h9 | h9 | h9)
    · exact .inl h9
    · exact .inr (.inl h9)
    · exact .inr (.inr (.inl h9))
    · exact .inr (.inr (.inr ⟨_, .inl h.nbx, h9⟩))
    · exact .inr (.inr (.inr ⟨_, .inr h.core.obx, h9⟩))
theorem EJ.nrl (h : EJ w A n c S a z E s g RA rc eb nx p vout out vnext next inl W) {b : Nat} (hb : vnext.ownBlock = some b) : nx + 5 ≤ b ∧ b < W.heap.size := h.nrow.lt b hb
/-- the row of the places is none of the round's blocks -/
theorem EJ.ofar (h : EJ w A n c S a z E s g RA rc eb nx p vout out vnext next inl W) {b : Nat} (hb : vout.ownBlock = some b) : b ≠ nx ∧ b ≠ nx + 1 ∧ b ≠ nx + 2 := by
  refine ⟨fun e => ?_, fun e => ?_, fun e => ?_⟩
  · subst e; exact (h.nbx.not_row (by decide) h.core.orow) hb.symm
  · subst e
    rcases h.core.orow.2 with ⟨hv, _⟩ | ⟨g', cap, cur, hv, _, hg, _⟩
    · rw [hv] at hb; simp [Value.ownBlock] at hb
    · rw [hv] at hb
      obtain rfl : g' = nx + 1 := by simpa [Value.ownBlock] using hb
      have := hg.symm.trans h.gin
      simp at this
  · subst e; exact (h.ibx.not_row (by decide) h.core.orow) hb.symm
theorem EJ.grown (h : EJ w A n c S a z E s g RA rc eb nx p vout out vnext next inl W) {row : Option Nat} (hg : W.grownBy W' row) (hr : ∀ r, row = some r → nx + 5 ≤ r ∧ vnext.ownBlock ≠ some r ∧ vout.ownBlock ≠ some r) :
    EJ w A n c S a z E s g RA rc eb nx p vout out vnext next inl W' := by
  have hnl := h.nlo
  have hns := h.nsz
  have old : ∀ b, b < nx + 5 → W'.heap[b]? = W.heap[b]? := fun b hb => hg.block b (by omega) (fun e => by have := (hr b e.symm).1; omega)
  exact ⟨h.core.grown hg (fun r e => ⟨by have := (hr r e).1; omega, (hr r e).2.2⟩), (old _ (by omega)).trans h.nbx, own_move h.nrow (fun b o hb ho _ => (hg.block b (h.nrl hb).2 (fun e => (hr b e.symm).2.1 hb)).trans ho),
    (old _ (by omega)).trans h.gin, (old _ (by omega)).trans h.ibx, h.sep, h.nlo, Nat.le_trans h.nsz hg.size⟩
theorem EJ.mark (h : EJ w A n c S a z E s g RA rc eb nx p vout out vnext next inl W) (j : Nat) : EJ w A n c S a z E s g RA rc eb nx p vout out vnext next (inl.set j true) (W.setCell ⟨nx + 1, j, none⟩ (.bool true)) := by
  have hnl := h.nlo
  have hns := h.nsz
  have hg := grownBy_setCell W (nx + 1) j (.bool true)
  have old : ∀ b, b ≠ nx + 1 → (W.setCell ⟨nx + 1, j, none⟩ (.bool true)).heap[b]? = W.heap[b]? := fun b hb => Below.heap_setCell _ _ _ b hb
  refine ⟨h.core.grown hg (fun r e => by cases e; exact ⟨by omega, fun e => (h.ofar e).2.1 rfl⟩), (old _ (by omega)).trans h.nbx, own_move h.nrow (fun b o hb ho _ => (old b (by have := (h.nrl hb).1; omega)).trans ho),
    ?_, (old _ (by omega)).trans h.ibx, h.sep, h.nlo, by simpa using hns⟩
  have := h.gin.set j (.bool true)
  rw [List.map_set]; exact this
theorem EJ.appOut (h : EJ w A n c S a z E s g RA rc eb nx p vout out vnext next inl W) {g5 c5 : Nat} {x : Int} (hg : W.grownBy W' vout.ownBlock)
    (hown : W'.ownsRow (eb + 3) 3 1 (.slice (some ⟨g5, 0, none⟩) (out.length + 1) c5) (out.length + 1) (numsV .i64 out ++ [.int .i64 x])) (hat : vout.ownBlock = some g5 ∨ g5 = W.heap.size) :
    EJ w A n c S a z E s g RA rc eb nx p (.slice (some ⟨g5, 0, none⟩) (out.length + 1) c5) (out ++ [x]) vnext next inl (W'.setCell ⟨eb + 2, 0, none⟩ (.slice (some ⟨g5, 0, none⟩) (out.length + 1) c5)) := by
  have hnl := h.nlo
  have hns := h.nsz
  have hsz := hg.size
  have old : ∀ b, b < W.heap.size → b ≠ eb + 2 → vout.ownBlock ≠ some b → (W'.setCell ⟨eb + 2, 0, none⟩ (.slice (some ⟨g5, 0, none⟩) (out.length + 1) c5)).heap[b]? = W.heap[b]? := fun b hb h1 h2 => (Below.heap_setCell _ _ _ b h1).trans (hg.block b hb (fun e => h2 e.symm))
  refine ⟨h.core.app hg hown, (old _ (by omega) (by omega) (fun e => (h.ofar e).1 rfl)).trans h.nbx, own_move h.nrow (fun b o hb ho _ => (old b (h.nrl hb).2 (by have := (h.nrl hb).1; omega) (h.sep b hb)).trans ho),
    (old _ (by omega) (by omega) (fun e => (h.ofar e).2.1 rfl)).trans h.gin, (old _ (by omega) (by omega) (fun e => (h.ofar e).2.2 rfl)).trans h.ibx, fun b hb e => ?_, h.nlo, by simp; omega⟩
  obtain rfl : g5 = b := by simpa [Value.ownBlock] using e
  rcases hat with hat | hat
  · exact h.sep _ hb hat
  · have := (h.nrl hb).2; omega
theorem EJ.appNext (h : EJ w A n c S a z E s g RA rc eb nx p vout out vnext next inl W) {g5 c5 : Nat} {x : Int} (hg : W.grownBy W' vnext.ownBlock)
    (hown : W'.ownsRow (nx + 5) 3 1 (.slice (some ⟨g5, 0, none⟩) (next.length + 1) c5) (next.length + 1) (numsV .i64 next ++ [.int .i64 x])) (hat : vnext.ownBlock = some g5 ∨ g5 = W.heap.size) :
    EJ w A n c S a z E s g RA rc eb nx p vout out (.slice (some ⟨g5, 0, none⟩) (next.length + 1) c5) (next ++ [x]) inl (W'.setCell ⟨nx, 0, none⟩ (.slice (some ⟨g5, 0, none⟩) (next.length + 1) c5)) := by
  have hnl := h.nlo
  have hns := h.nsz
  have hsz := hg.size
  have hnb : ∀ b, vnext.ownBlock = some b → nx + 5 ≤ b := fun b hb => (h.nrl hb).1
  have old : ∀ b, b < W.heap.size → b ≠ nx → vnext.ownBlock ≠ some b → (W'.setCell ⟨nx, 0, none⟩ (.slice (some ⟨g5, 0, none⟩) (next.length + 1) c5)).heap[b]? = W.heap[b]? := fun b hb h1 h2 => (Below.heap_setCell _ _ _ b h1).trans (hg.block b hb (fun e => h2 e.symm))
  have hnbx : Boxed W' nx 36 vnext := (hg.block _ (by omega) (fun e => by have := hnb _ e.symm; omega)).trans h.nbx
  have hcore : EC w A n c S a z E s g RA rc eb p vout out W' := h.core.grown hg (fun r e => ⟨by have := hnb _ e; omega, h.sep r e⟩)
  refine ⟨hcore.grown (grownBy_setCell W' nx 0 _) (fun r e => by cases e; exact ⟨by omega, fun e => (h.ofar e).1 rfl⟩), hnbx.set _, own_move (by rw [List.length_append, numsV_snoc]; exact hown) (fun b o hb ho _ => (Below.heap_setCell _ _ _ b (by have := (hown.lt b hb).1; simp only; omega)).trans ho),
    (old _ (by omega) (by omega) (fun e => by have := hnb _ e; omega)).trans h.gin, (old _ (by omega) (by omega) (fun e => by have := hnb _ e; omega)).trans h.ibx, fun b hb e => ?_, h.nlo, by simp; omega⟩
  obtain rfl : g5 = b := by simpa [Value.ownBlock] using hb
  rcases hat with hat | hat
  · exact h.sep _ hat e
  · have := (h.core.orl e).2; omega
end
end Go.Proofs.Ytfjhcoeehjephaa
