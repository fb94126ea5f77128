/- EnMem, EnBody of this seat, in one text. -/
import Derived.Test.YtfjgfabochiflaaFreeTc
import Derived.Test.YtfjgfabochiflaaNfaTc
import Derived.Test.YtfjgfabochiflaaBridgeTc
/- The cells of nfa.Ends: what lies where, and what each step leaves. -/
namespace Go.Proofs.Ytfjgfabochiflaa
open Go.RowKit

theorem cell_heap {w w' : World} {b o : Nat} (h : w'.heap[b]? = w.heap[b]?) : w'.cell? ⟨b, o, none⟩ = w.cell? ⟨b, o, none⟩ := by simp [World.cell?, h]
theorem Arr.keepB {w w' : World} {B size n : Nat} {A : Option Addr} {C : Nat → Nat → Value} (h : Arr w B size A n C) (hA : ∀ x, A = some x → 0 < n → w'.heap[x.block]? = w.heap[x.block]?) : Arr w' B size A n C := fun hn => by
  obtain ⟨b, off, e, hlt, hc⟩ := h hn
  exact ⟨b, off, e, hlt, fun k j h1 h2 => (cell_heap (hA _ e hn)).trans (hc k j h1 h2)⟩

structure EC (w : World) (A : Option Addr) (n c S : Nat) (a z : Int) (E : List Ed) (s : ByteArray) (g : Nat) (RA : Nat → Option Addr) (rc : Nat → Nat) (eb p : Nat) (vout : Value) (out : List Int) (W : World) : Prop where
  nb : Blk W w.heap.size 118 [.int .i64 (S : Int), .int .i64 a, .int .i64 z, .slice A n c]
  sb : Boxed W (w.heap.size + 1) 9 (.string s)
  ab : Boxed W (w.heap.size + 2) 3 (.int .i64 (p : Int))
  ebx : Boxed W eb 207 (.slice (some ⟨g, 0, none⟩) S S)
  rows : RowsE W (some ⟨g, 0, none⟩) S E RA rc
  obx : Boxed W (eb + 2) 32 vout
  orow : W.ownsRow (eb + 3) 3 1 vout out.length (numsV .i64 out)
  bel : Below w.heap.size w W
  glt : g < eb
  glo : w.heap.size + 3 ≤ g
  rlt : ∀ k x, k < S → RA k = some x → w.heap.size + 3 ≤ x.block ∧ x.block < eb
  lo : w.heap.size + 3 ≤ eb
section
variable {w : World} {A : Option Addr} {n c S : Nat} {a z : Int} {E : List Ed} {s : ByteArray} {g : Nat} {RA : Nat → Option Addr} {rc : Nat → Nat} {eb p : Nat} {vout : Value} {out : List Int} {W W' : World}
theorem EC.obl (h : EC w A n c S a z E s g RA rc eb p vout out W) : eb + 2 < W.heap.size := h.obx.lt
theorem EC.orl (h : EC w A n c S a z E s g RA rc eb p vout out W) {b : Nat} (hb : vout.ownBlock = some b) : eb + 3 ≤ b ∧ b < W.heap.size := h.orow.lt b hb
theorem RowsE.keepB {A : Option Addr} (h : RowsE W A S E RA rc) (hg : ∀ x, A = some x → W'.heap[x.block]? = W.heap[x.block]?) (hr : ∀ k x, k < S → RA k = some x → W'.heap[x.block]? = W.heap[x.block]?) (hs : W.heap.size ≤ W'.heap.size) : RowsE W' A S E RA rc :=
  ⟨(h.arr.keepB (fun x e _ => hg x e)).more hs, fun k hk => ((h.row k hk).keepB (fun x e _ => hr k x hk e)).more hs⟩
theorem EC.grown (h : EC w A n c S a z E s g RA rc eb p vout out W) {row : Option Nat} (hg : W.grownBy W' row) (hr : ∀ r, row = some r → eb + 2 < r ∧ vout.ownBlock ≠ some r) : EC w A n c S a z E s g RA rc eb p vout out W' := by
  have hob := h.obl
  have hlo := h.lo
  have old : ∀ b, b ≤ eb + 2 → W'.heap[b]? = W.heap[b]? := fun b hb => hg.block b (by omega) (fun e => by have := (hr b e.symm).1; omega)
  refine ⟨(old _ (by omega)).trans h.nb, (old _ (by omega)).trans h.sb, (old _ (by omega)).trans h.ab, (old _ (by omega)).trans h.ebx, h.rows.keepB (fun x e => by cases e; exact old _ (by have := h.glt; simp only; omega)) (fun k x hk e => old _ (by have := h.rlt k x hk e; omega)) hg.size, (old _ (by omega)).trans h.obx,
    own_move h.orow (fun b o hb ho _ => (hg.block b (h.orl hb).2 (fun e => (hr b e.symm).2 hb)).trans ho), h.bel.grown hg (by have := h.bel.size; exact this) (fun k e => by have := (hr k e).1; omega), h.glt, h.glo, h.rlt, h.lo⟩
theorem EC.setAt (h : EC w A n c S a z E s g RA rc eb p vout out W) (q : Nat) : EC w A n c S a z E s g RA rc eb q vout out (W.setCell ⟨w.heap.size + 2, 0, none⟩ (.int .i64 (q : Int))) := by
  have hob := h.obl
  have hlo := h.lo
  have old : ∀ b, b ≠ w.heap.size + 2 → (W.setCell ⟨w.heap.size + 2, 0, none⟩ (.int .i64 (q : Int))).heap[b]? = W.heap[b]? := fun b hb => Below.heap_setCell _ _ _ b hb
  refine ⟨(old _ (by omega)).trans h.nb, (old _ (by omega)).trans h.sb, h.ab.set _, (old _ (by omega)).trans h.ebx, h.rows.keepB (fun x e => by cases e; exact old _ (by have := h.glo; simp only; omega)) (fun k x hk e => old _ (by have := h.rlt k x hk e; omega)) (by simp), (old _ (by omega)).trans h.obx,
    own_move h.orow (fun b o hb ho _ => (old b (by have := (h.orl hb).1; omega)).trans ho), h.bel.setCell (p := ⟨w.heap.size + 2, 0, none⟩) (by simp only; omega) _, h.glt, h.glo, h.rlt, h.lo⟩
theorem EC.app (h : EC w A n c S a z E s g RA rc eb p vout out W) {v' : Value} {x : Int} (hg : W.grownBy W' vout.ownBlock) (hown : W'.ownsRow (eb + 3) 3 1 v' (out.length + 1) (numsV .i64 out ++ [.int .i64 x])) :
    EC w A n c S a z E s g RA rc eb p v' (out ++ [x]) (W'.setCell ⟨eb + 2, 0, none⟩ v') := by
  have hob := h.obl
  have hlo := h.lo
  have old : ∀ b, b < eb + 2 → (W'.setCell ⟨eb + 2, 0, none⟩ v').heap[b]? = W.heap[b]? := fun b hb => (Below.heap_setCell _ _ _ b (by simp only; omega)).trans (hg.block b (by omega) (fun e => by have := (h.orl e.symm).1; omega))
  have hsz := hg.size
  have hobx : Boxed W' (eb + 2) 32 vout := (hg.block _ hob (fun e => by have := (h.orl e.symm).1; omega)).trans h.obx
  refine ⟨(old _ (by omega)).trans h.nb, (old _ (by omega)).trans h.sb, (old _ (by omega)).trans h.ab, (old _ (by omega)).trans h.ebx, h.rows.keepB (fun x e => by cases e; exact old _ (by have := h.glt; simp only; omega)) (fun k x hk e => old _ (by have := h.rlt k x hk e; omega)) (by simp; omega), hobx.set _,
    own_move (by rw [List.length_append, numsV_snoc]; exact hown) (fun b o hb ho _ => (Below.heap_setCell _ _ _ b (by have := (hown.lt b hb).1; simp only; omega)).trans ho), ((h.bel.grown hg h.bel.size (fun k e => by have := (h.orl e).1; omega)).setCell (p := ⟨eb + 2, 0, none⟩) (by simp only; omega) _), h.glt, h.glo, h.rlt, h.lo⟩
end

/-- which blocks are the body's -/
def XE (nx eb : Nat) (W : World) (r : Nat) : Prop := r = nx ∨ r = nx + 1 ∨ r = eb + 2 ∨ ∃ v, (Boxed W nx 32 v ∨ Boxed W (eb + 2) 32 v) ∧ v.ownBlock = some r
structure EJ (w : World) (A : Option Addr) (n c S : Nat) (a z : Int) (E : List Ed) (s : ByteArray) (g : Nat) (RA : Nat → Option Addr) (rc : Nat → Nat) (eb nx p : Nat) (vout : Value) (out : List Int) (vnext : Value) (next : List Int) (inl : List Bool) (W : World) : Prop where
  core : EC w A n c S a z E s g RA rc eb p vout out W
  nbx : Boxed W nx 32 vnext
  nrow : W.ownsRow (nx + 5) 3 1 vnext next.length (numsV .i64 next)
  gin : Blk W (nx + 1) 4 (inl.map Value.bool)
  ibx : Boxed W (nx + 2) 44 (.slice (some ⟨nx + 1, 0, none⟩) S S)
  sep : ∀ b, vnext.ownBlock = some b → vout.ownBlock ≠ some b
  nlo : eb + 2 < nx
  nsz : nx + 5 ≤ W.heap.size
section
variable {w : World} {A : Option Addr} {n c S : Nat} {a z : Int} {E : List Ed} {s : ByteArray} {g : Nat} {RA : Nat → Option Addr} {rc : Nat → Nat} {eb nx p : Nat} {vout vnext : Value} {out next : List Int} {inl : List Bool} {W W' : World}
theorem EJ.xe (h : EJ w A n c S a z E s g RA rc eb nx p vout out vnext next inl W) (r : Nat) : XE nx eb W r ↔ r = nx ∨ r = nx + 1 ∨ r = eb + 2 ∨ vnext.ownBlock = some r ∨ vout.ownBlock = some r := by
  unfold XE
  constructor
  · rintro (h9 | h9 | h9 | ⟨v, hv | hv, hb⟩)
    · exact .inl h9
    · exact .inr (.inl h9)
    · exact .inr (.inr (.inl h9))
    · have e : v = vnext := by
        have := hv.symm.trans h.nbx
        simpa using this
      exact .inr (.inr (.inr (.inl (e ▸ hb))))
    · have e : v = vout := by
        have := hv.symm.trans h.core.obx
        simpa using this
      exact .inr (.inr (.inr (.inr (e ▸ hb))))
  · rintro (h9 | h9 | h9 | h9 | h9)
    · exact .inl h9
    · exact .inr (.inl h9)
    · exact .inr (.inr (.inl h9))
    · exact .inr (.inr (.inr ⟨_, .inl h.nbx, h9⟩))
    · exact .inr (.inr (.inr ⟨_, .inr h.core.obx, h9⟩))
theorem EJ.nrl (h : EJ w A n c S a z E s g RA rc eb nx p vout out vnext next inl W) {b : Nat} (hb : vnext.ownBlock = some b) : nx + 5 ≤ b ∧ b < W.heap.size := h.nrow.lt b hb
/-- the row of the places is none of the round's blocks -/
theorem EJ.ofar (h : EJ w A n c S a z E s g RA rc eb nx p vout out vnext next inl W) {b : Nat} (hb : vout.ownBlock = some b) : b ≠ nx ∧ b ≠ nx + 1 ∧ b ≠ nx + 2 := by
  refine ⟨fun e => ?_, fun e => ?_, fun e => ?_⟩
  · subst e; exact (h.nbx.not_row (by decide) h.core.orow) hb.symm
  · subst e
    rcases h.core.orow.2 with ⟨hv, _⟩ | ⟨g', cap, cur, hv, _, hg, _⟩
    · rw [hv] at hb; simp [Value.ownBlock] at hb
    · rw [hv] at hb
      obtain rfl : g' = nx + 1 := by simpa [Value.ownBlock] using hb
      have := hg.symm.trans h.gin
      simp at this
  · subst e; exact (h.ibx.not_row (by decide) h.core.orow) hb.symm
theorem EJ.grown (h : EJ w A n c S a z E s g RA rc eb nx p vout out vnext next inl W) {row : Option Nat} (hg : W.grownBy W' row) (hr : ∀ r, row = some r → nx + 5 ≤ r ∧ vnext.ownBlock ≠ some r ∧ vout.ownBlock ≠ some r) :
    EJ w A n c S a z E s g RA rc eb nx p vout out vnext next inl W' := by
  have hnl := h.nlo
  have hns := h.nsz
  have old : ∀ b, b < nx + 5 → W'.heap[b]? = W.heap[b]? := fun b hb => hg.block b (by omega) (fun e => by have := (hr b e.symm).1; omega)
  exact ⟨h.core.grown hg (fun r e => ⟨by have := (hr r e).1; omega, (hr r e).2.2⟩), (old _ (by omega)).trans h.nbx, own_move h.nrow (fun b o hb ho _ => (hg.block b (h.nrl hb).2 (fun e => (hr b e.symm).2.1 hb)).trans ho),
    (old _ (by omega)).trans h.gin, (old _ (by omega)).trans h.ibx, h.sep, h.nlo, Nat.le_trans h.nsz hg.size⟩
theorem EJ.mark (h : EJ w A n c S a z E s g RA rc eb nx p vout out vnext next inl W) (j : Nat) : EJ w A n c S a z E s g RA rc eb nx p vout out vnext next (inl.set j true) (W.setCell ⟨nx + 1, j, none⟩ (.bool true)) := by
  have hnl := h.nlo
  have hns := h.nsz
  have hg := grownBy_setCell W (nx + 1) j (.bool true)
  have old : ∀ b, b ≠ nx + 1 → (W.setCell ⟨nx + 1, j, none⟩ (.bool true)).heap[b]? = W.heap[b]? := fun b hb => Below.heap_setCell _ _ _ b hb
  refine ⟨h.core.grown hg (fun r e => by cases e; exact ⟨by omega, fun e => (h.ofar e).2.1 rfl⟩), (old _ (by omega)).trans h.nbx, own_move h.nrow (fun b o hb ho _ => (old b (by have := (h.nrl hb).1; omega)).trans ho),
    ?_, (old _ (by omega)).trans h.ibx, h.sep, h.nlo, by simpa using hns⟩
  have := h.gin.set j (.bool true)
  rw [List.map_set]; exact this
theorem EJ.appOut (h : EJ w A n c S a z E s g RA rc eb nx p vout out vnext next inl W) {g5 c5 : Nat} {x : Int} (hg : W.grownBy W' vout.ownBlock)
    (hown : W'.ownsRow (eb + 3) 3 1 (.slice (some ⟨g5, 0, none⟩) (out.length + 1) c5) (out.length + 1) (numsV .i64 out ++ [.int .i64 x])) (hat : vout.ownBlock = some g5 ∨ g5 = W.heap.size) :
    EJ w A n c S a z E s g RA rc eb nx p (.slice (some ⟨g5, 0, none⟩) (out.length + 1) c5) (out ++ [x]) vnext next inl (W'.setCell ⟨eb + 2, 0, none⟩ (.slice (some ⟨g5, 0, none⟩) (out.length + 1) c5)) := by
  have hnl := h.nlo
  have hns := h.nsz
  have hsz := hg.size
  have old : ∀ b, b < W.heap.size → b ≠ eb + 2 → vout.ownBlock ≠ some b → (W'.setCell ⟨eb + 2, 0, none⟩ (.slice (some ⟨g5, 0, none⟩) (out.length + 1) c5)).heap[b]? = W.heap[b]? := fun b hb h1 h2 => (Below.heap_setCell _ _ _ b h1).trans (hg.block b hb (fun e => h2 e.symm))
  refine ⟨h.core.app hg hown, (old _ (by omega) (by omega) (fun e => (h.ofar e).1 rfl)).trans h.nbx, own_move h.nrow (fun b o hb ho _ => (old b (h.nrl hb).2 (by have := (h.nrl hb).1; omega) (h.sep b hb)).trans ho),
    (old _ (by omega) (by omega) (fun e => (h.ofar e).2.1 rfl)).trans h.gin, (old _ (by omega) (by omega) (fun e => (h.ofar e).2.2 rfl)).trans h.ibx, fun b hb e => ?_, h.nlo, by simp; omega⟩
  obtain rfl : g5 = b := by simpa [Value.ownBlock] using e
  rcases hat with hat | hat
  · exact h.sep _ hb hat
  · have := (h.nrl hb).2; omega
theorem EJ.appNext (h : EJ w A n c S a z E s g RA rc eb nx p vout out vnext next inl W) {g5 c5 : Nat} {x : Int} (hg : W.grownBy W' vnext.ownBlock)
    (hown : W'.ownsRow (nx + 5) 3 1 (.slice (some ⟨g5, 0, none⟩) (next.length + 1) c5) (next.length + 1) (numsV .i64 next ++ [.int .i64 x])) (hat : vnext.ownBlock = some g5 ∨ g5 = W.heap.size) :
    EJ w A n c S a z E s g RA rc eb nx p vout out (.slice (some ⟨g5, 0, none⟩) (next.length + 1) c5) (next ++ [x]) inl (W'.setCell ⟨nx, 0, none⟩ (.slice (some ⟨g5, 0, none⟩) (next.length + 1) c5)) := by
  have hnl := h.nlo
  have hns := h.nsz
  have hsz := hg.size
  have hnb : ∀ b, vnext.ownBlock = some b → nx + 5 ≤ b := fun b hb => (h.nrl hb).1
  have old : ∀ b, b < W.heap.size → b ≠ nx → vnext.ownBlock ≠ some b → (W'.setCell ⟨nx, 0, none⟩ (.slice (some ⟨g5, 0, none⟩) (next.length + 1) c5)).heap[b]? = W.heap[b]? := fun b hb h1 h2 => (Below.heap_setCell _ _ _ b h1).trans (hg.block b hb (fun e => h2 e.symm))
  have hnbx : Boxed W' nx 32 vnext := (hg.block _ (by omega) (fun e => by have := hnb _ e.symm; omega)).trans h.nbx
  have hcore : EC w A n c S a z E s g RA rc eb p vout out W' := h.core.grown hg (fun r e => ⟨by have := hnb _ e; omega, h.sep r e⟩)
  refine ⟨hcore.grown (grownBy_setCell W' nx 0 _) (fun r e => by cases e; exact ⟨by omega, fun e => (h.ofar e).1 rfl⟩), hnbx.set _, own_move (by rw [List.length_append, numsV_snoc]; exact hown) (fun b o hb ho _ => (Below.heap_setCell _ _ _ b (by have := (hown.lt b hb).1; simp only; omega)).trans ho),
    (old _ (by omega) (by omega) (fun e => by have := hnb _ e; omega)).trans h.gin, (old _ (by omega) (by omega) (fun e => by have := hnb _ e; omega)).trans h.ibx, fun b hb e => ?_, h.nlo, by simp; omega⟩
  obtain rfl : g5 = b := by simpa [Value.ownBlock] using hb
  rcases hat with hat | hat
  · exact h.sep _ hat e
  · have := (h.core.orl e).2; omega
end
end Go.Proofs.Ytfjgfabochiflaa
/- A round of nfa.Ends: what it keeps. -/
namespace Go.Proofs.Ytfjgfabochiflaa
open Go.RowKit

section
variable {w : World} {A : Option Addr} {n c S : Nat} {a z : Int} {E : List Ed} {s : ByteArray} {g : Nat} {RA : Nat → Option Addr} {rc : Nat → Nat} {eb nx p : Nat} {vout vout' vnext vnext' : Value} {out out' next next' : List Int} {inl inl' : List Bool} {W W' : World}
theorem keep_step (h : EJ w A n c S a z E s g RA rc eb nx p vout out vnext next inl W) (h' : EJ w A n c S a z E s g RA rc eb nx p vout' out' vnext' next' inl' W') (hs : W.heap.size ≤ W'.heap.size)
    (h1 : ∀ b, b < W.heap.size → vnext'.ownBlock = some b → vnext.ownBlock = some b) (h2 : ∀ b, b < W.heap.size → vout'.ownBlock = some b → vout.ownBlock = some b)
    (h3 : ∀ b, b < W.heap.size → b ≠ nx → b ≠ nx + 1 → b ≠ eb + 2 → vnext.ownBlock ≠ some b → vout.ownBlock ≠ some b → W'.heap[b]? = W.heap[b]?) : Keep (XE nx eb) W W' := by
  refine ⟨hs, fun b hb hx => (h.xe b).2 ?_, fun b o ho _ hx => ?_⟩
  · rcases (h'.xe b).1 hx with h9 | h9 | h9 | h9 | h9
    · exact .inl h9
    · exact .inr (.inl h9)
    · exact .inr (.inr (.inl h9))
    · exact .inr (.inr (.inr (.inl (h1 b hb h9))))
    · exact .inr (.inr (.inr (.inr (h2 b hb h9))))
  · have hn := fun h9 => hx ((h.xe b).2 h9)
    exact (h3 b (Array.getElem?_eq_some_iff.1 ho).1 (fun e => hn (.inl e)) (fun e => hn (.inr (.inl e))) (fun e => hn (.inr (.inr (.inl e)))) (fun e => hn (.inr (.inr (.inr (.inl e))))) (fun e => hn (.inr (.inr (.inr (.inr e)))))).trans ho

structure BJ (w : World) (A : Option Addr) (n c S : Nat) (a z : Int) (E : List Ed) (s : ByteArray) (g : Nat) (RA : Nat → Option Addr) (rc : Nat → Nat) (eb nx p : Nat) (Wst : World) (vout : Value) (out : List Int) (vnext : Value) (next : List Int) (inl : List Bool) (W : World) : Prop where
  ej : EJ w A n c S a z E s g RA rc eb nx p vout out vnext next inl W
  keep : Keep (XE nx eb) Wst W
  kf : KeepsOthers Wst W
variable {Wst : World}
theorem BJ.start (h : EJ w A n c S a z E s g RA rc eb nx p vout out vnext next inl W) : BJ w A n c S a z E s g RA rc eb nx p W vout out vnext next inl W := ⟨h, Keep.refl _ _, KeepsOthers.refl _⟩
theorem BJ.alloc (h : BJ w A n c S a z E s g RA rc eb nx p Wst vout out vnext next inl W) (o : Obj) : BJ w A n c S a z E s g RA rc eb nx p Wst vout out vnext next inl (W.alloc o) := by
  have hj := h.ej.grown (World.grownBy_alloc W o none) (fun r e => by cases e)
  exact ⟨hj, h.keep.trans (keep_step h.ej hj (by simp) (fun _ _ h => h) (fun _ _ h => h) (fun b hb _ _ _ _ _ => Below.heap_alloc _ _ _ hb)), h.kf.trans (KeepsOthers.alloc _ _)⟩
theorem BJ.drew (h : BJ w A n c S a z E s g RA rc eb nx p Wst vout out vnext next inl W) : BJ w A n c S a z E s g RA rc eb nx p Wst vout out vnext next inl W.drew := by
  have hj : EJ w A n c S a z E s g RA rc eb nx p vout out vnext next inl W.drew := h.ej.grown (row := none) ⟨rfl, rfl, rfl, Nat.le_refl _, fun _ _ _ => rfl⟩ (fun r e => by cases e)
  exact ⟨hj, h.keep.trans (keep_step h.ej hj (Nat.le_refl _) (fun _ _ h => h) (fun _ _ h => h) (fun b hb _ _ _ _ _ => rfl)), h.kf.trans ⟨Nat.le_refl _, fun _ _ h _ => h⟩⟩
theorem BJ.mark (h : BJ w A n c S a z E s g RA rc eb nx p Wst vout out vnext next inl W) (j : Nat) : BJ w A n c S a z E s g RA rc eb nx p Wst vout out vnext next (inl.set j true) (W.setCell ⟨nx + 1, j, none⟩ (.bool true)) := by
  have hj := h.ej.mark j
  exact ⟨hj, h.keep.trans (keep_step h.ej hj (by simp) (fun _ _ h => h) (fun _ _ h => h) (fun b hb _ h9 _ _ _ => Below.heap_setCell _ _ _ b h9)), h.kf.trans (KeepsOthers.setCell _ _ _)⟩
theorem own_cells {w : World} {base n size : Nat} {e : TypeId} {v : Value} {xs : List Value} (h : w.ownsRow base e size v n xs) (j : Nat) (o : Obj) (hj : v.ownBlock = some j) (ho : w.heap[j]? = some o) : o.isCells = true := by
  rcases h.2 with ⟨hv, _⟩ | ⟨g', cap, cur, hv, _, hg, _⟩
  · rw [hv] at hj; simp [Value.ownBlock] at hj
  · rw [hv] at hj
    obtain rfl : g' = j := by simpa [Value.ownBlock] using hj
    rw [hg] at ho
    cases ho
    rfl
theorem BJ.appOut (h : BJ w A n c S a z E s g RA rc eb nx p Wst vout out vnext next inl W) {g5 c5 : Nat} {x : Int} (hg : W.grownBy W' vout.ownBlock)
    (hown : W'.ownsRow (eb + 3) 3 1 (.slice (some ⟨g5, 0, none⟩) (out.length + 1) c5) (out.length + 1) (numsV .i64 out ++ [.int .i64 x])) (hat : vout.ownBlock = some g5 ∨ g5 = W.heap.size) :
    BJ w A n c S a z E s g RA rc eb nx p Wst (.slice (some ⟨g5, 0, none⟩) (out.length + 1) c5) (out ++ [x]) vnext next inl (W'.setCell ⟨eb + 2, 0, none⟩ (.slice (some ⟨g5, 0, none⟩) (out.length + 1) c5)) := by
  have hj := h.ej.appOut hg hown hat
  refine ⟨hj, h.keep.trans (keep_step h.ej hj (by simp; exact hg.size) (fun _ _ h => h) (fun b hb e => ?_) (fun b hb _ _ h9 _ h8 => (Below.heap_setCell _ _ _ b h9).trans (hg.block b hb (fun e => h8 e.symm)))), (h.kf.trans (KeepsOthers.of_grownBy hg (fun j o hj ho => own_cells h.ej.core.orow j o hj ho))).trans (KeepsOthers.setCell _ _ _)⟩
  obtain rfl : g5 = b := by simpa [Value.ownBlock] using e
  rcases hat with hat | hat
  · exact hat
  · omega
theorem BJ.appNext (h : BJ w A n c S a z E s g RA rc eb nx p Wst vout out vnext next inl W) {g5 c5 : Nat} {x : Int} (hg : W.grownBy W' vnext.ownBlock)
    (hown : W'.ownsRow (nx + 5) 3 1 (.slice (some ⟨g5, 0, none⟩) (next.length + 1) c5) (next.length + 1) (numsV .i64 next ++ [.int .i64 x])) (hat : vnext.ownBlock = some g5 ∨ g5 = W.heap.size) :
    BJ w A n c S a z E s g RA rc eb nx p Wst vout out (.slice (some ⟨g5, 0, none⟩) (next.length + 1) c5) (next ++ [x]) inl (W'.setCell ⟨nx, 0, none⟩ (.slice (some ⟨g5, 0, none⟩) (next.length + 1) c5)) := by
  have hj := h.ej.appNext hg hown hat
  refine ⟨hj, h.keep.trans (keep_step h.ej hj (by simp; exact hg.size) (fun b hb e => ?_) (fun _ _ h => h) (fun b hb h9 _ _ h8 _ => (Below.heap_setCell _ _ _ b h9).trans (hg.block b hb (fun e => h8 e.symm)))), (h.kf.trans (KeepsOthers.of_grownBy hg (fun j o hj ho => own_cells h.ej.nrow j o hj ho))).trans (KeepsOthers.setCell _ _ _)⟩
  obtain rfl : g5 = b := by simpa [Value.ownBlock] using e
  rcases hat with hat | hat
  · exact hat
  · omega
theorem EJ.ginCell (h : EJ w A n c S a z E s g RA rc eb nx p vout out vnext next inl W) {j : Nat} (hj : j < inl.length) : W.cell? ⟨nx + 1, j, none⟩ = some (.bool (inl.getD j false)) := by
  rw [h.gin.cell]; simp [hj]
/-- it abides what the iterator does -/
theorem EJ.abide (h : EJ w A n c S a z E s g RA rc eb nx p vout out vnext next inl W) {row : Option Nat} (hg : W.grownBy W' row) {B0 : Nat} (hB : nx + 5 ≤ B0) (hr : ∀ r, row = some r → B0 ≤ r ∧ ¬ XE nx eb W r) :
    EJ w A n c S a z E s g RA rc eb nx p vout out vnext next inl W' ∧ ∀ r, XE nx eb W' r → XE nx eb W r := by
  have hj := h.grown hg (fun r e => ⟨by have := (hr r e).1; omega, fun h9 => (hr r e).2 ((h.xe r).2 (.inr (.inr (.inr (.inl h9))))), fun h9 => (hr r e).2 ((h.xe r).2 (.inr (.inr (.inr (.inr h9)))))⟩)
  exact ⟨hj, fun r hx => (h.xe r).2 ((hj.xe r).1 hx)⟩
theorem EJ.xcells (h : EJ w A n c S a z E s g RA rc eb nx p vout out vnext next inl W) (r : Nat) (hx : XE nx eb W r) : ∃ o, W.heap[r]? = some o ∧ o.isCells = true := by
  rcases (h.xe r).1 hx with rfl | rfl | rfl | h9 | h9
  · exact ⟨_, h.nbx, rfl⟩
  · exact ⟨_, h.gin, rfl⟩
  · exact ⟨_, h.core.obx, rfl⟩
  · obtain ⟨o, ho⟩ : ∃ o, W.heap[r]? = some o := ⟨_, Array.getElem?_eq_getElem (h.nrl h9).2⟩
    exact ⟨o, ho, own_cells h.nrow r o h9 ho⟩
  · obtain ⟨o, ho⟩ : ∃ o, W.heap[r]? = some o := ⟨_, Array.getElem?_eq_getElem (h.core.orl h9).2⟩
    exact ⟨o, ho, own_cells h.core.orow r o h9 ho⟩
end
end Go.Proofs.Ytfjgfabochiflaa
