/- A round of nfa.Ends: what it keeps. -/
import Derived.Test.YtfjhcoeehjephaaEnMemMd
namespace Go.Proofs.Ytfjhcoeehjephaa
open Go.RowKit

section
variable {w : World} {A : Option Addr} {n c S : Nat} {a z : Int} {E : List Ed} {s : ByteArray} {g : Nat} {RA : Nat → Option Addr} {rc : Nat → Nat} {eb nx p : Nat} {vout vout' vnext vnext' : Value} {out out' next next' : List Int} {inl inl' : List Bool} {W W' : World}
theorem keep_step (h : EJ w A n c S a z E s g RA rc eb nx p vout out vnext next inl W) (h' : EJ w A n c S a z E s g RA rc eb nx p vout' out' vnext' next' inl' W') (hs : W.heap.size ≤ W'.heap.size)
    (h1 : ∀ b, b < W.heap.size → vnext'.ownBlock = some b → vnext.ownBlock = some b) (h2 : ∀ b, b < W.heap.size → vout'.ownBlock = some b → vout.ownBlock = some b)
    (h3 : ∀ b, b < W.heap.size → b ≠ nx → b ≠ nx + 1 → b ≠ eb + 2 → vnext.ownBlock ≠ some b → vout.ownBlock ≠ some b → W'.heap[b]? = W.heap[b]?) : Keep (XE nx eb) W W' := by
  refine ⟨hs, fun b hb hx => (h.xe b).2 ?_, fun b o ho _ hx => ?_⟩
  · rcases (h'.xe b).1 hx with h9 | h9 | h9 | h9 | h9
    · exact .inl h9
    · exact .inr (.inl h9)
    · exact .inr (.inr (.inl h9))
    · exact .inr (.inr (.inr (.inl (h1 b hb h9))))
    · exact .inr (.inr (.inr (.inr (h2 b hb h9))))
  · have hn := fun h9 => hx ((h.xe b).2 h9)
    exact (h3 b (Array.getElem?_eq_some_iff.1 ho).1 (fun e => hn (.inl e)) (fun e => hn (.inr (.inl e))) (fun e => hn (.inr (.inr (.inl e)))) (fun e => hn (.inr (.inr (.inr (.inl e))))) (fun e => hn (.inr (.inr (.inr (.inr e)))))).trans ho

structure BJ (w : World) (A : Option Addr) (n c S : Nat) (a z : Int) (E : List Ed) (s : ByteArray) (g : Nat) (RA : Nat → Option Addr) (rc : Nat → Nat) (eb nx p : Nat) (Wst : World) (vout : Value) (out : List Int) (vnext : Value) (next : List Int) (inl : List Bool) (W : World) : Prop where
  ej : EJ w A n c S a z E s g RA rc eb nx p vout out vnext next inl W
  keep : Keep (XE nx eb) Wst W
  kf : KeepsOthers Wst W
variable {Wst : World}
theorem BJ.start (h : EJ w A n c S a z E s g RA rc eb nx p vout out vnext next inl W) : BJ w A n c S a z E s g RA rc eb nx p W vout out vnext next inl W := ⟨h, Keep.refl _ _, KeepsOthers.refl _⟩
theorem BJ.alloc (h : BJ w A n c S a z E s g RA rc eb nx p Wst vout out vnext next inl W) (o : Obj) : BJ w A n c S a z E s g RA rc eb nx p Wst vout out vnext next inl (W.alloc o) := by
  have hj := h.ej.grown (World.grownBy_alloc W o none) (fun r e => by cases e)
  exact ⟨hj, h.keep.trans (keep_step h.ej hj (by simp) (fun _ _ h => h) (fun _ _ h => h) (fun b hb _ _ _ _ _ => Below.heap_alloc _ _ _ hb)), h.kf.trans (KeepsOthers.alloc _ _)⟩
theorem BJ.drew (h : BJ w A n c S a z E s g RA rc eb nx p Wst vout out vnext next inl W) : BJ w A n c S a z E s g RA rc eb nx p Wst vout out vnext next inl W.drew := by
  have hj : EJ w A n c S a z E s g RA rc eb nx p vout out vnext next inl W.drew := h.ej.grown (row := none) ⟨rfl, rfl, rfl, Nat.le_refl _, fun _ _ _ => rfl⟩ (fun r e => by cases e)
  exact ⟨hj, h.keep.trans (keep_step h.ej hj (Nat.le_refl _) (fun _ _ h => h) (fun _ _ h => h) (fun b hb _ _ _ _ _ => rfl)), h.kf.trans ⟨Nat.le_refl _, fun _ _ h _ => h⟩⟩
theorem BJ.mark (h : BJ w A n c S a z E s g RA rc eb nx p Wst vout out vnext next inl W) (j : Nat) : BJ w A n c S a z E s g RA rc eb nx p Wst vout out vnext next (inl.set j true) (W.setCell ⟨nx + 1, j, none⟩ (.bool true)) := by
  have hj := h.ej.mark j
  exact ⟨hj, h.keep.trans (keep_step h.ej hj (by simp) (fun _ _ h => h) (fun _ _ h => h) (fun b hb _ h9 _ _ _ => Below.heap_setCell _ _ _ b h9)), h.kf.trans (KeepsOthers.setCell _ _ _)⟩
theorem own_cells {w : World} {base n size : Nat} {e : TypeId} {v : Value} {xs : List Value} (h : w.ownsRow base e size v n xs) (j : Nat) (o : Obj) (hj : v.ownBlock = some j) (ho : w.heap[j]? = some o) : o.isCells = true := by
  rcases h.2 with ⟨hv, _⟩ | ⟨g', cap, cur, hv, _, hg, _⟩
  · rw [hv] at hj; simp [Value.ownBlock] at hj
  · rw [hv] at hj
    obtain rfl : g' = j := by simpa [Value.ownBlock] using hj
    rw [hg] at ho
    cases ho
    rfl
theorem BJ.appOut (h : BJ w A n c S a z E s g RA rc eb nx p Wst vout out vnext next inl W) {g5 c5 : Nat} {x : Int} (hg : W.grownBy W' vout.ownBlock)
    (hown : W'.ownsRow (eb + 3) 3 1 (.slice (some ⟨g5, 0, none⟩) (out.length + 1) c5) (out.length + 1) (numsV .i64 out ++ [.int .i64 x])) (hat : vout.ownBlock = some g5 ∨ g5 = W.heap.size) :
    BJ w A n c S a z E s g RA rc eb nx p Wst (.slice (some ⟨g5, 0, none⟩) (out.length + 1) c5) (out ++ [x]) vnext next inl (W'.setCell ⟨eb + 2, 0, none⟩ (.slice (some ⟨g5, 0, none⟩) (out.length + 1) c5)) := by
  have hj := h.ej.appOut hg hown hat
  refine ⟨hj, h.keep.trans (keep_step h.ej hj (by simp; exact hg.size) (fun _ _ h => h) (fun b hb e => ?_) (fun b hb _ _ h9 _ h8 => (Below.heap_setCell _ _ _ b h9).trans (hg.block b hb (fun e => h8 e.symm)))), (h.kf.trans (KeepsOthers.of_grownBy hg (fun j o hj ho => own_cells h.ej.core.orow j o hj ho))).trans (KeepsOthers.setCell _ _ _)⟩
  obtain rfl : g5 = b := by simpa [Value.ownBlock] using e
  rcases hat with hat | hat
  · exact hat
  · omega
theorem BJ.appNext (h : BJ w A n c S a z E s g RA rc eb nx p Wst vout out vnext next inl W) {g5 c5 : Nat} {x : Int} (hg : W.grownBy W' vnext.ownBlock)
    (hown : W'.ownsRow (nx + 5) 3 1 (.slice (some ⟨g5, 0, none⟩) (next.length + 1) c5) (next.length + 1) (numsV .i64 next ++ [.int .i64 x])) (hat : vnext.ownBlock = some g5 ∨ g5 = W.heap.size) :
    BJ w A n c S a z E s g RA rc eb nx p Wst vout out (.slice (some ⟨g5, 0, none⟩) (next.length + 1) c5) (next ++ [x]) inl (W'.setCell ⟨nx, 0, none⟩ (.slice (some ⟨g5, 0, none⟩) (next.length + 1) c5)) := by
  have hj := h.ej.appNext hg hown hat
  refine ⟨hj, h.keep.trans (keep_step h.ej hj (by simp; exact hg.size) (fun b hb e => ?_) (fun _ _ h => h) (fun b hb h9 _ _ h8 _ => (Below.heap_setCell _ _ _ b h9).trans (hg.block b hb (fun e => h8 e.symm)))), (h.kf.trans (KeepsOthers.of_grownBy hg (fun j o hj ho => own_cells h.ej.nrow j o hj ho))).trans (KeepsOthers.setCell _ _ _)⟩
  obtain rfl : g5 = b := by simpa [Value.ownBlock] using e
  rcases hat with hat | hat
  · exact hat
  · omega
theorem EJ.ginCell (h : EJ w A n c S a z E s g RA rc eb nx p vout out vnext next inl W) {j : Nat} (hj : j < inl.length) : W.cell? ⟨nx + 1, j, none⟩ = some (.bool (inl.getD j false)) := by
  rw [h.gin.cell]; simp [hj]
/-- it abides what the iterator does -/
theorem EJ.abide (h : EJ w A n c S a z E s g RA rc eb nx p vout out vnext next inl W) {row : Option Nat} (hg : W.grownBy W' row) {B0 : Nat} (hB : nx + 5 ≤ B0) (hr : ∀ r, row = some r → B0 ≤ r ∧ ¬ XE nx eb W r) :
    EJ w A n c S a z E s g RA rc eb nx p vout out vnext next inl W' ∧ ∀ r, XE nx eb W' r → XE nx eb W r := by
  have hj := h.grown hg (fun r e => ⟨by have := (hr r e).1; omega, fun h9 => (hr r e).2 ((h.xe r).2 (.inr (.inr (.inr (.inl h9))))), fun h9 => (hr r e).2 ((h.xe r).2 (.inr (.inr (.inr (.inr h9)))))⟩)
  exact ⟨hj, fun r hx => (h.xe r).2 ((hj.xe r).1 hx)⟩
theorem EJ.xcells (h : EJ w A n c S a z E s g RA rc eb nx p vout out vnext next inl W) (r : Nat) (hx : XE nx eb W r) : ∃ o, W.heap[r]? = some o ∧ o.isCells = true := by
  rcases (h.xe r).1 hx with rfl | rfl | rfl | h9 | h9
  · exact ⟨_, h.nbx, rfl⟩
  · exact ⟨_, h.gin, rfl⟩
  · exact ⟨_, h.core.obx, rfl⟩
  · obtain ⟨o, ho⟩ : ∃ o, W.heap[r]? = some o := ⟨_, Array.getElem?_eq_getElem (h.nrl h9).2⟩
    exact ⟨o, ho, own_cells h.nrow r o h9 ho⟩
  · obtain ⟨o, ho⟩ : ∃ o, W.heap[r]? = some o := ⟨_, Array.getElem?_eq_getElem (h.core.orl h9).2⟩
    exact ⟨o, ho, own_cells h.core.orow r o h9 ho⟩
end
end Go.Proofs.Ytfjhcoeehjephaa
