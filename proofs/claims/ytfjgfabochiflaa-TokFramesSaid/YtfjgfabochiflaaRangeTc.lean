/- A range over an iterator that keeps cells of its own between the rounds: which blocks are the body's is said by X. -/
import Derived.RangeFuncWrites
import Derived.RangeFuncBox
import Derived.RangeFuncLeaves
import Derived.Shelf.Abstract
import Derived.WalkKit
import Derived.OwnWalkIn
import Derived.TacticsInMore
import Derived.LoopNIn
import Derived.LoopIn
import Derived.Maps.AppendAt
import Derived.Sort.QuietIn
import Derived.Test.YtfjgfabochiflaaLeavingTc
namespace Go.Proofs.Ytfjgfabochiflaa
open Go.RowKit Go.Shelf

/-- what a round keeps: all cells that are not the body's; and the body takes no old block for its own -/
structure Keep (X : World → Nat → Prop) (W W' : World) : Prop where
  size : W.heap.size ≤ W'.heap.size
  mine : ∀ b, b < W.heap.size → X W' b → X W b
  same : ∀ b o, W.heap[b]? = some o → o.isCells = true → ¬ X W b → W'.heap[b]? = some o
theorem Keep.trans {X : World → Nat → Prop} {A B C : World} (h : Keep X A B) (k : Keep X B C) : Keep X A C :=
  ⟨Nat.le_trans h.size k.size, fun b hb hx => h.mine b hb (k.mine b (Nat.lt_of_lt_of_le hb h.size) hx), fun b o ho hc hx => k.same b o (h.same b o ho hc hx) hc (fun h9 => hx (h.mine b (Array.getElem?_eq_some_iff.1 ho).1 h9))⟩
/-- it abides all steps that turn no block below B and none of the body's -/
def Abides (X : World → Nat → Prop) (B : Nat) (J : List Int → World → Prop) : Prop :=
  ∀ pre W W' row, J pre W → W.grownBy W' row → (∀ r, row = some r → B ≤ r ∧ ¬ X W r) → J pre W' ∧ ∀ r, X W' r → X W r
/-- an iterator, begun where the heap has B blocks -/
def IterOk (n : Nat) (gf : Nat) (lb : Array Value) (X : World → Nat → Prop) (Nx : List Int → Int → Prop) (Sx : List Int → Prop) (w : World) : Prop :=
  ∀ (l : Nat) (J : List Int → World → Prop) (W1 : World), Below w.heap.size w W1 → (∀ r, X W1 r → X w r) → Abides X W1.heap.size J → (∀ pre W, J pre W → ∀ r, X W r → r < W.heap.size) →
    (∀ pre x W, J pre W → Nx pre x → YieldAt Fence.wide (n - 1) Try.prog l #[.int .i64 x] W fun e W' => e = .returned (.bool true) ∧ J (pre ++ [x]) W' ∧ Keep X W W') → J [] W1 →
    CallsIn Fence.wide n Try.prog gf (#[.func (.yield l) #[] #[]] ++ lb) W1 fun e W' => (∃ v, e = .returned v) ∧ ∃ xs, Sx xs ∧ J xs W'
/-- how a round is left -/
def roundPost (X : World → Nat → Prop) (B : Nat) (I : List Int → World → Prop) (xs : List Int) (W : World) : Exit → Act → World → Prop
  | .normal, _, W' => KeepsFrom B W W' ∧ Keep X W W' ∧ I xs W'
  | _, _, _ => False

theorem range_law {g : Operand} {p : Tmp} {assign body : Code} {Q : Exit → Act → World → Prop} {a : Act} {w : World} (n : Nat) (h1 : 1 ≤ n) {gf : Nat} {lb : Array Value}
    (hg : a.eval g = .func (.func gf) #[] lb) (eg : ∀ args w, (callFunc gf args).run Try.prog w = .ok (.enter gf args) w)
    (X : World → Nat → Prop) (Nx : List Int → Int → Prop) (Sx : List Int → Prop) (hit : IterOk (n - 1) gf lb X Nx Sx w) (I : List Int → World → Prop)
    (hI : ∀ pre W W' row, I pre W → W.grownBy W' row → (∀ r, row = some r → w.heap.size ≤ r ∧ ¬ X W r) → I pre W' ∧ ∀ r, X W' r → X W r)
    (hX : ∀ pre W, I pre W → ∀ r, X W r → ∃ o, W.heap[r]? = some o ∧ o.isCells = true) (h0 : I [] w) (a₁ : Int → Act)
    (hassign : ∀ (l : Nat) (x : Int) (W : World) (K : Act → World → Prop), K (a₁ x) W →
      assign.wpIn (Fence.wide.inRound l) (n - 1 - 1) Try.prog (Exit.then K (fun _ _ _ => False)) { tmps := ((#[p] : Array Tmp).zip #[Value.int .i64 x]).foldl (fun t (p, v) => t.setIfInBounds p v) a.tmps, defers := [] } W)
    (hbody : ∀ (l : Nat) (pre : List Int) (x : Int) (W : World), I pre W → Nx pre x → body.wpIn (Fence.wide.inRound l) (n - 1 - 1) Try.prog (roundPost X w.heap.size I (pre ++ [x]) W) (a₁ x) W)
    (hdone : ∀ (D : Nat) (xs : List Int) (W : World), w.heap.size ≤ D → Sx xs → I xs W → W.heap[D]? = some (.deferred (some [])) → Q .normal { a with defers := { target := .collected D, args := #[] } :: a.defers } W) :
    (Code.rangeFunc g #[p] assign body).wpIn Fence.wide n Try.prog Q a w := by
  have hcell : ∀ {pre : List Int} {W : World} {l : Nat} {o : Obj}, I pre W → W.heap[l]? = some o → o.isCells = false → ¬ X W l := fun hi hl ho hx => by
    obtain ⟨o', h2, h3⟩ := hX _ _ hi _ hx
    rw [hl] at h2
    cases h2
    rw [ho] at h3
    cases h3
  have hput : ∀ {pre : List Int} {W : World} {l : Nat} {o : Obj} (o' : Obj), I pre W → w.heap.size ≤ l → W.heap[l]? = some o → o.isCells = false → I pre (W.putObj l o') ∧ Keep X W (W.putObj l o') := fun {pre W l o} o' hi hwl hl ho => by
    have hs := hI _ _ _ _ hi (grownBy_putObj' W l o') (fun r e => by cases e; exact ⟨hwl, hcell hi hl ho⟩)
    refine ⟨hs.1, (grownBy_putObj' W l o').size, fun b _ hx => hs.2 b hx, fun b o2 hb hc _ => ?_⟩
    rw [World.putObj_heap_other (fun e => ?_)]
    · exact hb
    · subst e
      rw [hl] at hb
      cases hb
      rw [ho] at hc
      cases hc
  refine wpIn_rangeFunc (fun fn hfn => ?_)
  obtain ⟨rec, hrec⟩ : ∃ rec : LoopState → Option Code → Loop, rec = fun st pe => { state := st, pending := pe, fn, tmps := a.tmps, params := #[p], assign, body, defers := w.heap.size } := ⟨_, rfl⟩
  have hA1 := hI _ _ _ _ h0 (World.grownBy_alloc w (.deferred (some [])) none) (fun r e => by cases e)
  have hA2 := hI _ _ _ _ hA1.1 (World.grownBy_alloc (w.alloc (.deferred (some []))) (.loop (rec .ready none)) none) (fun r e => by cases e)
  obtain ⟨W1, hW1⟩ : ∃ W1, W1 = (w.alloc (.deferred (some []))).alloc (.loop (rec .ready none)) := ⟨_, rfl⟩
  have hsz : W1.heap.size = w.heap.size + 1 + 1 := by rw [hW1]; simp
  have hl1 : W1.heap[w.heap.size + 1]? = some (.loop (rec .ready none)) := by
    rw [hW1]
    have h9 := heap_alloc_new (w.alloc (.deferred (some []))) (.loop (rec .ready none))
    rwa [World.size_alloc] at h9
  have hd1 : W1.heap[w.heap.size]? = some (.deferred (some [])) := by
    rw [hW1]
    exact (Below.heap_alloc _ _ _ (by simp)).trans (heap_alloc_new w _)
  have hb1 : Below w.heap.size w W1 := by
    rw [hW1]
    exact ((Below.refl _ w).alloc (Nat.le_refl _) _).alloc (by simp) _
  rw [← hW1] at hA2
  have hX1 : ∀ r, X W1 r → X w r := fun r hx => hA1.2 r (hA2.2 r hx)
  refine ⟨w.heap.size + 1, [{ target := .collected w.heap.size, args := #[] }], W1, { target := .fn (.func gf) lb, args := #[.func (.yield (w.heap.size + 1)) #[] #[]] }, W1, gf,
    #[.func (.yield (w.heap.size + 1)) #[] #[]] ++ lb, W1, ?_, ?_, fun _ _ => trivial, ?_, fun _ => h1, ?_⟩
  · rw [hW1, hrec]; exact run_enterLoop_outer _ _ _ _ _
  · simp only [resolve, hg]
    simp [go_sem]
  · simp [invoke, go_sem, eg]
  · have hJab : Abides X W1.heap.size (fun pre W => I pre W ∧ W.heap[w.heap.size + 1]? = some (.loop (rec .ready none)) ∧ W.heap[w.heap.size]? = some (.deferred (some []))) := fun pre A B row hs hgr hr => by
      have hs2 := hI _ _ _ _ hs.1 hgr (fun r e => ⟨by have := (hr r e).1; omega, (hr r e).2⟩)
      refine ⟨⟨hs2.1, (hgr.block _ (Array.getElem?_eq_some_iff.1 hs.2.1).1 (fun e => ?_)).trans hs.2.1, (hgr.block _ (Array.getElem?_eq_some_iff.1 hs.2.2).1 (fun e => ?_)).trans hs.2.2⟩, hs2.2⟩
      · have := (hr _ e.symm).1; omega
      · have := (hr _ e.symm).1; omega
    refine (hit (w.heap.size + 1) (fun pre W => I pre W ∧ W.heap[w.heap.size + 1]? = some (.loop (rec .ready none)) ∧ W.heap[w.heap.size]? = some (.deferred (some []))) W1 hb1 hX1 hJab (fun pre W hj r hx => ?_) ?_ ⟨hA2.1, hl1, hd1⟩).mono ?_
    · obtain ⟨o, ho, _⟩ := hX _ _ hj.1 r hx
      exact (Array.getElem?_eq_some_iff.1 ho).1
    · rintro pre x W ⟨hi, hl, hk⟩ hlen
      have hlt : w.heap.size + 1 < W.heap.size := (Array.getElem?_eq_some_iff.1 hl).1
      have hy := run_yield (P := Try.prog) (args := #[.int .i64 x]) hl (by rw [hrec]; rfl)
      rw [hrec] at hy
      refine ⟨fn, _, assign, body, hy, roundIn_of_wpIn hfn ?_⟩
      refine hassign _ x W _ ?_
      refine ⟨_, run_beginRound hl (by rw [hrec]), ?_⟩
      obtain ⟨hi2, hkp2⟩ := hput (.loop { rec .ready none with state := .busy }) hi (by omega) hl rfl
      have hl2 : (W.putObj (w.heap.size + 1) (.loop { rec .ready none with state := .busy })).heap[w.heap.size + 1]? = some (.loop { rec .ready none with state := .busy }) := World.putObj_heap_same hlt
      have hk2 : (W.putObj (w.heap.size + 1) (.loop { rec .ready none with state := .busy })).heap[w.heap.size]? = some (.deferred (some [])) := (World.putObj_heap_other (by omega)).trans hk
      refine wpIn_mono (hbody _ pre x _ hi2 hlen) (fun e a3 W3 hp => ?_)
      cases e with
      | normal =>
        obtain ⟨hk3, hkp3, hi3⟩ := hp
        have hl3 := hk3.same _ _ (by omega) hl2 rfl
        obtain ⟨hi4, hkp4⟩ := hput (.loop (rec .ready none)) hi3 (by omega) hl3 rfl
        have hend := run_endRound (P := Try.prog) none hl3
        rw [hrec] at hend
        refine ⟨_, _, hend, rfl, ⟨by rw [hrec] at hi4; exact hi4, World.putObj_heap_same (Array.getElem?_eq_some_iff.1 hl3).1 |>.trans (by rw [hrec]; rfl), (World.putObj_heap_other (by omega)).trans (hk3.same _ _ (Nat.le_refl _) hk2 rfl)⟩, (hkp2.trans hkp3).trans (by rw [hrec] at hkp4; exact hkp4)⟩
      | _ => exact hp.elim
    · rintro e W2 ⟨⟨v, rfl⟩, xs, hS, hi, hl, hk⟩
      have hend := run_endLoop (P := Try.prog) hl (by rw [hrec]; simp)
      rw [hrec] at hend
      exact ⟨none, _, hend, hdone _ xs _ (Nat.le_refl _) hS (hput _ hi (by omega) hl rfl).1 ((World.putObj_heap_other (by omega)).trans hk)⟩
end Go.Proofs.Ytfjgfabochiflaa
