/- The queue in memory: a box that holds a row of pairs. -/
import Derived.Test.YtfjgfabochiflaaHPLessTc
import Derived.BigRegion
import Derived.Deep.AppendLies
import Derived.Deep.RegionLaw
import Derived.Deep.Cut
import Derived.Deep.CutRange
import Derived.Deep.CutBlock
namespace Go.Proofs.Ytfjgfabochiflaa.H14
open Go.RowKit

abbrev F20 : Value := .func (.func 94) #[] #[]
def loadPr (v : Value) : Sem Value := Instr.loadAt 178 v
theorem load_pr (v : Value) : Instr.loadAt 178 v = loadPr v := rfl
def storePr (v u : Value) : Sem Unit := Instr.storeAt 178 v u
theorem store_pr (v u : Value) : Instr.storeAt 178 v u = storePr v u := rfl
theorem info66 : (Try.prog.info? 178).map (·.size) = some 4 := by kernel_rfl
theorem prV_cells (p : Pr) : prV p = .agg (cellsOfEl 4 prF p).toArray := rfl
theorem cells_one (p : Pr) : ∀ v ∈ cellsOfEl 4 prF p, v.oneCell' = true := by
  intro v hv
  have : v ∈ [Value.int .i64 p.rank, .int .i64 p.left, .int .i64 p.first, .int .i64 p.second] := hv
  simp at this
  rcases this with rfl | rfl | rfl | rfl <;> rfl
theorem load_range {W : World} {b o : Nat} {p : Pr} (h : W.rangeAt b o (cellsOfEl 4 prF p)) : (loadPr (.pointer (some ⟨b, o, none⟩))).run Try.prog W = .ok (prV p) W := by
  have := run_loadAt_mid W b o 178 _ _ h Try.underlying178 rfl (by rw [length_cellsOfEl]; exact info66)
  rw [prV_cells]
  exact this
theorem store_range {W : World} {b o : Nat} {p : Pr} (h : W.there b o 4) : (storePr (.pointer (some ⟨b, o, none⟩)) (prV p)).run Try.prog W = .ok () (W.setCells b o (cellsOfEl 4 prF p)) := by
  rw [prV_cells]
  exact run_storeAt_mid W b o 178 _ h info66 (all_oneCell_toArray (cells_one p))
abbrev qflat (q : List Pr) : List Value := flat 4 prF pr0 q
theorem lt_of_heap {w : World} {k : Nat} {o : Obj} (h : w.heap[k]? = some o) : k < w.heap.size := (Array.getElem?_eq_some_iff.1 h).1
structure QB (P : Nat → Obj → Prop) (g0 : Nat) (w0 w : World) (a : Value) (q : List Pr) : Prop where
  below : Below g0 w0 w
  box : Blk w g0 183 [a, F20]
  own : w.ownsRow (g0 + 1) 178 4 a q.length (qflat q)
  pk : ∀ k o, P k o → k ≠ g0 ∧ a.ownBlock ≠ some k ∧ w.heap[k]? = some o
section
variable {P : Nat → Obj → Prop} {g0 : Nat} {w0 w w' : World} {a : Value} {q : List Pr}
theorem QB.lt (h : QB P g0 w0 w a q) : g0 < w.heap.size := h.box.lt
theorem QB.c0 (h : QB P g0 w0 w a q) : w.cell? ⟨g0, 0, none⟩ = some a := h.box.cell 0
theorem QB.c1 (h : QB P g0 w0 w a q) : w.cell? ⟨g0, 1, none⟩ = some F20 := h.box.cell 1
theorem QB.f0 (h : QB P g0 w0 w a q) : w.frozen? ⟨g0, 0, none⟩ = false := h.box.frozen 0
theorem QB.go (h : QB P g0 w0 w a q) (hb : Below w.heap.size w w') : QB P g0 w0 w' a q :=
  ⟨h.below.trans (hb.mono (Nat.le_of_lt h.lt)), (hb.block g0 h.lt).trans h.box, own_move h.own (fun b _ e ho _ => (hb.block b (h.own.lt b e).2).trans ho), fun k o hp => ⟨(h.pk k o hp).1, (h.pk k o hp).2.1, (hb.block k (lt_of_heap (h.pk k o hp).2.2)).trans (h.pk k o hp).2.2⟩⟩
theorem QB.drew (h : QB P g0 w0 w a q) : QB P g0 w0 w.drew a q := h.go (Below.refl _ _).drew
theorem QB.drewN (h : QB P g0 w0 w a q) (n : Nat) : QB P g0 w0 (w.drewN n) a q := h.go (below_drewN (Below.refl _ _) n)
theorem QB.alloc (h : QB P g0 w0 w a q) (o : Obj) : QB P g0 w0 (w.alloc o) a q := h.go ((Below.refl _ _).alloc (Nat.le_refl _) _)
theorem QB.form (h : QB P g0 w0 w a q) (hn : 0 < q.length) : ∃ g cap, a = .slice (some ⟨g, 0, none⟩) q.length cap := by
  obtain ⟨g, cap, hv, _⟩ := h.own.form hn
  exact ⟨g, cap, hv⟩
theorem QB.off (h : QB P g0 w0 w a q) : some g0 ≠ a.ownBlock := fun hv => by have := (h.own.lt g0 hv.symm).1; omega
/-- the row's value is put into the box: any own row -/
theorem QB.put {x a' : Value} {q' : List Pr} (hb : Below g0 w0 w) (hbox : Blk w g0 183 [x, F20]) (ho : w.ownsRow (g0 + 1) 178 4 a' q'.length (qflat q')) (hpk : ∀ k o, P k o → k ≠ g0 ∧ a'.ownBlock ≠ some k ∧ w.heap[k]? = some o) : QB P g0 w0 (w.setCell ⟨g0, 0, none⟩ a') a' q' := by
  have hg : w.grownBy (w.setCell ⟨g0, 0, none⟩ a') (some g0) := ⟨rfl, rfl, rfl, by simp, fun k _ hk => heap_setCell_other w ⟨g0, 0, none⟩ k a' (fun e => hk (by simp [e]))⟩
  refine ⟨hb.grown hg (Nat.le_of_lt hbox.lt) (fun k hk => by cases hk; exact Nat.le_refl _), hbox.set 0 a', ho.kept hg ?_, fun k o hp => ⟨(hpk k o hp).1, (hpk k o hp).2.1, (hg.block k (lt_of_heap (hpk k o hp).2.2) (fun e => by injection e with e; exact (hpk k o hp).1 e)).trans (hpk k o hp).2.2⟩⟩
  cases hv : a'.ownBlock with
  | none => exact .inl rfl
  | some g => exact .inr (fun e => by injection e with e; have := (ho.lt g hv).1; omega)
section
variable {g n cap : Nat} (h : QB P g0 w0 w (.slice (some ⟨g, 0, none⟩) n cap) q) (hl : q.length = n)
include h
theorem QB.near : g0 < g ∧ g < w.heap.size := by
  have h1 := h.own.lt g rfl
  exact ⟨by omega, h1.2⟩
include hl
theorem QB.capLe : n ≤ cap := by
  have ho := h.own
  rw [hl] at ho
  exact own_cap ho
theorem QB.range {k : Nat} (hk : k < n) : w.rangeAt g (k * 4) (cellsOfEl 4 prF (q.getD k pr0)) ∧ w.there g (k * 4) 4 := by
  have ho := h.own
  rw [hl] at ho
  exact own_range ho hl hk
theorem QB.load {k : Nat} (hk : k < n) : (loadPr (.pointer (some ⟨g, k * 4, none⟩))).run Try.prog w = .ok (prV (q.getD k pr0)) w := load_range (h.range hl hk).1
theorem QB.store {k : Nat} (hk : k < n) (x : Pr) : (storePr (.pointer (some ⟨g, k * 4, none⟩)) (prV x)).run Try.prog w = .ok () (w.setCells g (k * 4) (cellsOfEl 4 prF x)) ∧
    QB P g0 w0 (w.setCells g (k * 4) (cellsOfEl 4 prF x)) (.slice (some ⟨g, 0, none⟩) n cap) (q.set k x) := by
  have ho := h.own
  rw [hl] at ho
  obtain ⟨h1, h2⟩ := own_setCells (vs := cellsOfEl 4 prF x) (o := k * 4) ho
  have hlt := (h.own.lt g rfl).1
  refine ⟨store_range (h.range hl hk).2, h.below.grown h2 (Nat.le_of_lt h.lt) (fun k hk => by cases hk; omega), (h2.block g0 h.lt (fun e => by cases e; omega)).trans h.box, ?_, fun k o hp => ⟨(h.pk k o hp).1, (h.pk k o hp).2.1, (h2.block k (lt_of_heap (h.pk k o hp).2.2) (fun e => (h.pk k o hp).2.1 e.symm)).trans (h.pk k o hp).2.2⟩⟩
  rw [List.length_set, hl]
  rw [flat_setEl (by omega)] at h1
  exact h1
end
theorem own_cut4 {g n cap m base : Nat} {e : TypeId} {xs : List Value} (h : w.ownsRow base e 4 (.slice (some ⟨g, 0, none⟩) n cap) n xs) (hm : m ≤ n) : w.ownsRow base e 4 (.slice (some ⟨g, 0, none⟩) m cap) m (xs.take (m * 4)) := by
  have hl := h.1
  rcases h.2 with ⟨h', _⟩ | ⟨g', cap', cur, h', hb, hg, hnc, hcm, hcs, htake⟩
  · simp at h'
  · simp only [Value.slice.injEq, Option.some.injEq, Addr.mk.injEq, and_true, true_and] at h'
    obtain ⟨rfl, rfl⟩ := h'
    refine ⟨by rw [List.length_take]; omega, .inr ⟨g, cap, cur, rfl, hb, hg, by omega, hcm, hcs, ?_⟩⟩
    rw [← htake, List.take_take]
    congr 1
    omega
end
end Go.Proofs.Ytfjgfabochiflaa.H14
