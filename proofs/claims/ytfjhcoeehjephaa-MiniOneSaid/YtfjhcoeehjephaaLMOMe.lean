/- MiniOne, with both trees laid open. -/
import Derived.Test.YtfjhcoeehjephaaMoCMe
import Derived.Test.YtfjhcoeehjephaaMAliveMe
import Derived.Test.YtfjhcoeehjephaaSx1Me
import Derived.Deep.RegionWith
namespace Go.Proofs.Ytfjhcoeehjephaa
open Go.RowKit
attribute [local go_sem ↓] Go.wp_at_zero Go.wp_at_succ
attribute [local go_sem ↓] load_dfa store_dfa build_dfa

structure MW (W : World) (a : Tr) (A : Option Addr) (n c : Nat) (b : Tr) (B : Option Addr) (m d : Nat) (w : World) : Prop where
  bel : Below W.heap.size W w
  boxa : Blk w W.heap.size 49 (reV a A n c)
  boxb : Blk w (W.heap.size + 1) 49 (reV b B m d)
  tra : TrIn w a A n
  trb : TrIn w b B m
section
variable {W w w' : World} {a b : Tr} {A B : Option Addr} {n c m d : Nat}
theorem MW.go (h : MW W a A n c b B m d w) (hb : Below w.heap.size w w') : MW W a A n c b B m d w' := ⟨h.bel.trans (hb.mono h.bel.size), h.boxa.below hb h.boxa.lt, h.boxb.below hb h.boxb.lt, h.tra.keep hb, h.trb.keep hb⟩
theorem MW.acells (h : MW W a A n c b B m d w) : w.cell? ⟨W.heap.size, 0, none⟩ = some (.int .i64 a.kind) ∧ w.cell? ⟨W.heap.size, 1, none⟩ = some (.int .u64 a.s0) ∧ w.cell? ⟨W.heap.size, 2, none⟩ = some (.int .u64 a.s1) ∧ w.cell? ⟨W.heap.size, 3, none⟩ = some (.int .u64 a.s2) ∧ w.cell? ⟨W.heap.size, 4, none⟩ = some (.int .u64 a.s3) ∧ w.cell? ⟨W.heap.size, 5, none⟩ = some (.int .i64 a.lo) ∧ w.cell? ⟨W.heap.size, 6, none⟩ = some (.int .i64 a.hi) ∧ w.cell? ⟨W.heap.size, 7, none⟩ = some (.slice A n c) :=
  ⟨h.boxa.cell 0, h.boxa.cell 1, h.boxa.cell 2, h.boxa.cell 3, h.boxa.cell 4, h.boxa.cell 5, h.boxa.cell 6, h.boxa.cell 7⟩
theorem MW.bcells (h : MW W a A n c b B m d w) : w.cell? ⟨W.heap.size + 1, 0, none⟩ = some (.int .i64 b.kind) ∧ w.cell? ⟨W.heap.size + 1, 1, none⟩ = some (.int .u64 b.s0) ∧ w.cell? ⟨W.heap.size + 1, 2, none⟩ = some (.int .u64 b.s1) ∧ w.cell? ⟨W.heap.size + 1, 3, none⟩ = some (.int .u64 b.s2) ∧ w.cell? ⟨W.heap.size + 1, 4, none⟩ = some (.int .u64 b.s3) ∧ w.cell? ⟨W.heap.size + 1, 5, none⟩ = some (.int .i64 b.lo) ∧ w.cell? ⟨W.heap.size + 1, 6, none⟩ = some (.int .i64 b.hi) ∧ w.cell? ⟨W.heap.size + 1, 7, none⟩ = some (.slice B m d) :=
  ⟨h.boxb.cell 0, h.boxb.cell 1, h.boxb.cell 2, h.boxb.cell 3, h.boxb.cell 4, h.boxb.cell 5, h.boxb.cell 6, h.boxb.cell 7⟩
theorem one_al (w : World) (o : Obj) : Below w.heap.size w (w.alloc o) := (Below.refl _ _).alloc (Nat.le_refl _) o
theorem two_al (w : World) (o o2 : Obj) : Below w.heap.size w ((w.alloc o).alloc o2) := (one_al w o).alloc (by simp) o2
theorem u64_zero : U64w 0 := ⟨by omega, by omega⟩
theorem nod_wf {k lo hi : Int} {kids : List Tr} (h : ∀ q ∈ kids, TrWf q) : TrWf (nodT k lo hi kids) := .mk u64_zero u64_zero u64_zero u64_zero h
end
section
variable {W w : World} {a b : Tr} {A B : Option Addr} {n c m d : Nat}
theorem clo1 (h : MW W a A n c b B m d w) (ha : TrWf a) (hb : TrWf b) : Calls Try.prog 27 #[.int .i64 3, .int .i64 0, .int .i64 0, .slice (some ⟨w.heap.size, 0, none⟩) 2 2] (w.alloc (.cells #[.int .i64 a.kind, .int .u64 a.s0, .int .u64 a.s1, .int .u64 a.s2, .int .u64 a.s3, .int .i64 a.lo, .int .i64 a.hi, .slice A n c, .int .i64 b.kind, .int .u64 b.s0, .int .u64 b.s1, .int .u64 b.s2, .int .u64 b.s3, .int .i64 b.lo, .int .i64 b.hi, .slice B m d] 49)) fun e w' => ∃ ds ok, e = .returned (.tuple #[.agg ds, .bool ok]) ∧ CloU (nodT 3 0 0 [a, b]) w' ds ok ∧ Below ((w.alloc (.cells #[.int .i64 a.kind, .int .u64 a.s0, .int .u64 a.s1, .int .u64 a.s2, .int .u64 a.s3, .int .i64 a.lo, .int .i64 a.hi, .slice A n c, .int .i64 b.kind, .int .u64 b.s0, .int .u64 b.s1, .int .u64 b.s2, .int .u64 b.s3, .int .i64 b.lo, .int .i64 b.hi, .slice B m d] 49))).heap.size ((w.alloc (.cells #[.int .i64 a.kind, .int .u64 a.s0, .int .u64 a.s1, .int .u64 a.s2, .int .u64 a.s3, .int .i64 a.lo, .int .i64 a.hi, .slice A n c, .int .i64 b.kind, .int .u64 b.s0, .int .u64 b.s1, .int .u64 b.s2, .int .u64 b.s3, .int .i64 b.lo, .int .i64 b.hi, .slice B m d] 49))) w' := by
  have h2 := h.go (one_al w (.cells #[.int .i64 a.kind, .int .u64 a.s0, .int .u64 a.s1, .int .u64 a.s2, .int .u64 a.s3, .int .i64 a.lo, .int .i64 a.hi, .slice A n c, .int .i64 b.kind, .int .u64 b.s0, .int .u64 b.s1, .int .u64 b.s2, .int .u64 b.s3, .int .i64 b.lo, .int .i64 b.hi, .slice B m d] 49))
  refine clo_u 3 0 0 _ _ _ _ _ (kids_in (l := [⟨a, A, n, c⟩, ⟨b, B, m, d⟩]) (fun i hi => ?_) (Blk.new w 49 (kdV [⟨a, A, n, c⟩, ⟨b, B, m, d⟩])) (by simp) 3 0 0) (nod_wf (fun q hq => ?_))
  · match i, hi with
    | 0, _ => exact h2.tra
    | 1, _ => exact h2.trb
  · simp at hq
    rcases hq with rfl | rfl <;> assumption
theorem clo2 (h : MW W a A n c b B m d w) (ha : TrWf a) (hb : TrWf b) : Calls Try.prog 27 #[.int .i64 3, .int .i64 0, .int .i64 0, .slice (some ⟨w.heap.size, 0, none⟩) 3 3] (w.alloc (.cells #[.int .i64 b.kind, .int .u64 b.s0, .int .u64 b.s1, .int .u64 b.s2, .int .u64 b.s3, .int .i64 b.lo, .int .i64 b.hi, .slice B m d, .int .i64 a.kind, .int .u64 a.s0, .int .u64 a.s1, .int .u64 a.s2, .int .u64 a.s3, .int .i64 a.lo, .int .i64 a.hi, .slice A n c, .int .i64 b.kind, .int .u64 b.s0, .int .u64 b.s1, .int .u64 b.s2, .int .u64 b.s3, .int .i64 b.lo, .int .i64 b.hi, .slice B m d] 49)) fun e w' => ∃ ds ok, e = .returned (.tuple #[.agg ds, .bool ok]) ∧ CloU (nodT 3 0 0 [b, a, b]) w' ds ok ∧ Below ((w.alloc (.cells #[.int .i64 b.kind, .int .u64 b.s0, .int .u64 b.s1, .int .u64 b.s2, .int .u64 b.s3, .int .i64 b.lo, .int .i64 b.hi, .slice B m d, .int .i64 a.kind, .int .u64 a.s0, .int .u64 a.s1, .int .u64 a.s2, .int .u64 a.s3, .int .i64 a.lo, .int .i64 a.hi, .slice A n c, .int .i64 b.kind, .int .u64 b.s0, .int .u64 b.s1, .int .u64 b.s2, .int .u64 b.s3, .int .i64 b.lo, .int .i64 b.hi, .slice B m d] 49))).heap.size ((w.alloc (.cells #[.int .i64 b.kind, .int .u64 b.s0, .int .u64 b.s1, .int .u64 b.s2, .int .u64 b.s3, .int .i64 b.lo, .int .i64 b.hi, .slice B m d, .int .i64 a.kind, .int .u64 a.s0, .int .u64 a.s1, .int .u64 a.s2, .int .u64 a.s3, .int .i64 a.lo, .int .i64 a.hi, .slice A n c, .int .i64 b.kind, .int .u64 b.s0, .int .u64 b.s1, .int .u64 b.s2, .int .u64 b.s3, .int .i64 b.lo, .int .i64 b.hi, .slice B m d] 49))) w' := by
  have h2 := h.go (one_al w (.cells #[.int .i64 b.kind, .int .u64 b.s0, .int .u64 b.s1, .int .u64 b.s2, .int .u64 b.s3, .int .i64 b.lo, .int .i64 b.hi, .slice B m d, .int .i64 a.kind, .int .u64 a.s0, .int .u64 a.s1, .int .u64 a.s2, .int .u64 a.s3, .int .i64 a.lo, .int .i64 a.hi, .slice A n c, .int .i64 b.kind, .int .u64 b.s0, .int .u64 b.s1, .int .u64 b.s2, .int .u64 b.s3, .int .i64 b.lo, .int .i64 b.hi, .slice B m d] 49))
  refine clo_u 3 0 0 _ _ _ _ _ (kids_in (l := [⟨b, B, m, d⟩, ⟨a, A, n, c⟩, ⟨b, B, m, d⟩]) (fun i hi => ?_) (Blk.new w 49 (kdV [⟨b, B, m, d⟩, ⟨a, A, n, c⟩, ⟨b, B, m, d⟩])) (by simp) 3 0 0) (nod_wf (fun q hq => ?_))
  · match i, hi with
    | 0, _ => exact h2.trb
    | 1, _ => exact h2.tra
    | 2, _ => exact h2.trb
  · simp at hq
    rcases hq with rfl | rfl | rfl <;> assumption
theorem clo3 (h : MW W a A n c b B m d w) (ha : TrWf a) : Calls Try.prog 27 #[.int .i64 4, .int .i64 0, .int .i64 (-1), .slice (some ⟨w.heap.size, 0, none⟩) 1 1] (w.alloc (.cells #[.int .i64 a.kind, .int .u64 a.s0, .int .u64 a.s1, .int .u64 a.s2, .int .u64 a.s3, .int .i64 a.lo, .int .i64 a.hi, .slice A n c] 49)) fun e w' => ∃ ds ok, e = .returned (.tuple #[.agg ds, .bool ok]) ∧ CloU (nodT 4 0 (-1) [a]) w' ds ok ∧ Below ((w.alloc (.cells #[.int .i64 a.kind, .int .u64 a.s0, .int .u64 a.s1, .int .u64 a.s2, .int .u64 a.s3, .int .i64 a.lo, .int .i64 a.hi, .slice A n c] 49))).heap.size ((w.alloc (.cells #[.int .i64 a.kind, .int .u64 a.s0, .int .u64 a.s1, .int .u64 a.s2, .int .u64 a.s3, .int .i64 a.lo, .int .i64 a.hi, .slice A n c] 49))) w' := by
  have h2 := h.go (one_al w (.cells #[.int .i64 a.kind, .int .u64 a.s0, .int .u64 a.s1, .int .u64 a.s2, .int .u64 a.s3, .int .i64 a.lo, .int .i64 a.hi, .slice A n c] 49))
  refine clo_u 4 0 (-1) _ _ _ _ _ (kids_in (l := [⟨a, A, n, c⟩]) (fun i hi => ?_) (Blk.new w 49 (kdV [⟨a, A, n, c⟩])) (by simp) 4 0 (-1)) (nod_wf (fun q hq => ?_))
  · match i, hi with
    | 0, _ => exact h2.tra
  · simp at hq
    subst hq; exact ha
theorem clo4 (h : MW W a A n c b B m d w) (ha : TrWf a) : Calls Try.prog 27 #[.int .i64 4, .int .i64 0, .int .i64 (-1), .slice (some ⟨(w.heap.size + 1), 0, none⟩) 1 1] ((w.alloc (.cells #[.int .i64 a.kind, .int .u64 a.s0, .int .u64 a.s1, .int .u64 a.s2, .int .u64 a.s3, .int .i64 a.lo, .int .i64 a.hi, .slice A n c] 49)).alloc (.cells #[.int .i64 4, .int .u64 0, .int .u64 0, .int .u64 0, .int .u64 0, .int .i64 0, .int .i64 (-1), .slice (some ⟨w.heap.size, 0, none⟩) 1 1] 49)) fun e w' => ∃ ds ok, e = .returned (.tuple #[.agg ds, .bool ok]) ∧ CloU (nodT 4 0 (-1) [nodT 4 0 (-1) [a]]) w' ds ok ∧ Below (((w.alloc (.cells #[.int .i64 a.kind, .int .u64 a.s0, .int .u64 a.s1, .int .u64 a.s2, .int .u64 a.s3, .int .i64 a.lo, .int .i64 a.hi, .slice A n c] 49)).alloc (.cells #[.int .i64 4, .int .u64 0, .int .u64 0, .int .u64 0, .int .u64 0, .int .i64 0, .int .i64 (-1), .slice (some ⟨w.heap.size, 0, none⟩) 1 1] 49))).heap.size (((w.alloc (.cells #[.int .i64 a.kind, .int .u64 a.s0, .int .u64 a.s1, .int .u64 a.s2, .int .u64 a.s3, .int .i64 a.lo, .int .i64 a.hi, .slice A n c] 49)).alloc (.cells #[.int .i64 4, .int .u64 0, .int .u64 0, .int .u64 0, .int .u64 0, .int .i64 0, .int .i64 (-1), .slice (some ⟨w.heap.size, 0, none⟩) 1 1] 49))) w' := by
  have h1 := h.go (one_al w (.cells #[.int .i64 a.kind, .int .u64 a.s0, .int .u64 a.s1, .int .u64 a.s2, .int .u64 a.s3, .int .i64 a.lo, .int .i64 a.hi, .slice A n c] 49))
  have hi1 : TrIn (w.alloc (.cells #[.int .i64 a.kind, .int .u64 a.s0, .int .u64 a.s1, .int .u64 a.s2, .int .u64 a.s3, .int .i64 a.lo, .int .i64 a.hi, .slice A n c] 49)) (nodT 4 0 (-1) [a]) (some ⟨w.heap.size, 0, none⟩) 1 := by
    refine kids_in (l := [⟨a, A, n, c⟩]) (fun i hi => ?_) (Blk.new w 49 (kdV [⟨a, A, n, c⟩])) (by simp) 4 0 (-1)
    match i, hi with
    | 0, _ => exact h1.tra
  have hb2 := one_al (w.alloc (.cells #[.int .i64 a.kind, .int .u64 a.s0, .int .u64 a.s1, .int .u64 a.s2, .int .u64 a.s3, .int .i64 a.lo, .int .i64 a.hi, .slice A n c] 49)) (.cells #[.int .i64 4, .int .u64 0, .int .u64 0, .int .u64 0, .int .u64 0, .int .i64 0, .int .i64 (-1), .slice (some ⟨w.heap.size, 0, none⟩) 1 1] 49)
  have h2 := h1.go hb2
  have hi2 := hi1.keep hb2
  have hbk := Blk.new (w.alloc (.cells #[.int .i64 a.kind, .int .u64 a.s0, .int .u64 a.s1, .int .u64 a.s2, .int .u64 a.s3, .int .i64 a.lo, .int .i64 a.hi, .slice A n c] 49)) 49 (kdV [⟨nodT 4 0 (-1) [a], some ⟨w.heap.size, 0, none⟩, 1, 1⟩])
  rw [World.size_alloc] at hbk
  refine clo_u 4 0 (-1) _ _ _ _ _ (kids_in (l := [⟨nodT 4 0 (-1) [a], some ⟨w.heap.size, 0, none⟩, 1, 1⟩]) (fun i hi => ?_) hbk (by simp) 4 0 (-1)) (nod_wf (fun q hq => ?_))
  · match i, hi with
    | 0, _ => exact hi2
  · simp at hq
    subst hq; exact nod_wf (fun q hq => by simp at hq; subst hq; exact ha)
theorem clo5 (h : MW W a A n c b B m d w) (ha : TrWf a) : Calls Try.prog 27 #[.int .i64 4, .int .i64 1, .int .i64 (-1), .slice (some ⟨w.heap.size, 0, none⟩) 1 1] (w.alloc (.cells #[.int .i64 a.kind, .int .u64 a.s0, .int .u64 a.s1, .int .u64 a.s2, .int .u64 a.s3, .int .i64 a.lo, .int .i64 a.hi, .slice A n c] 49)) fun e w' => ∃ ds ok, e = .returned (.tuple #[.agg ds, .bool ok]) ∧ CloU (nodT 4 1 (-1) [a]) w' ds ok ∧ Below ((w.alloc (.cells #[.int .i64 a.kind, .int .u64 a.s0, .int .u64 a.s1, .int .u64 a.s2, .int .u64 a.s3, .int .i64 a.lo, .int .i64 a.hi, .slice A n c] 49))).heap.size ((w.alloc (.cells #[.int .i64 a.kind, .int .u64 a.s0, .int .u64 a.s1, .int .u64 a.s2, .int .u64 a.s3, .int .i64 a.lo, .int .i64 a.hi, .slice A n c] 49))) w' := by
  have h2 := h.go (one_al w (.cells #[.int .i64 a.kind, .int .u64 a.s0, .int .u64 a.s1, .int .u64 a.s2, .int .u64 a.s3, .int .i64 a.lo, .int .i64 a.hi, .slice A n c] 49))
  refine clo_u 4 1 (-1) _ _ _ _ _ (kids_in (l := [⟨a, A, n, c⟩]) (fun i hi => ?_) (Blk.new w 49 (kdV [⟨a, A, n, c⟩])) (by simp) 4 1 (-1)) (nod_wf (fun q hq => ?_))
  · match i, hi with
    | 0, _ => exact h2.tra
  · simp at hq
    subst hq; exact ha
theorem clo6 (h : MW W a A n c b B m d w) (ha : TrWf a) : Calls Try.prog 27 #[.int .i64 3, .int .i64 0, .int .i64 0, .slice (some ⟨(w.heap.size + 1), 0, none⟩) 2 2] ((w.alloc (.cells #[.int .i64 a.kind, .int .u64 a.s0, .int .u64 a.s1, .int .u64 a.s2, .int .u64 a.s3, .int .i64 a.lo, .int .i64 a.hi, .slice A n c] 49)).alloc (.cells #[.int .i64 4, .int .u64 0, .int .u64 0, .int .u64 0, .int .u64 0, .int .i64 2, .int .i64 (-1), .slice (some ⟨w.heap.size, 0, none⟩) 1 1, .int .i64 a.kind, .int .u64 a.s0, .int .u64 a.s1, .int .u64 a.s2, .int .u64 a.s3, .int .i64 a.lo, .int .i64 a.hi, .slice A n c] 49)) fun e w' => ∃ ds ok, e = .returned (.tuple #[.agg ds, .bool ok]) ∧ CloU (nodT 3 0 0 [nodT 4 2 (-1) [a], a]) w' ds ok ∧ Below (((w.alloc (.cells #[.int .i64 a.kind, .int .u64 a.s0, .int .u64 a.s1, .int .u64 a.s2, .int .u64 a.s3, .int .i64 a.lo, .int .i64 a.hi, .slice A n c] 49)).alloc (.cells #[.int .i64 4, .int .u64 0, .int .u64 0, .int .u64 0, .int .u64 0, .int .i64 2, .int .i64 (-1), .slice (some ⟨w.heap.size, 0, none⟩) 1 1, .int .i64 a.kind, .int .u64 a.s0, .int .u64 a.s1, .int .u64 a.s2, .int .u64 a.s3, .int .i64 a.lo, .int .i64 a.hi, .slice A n c] 49))).heap.size (((w.alloc (.cells #[.int .i64 a.kind, .int .u64 a.s0, .int .u64 a.s1, .int .u64 a.s2, .int .u64 a.s3, .int .i64 a.lo, .int .i64 a.hi, .slice A n c] 49)).alloc (.cells #[.int .i64 4, .int .u64 0, .int .u64 0, .int .u64 0, .int .u64 0, .int .i64 2, .int .i64 (-1), .slice (some ⟨w.heap.size, 0, none⟩) 1 1, .int .i64 a.kind, .int .u64 a.s0, .int .u64 a.s1, .int .u64 a.s2, .int .u64 a.s3, .int .i64 a.lo, .int .i64 a.hi, .slice A n c] 49))) w' := by
  have h1 := h.go (one_al w (.cells #[.int .i64 a.kind, .int .u64 a.s0, .int .u64 a.s1, .int .u64 a.s2, .int .u64 a.s3, .int .i64 a.lo, .int .i64 a.hi, .slice A n c] 49))
  have hi1 : TrIn (w.alloc (.cells #[.int .i64 a.kind, .int .u64 a.s0, .int .u64 a.s1, .int .u64 a.s2, .int .u64 a.s3, .int .i64 a.lo, .int .i64 a.hi, .slice A n c] 49)) (nodT 4 2 (-1) [a]) (some ⟨w.heap.size, 0, none⟩) 1 := by
    refine kids_in (l := [⟨a, A, n, c⟩]) (fun i hi => ?_) (Blk.new w 49 (kdV [⟨a, A, n, c⟩])) (by simp) 4 2 (-1)
    match i, hi with
    | 0, _ => exact h1.tra
  have hb2 := one_al (w.alloc (.cells #[.int .i64 a.kind, .int .u64 a.s0, .int .u64 a.s1, .int .u64 a.s2, .int .u64 a.s3, .int .i64 a.lo, .int .i64 a.hi, .slice A n c] 49)) (.cells #[.int .i64 4, .int .u64 0, .int .u64 0, .int .u64 0, .int .u64 0, .int .i64 2, .int .i64 (-1), .slice (some ⟨w.heap.size, 0, none⟩) 1 1, .int .i64 a.kind, .int .u64 a.s0, .int .u64 a.s1, .int .u64 a.s2, .int .u64 a.s3, .int .i64 a.lo, .int .i64 a.hi, .slice A n c] 49)
  have h2 := h1.go hb2
  have hi2 := hi1.keep hb2
  have hbk := Blk.new (w.alloc (.cells #[.int .i64 a.kind, .int .u64 a.s0, .int .u64 a.s1, .int .u64 a.s2, .int .u64 a.s3, .int .i64 a.lo, .int .i64 a.hi, .slice A n c] 49)) 49 (kdV [⟨nodT 4 2 (-1) [a], some ⟨w.heap.size, 0, none⟩, 1, 1⟩, ⟨a, A, n, c⟩])
  rw [World.size_alloc] at hbk
  refine clo_u 3 0 0 _ _ _ _ _ (kids_in (l := [⟨nodT 4 2 (-1) [a], some ⟨w.heap.size, 0, none⟩, 1, 1⟩, ⟨a, A, n, c⟩]) (fun i hi => ?_) hbk (by simp) 3 0 0) (nod_wf (fun q hq => ?_))
  · match i, hi with
    | 0, _ => exact hi2
    | 1, _ => exact h2.tra
  · simp at hq
    rcases hq with rfl | rfl
    · exact nod_wf (fun q hq => by simp at hq; subst hq; exact ha)
    · exact ha
end
set_option maxRecDepth 100000 in
set_option maxHeartbeats 16000000 in
theorem law_mone (a : Tr) (A : Option Addr) (n c : Nat) (b : Tr) (B : Option Addr) (m d : Nat) (W : World) (hta : TrIn W a A n) (hwa : TrWf a) (htb : TrIn W b B m) (hwb : TrWf b) :
    Calls Try.prog 7 #[.agg #[.int .i64 a.kind, .int .u64 a.s0, .int .u64 a.s1, .int .u64 a.s2, .int .u64 a.s3, .int .i64 a.lo, .int .i64 a.hi, .slice A n c], .agg #[.int .i64 b.kind, .int .u64 b.s0, .int .u64 b.s1, .int .u64 b.s2, .int .u64 b.s3, .int .i64 b.lo, .int .i64 b.hi, .slice B m d]] W fun e w' => e = .returned (.bool true) ∧ Below W.heap.size W w' := by
  have hzV := zeroV30
  have hb0 := two_al W (.cells (reV a A n c).toArray 49) (.cells (reV b B m d).toArray 49)
  have hm0 : MW W a A n c b B m d ((W.alloc (.cells (reV a A n c).toArray 49)).alloc (.cells (reV b B m d).toArray 49)) := by
    refine ⟨hb0, (Blk.new W 49 (reV a A n c)).alloc _, ?_, hta.keep hb0, htb.keep hb0⟩
    have := Blk.new (W.alloc (.cells (reV a A n c).toArray 49)) 49 (reV b B m d)
    rw [World.size_alloc] at this
    exact this
  have HM0 := Lib.hid hm0
  have HWF := Lib.hid (And.intro hwa hwb)
  clear hb0 hm0 hta hwa htb hwb
  go_enter Try.func7, Try.ntmps7
  go_upto_region 5 with (go_at_call 26; refine (M9.alive_any _).mono ?_; rintro e w1 ⟨rfl, hb1⟩; have HM1 := Lib.hid (MW.go (w' := w1) HM0.out hb1); clear hb1)
  have a0 := HM1.out.boxa.cell 0
  have b0 := HM1.out.boxb.cell 0
  simp only [reV, List.getElem?_cons_zero] at a0 b0
  by_cases ha3 : a.kind = 3
  · have e1 : (a.kind == 3) = true := by simpa using ha3
    clear ha3
    go_wp2_with fail
    go_returns
    exact ⟨by first | rfl | simp, HM1.out.bel⟩
  · have e1 : (a.kind == 3) = false := by simpa using ha3
    by_cases hb3 : b.kind = 3
    · have e2 : (b.kind == 3) = true := by simpa using hb3
      clear hb3 ha3
      go_wp2_with fail
      go_returns
      exact ⟨by first | rfl | simp, HM1.out.bel⟩
    · have e2 : (b.kind == 3) = false := by simpa using hb3
      clear hb3 ha3
      go_upto_region 7 with (fail)
      clear a0 b0
      obtain ⟨a0, a1, a2, a3, a4, a5, a6, a7⟩ := HM1.out.acells
      obtain ⟨b0, b1, b2, b3, b4, b5, b6, b7⟩ := HM1.out.bcells
      have HC1 := Lib.hid (clo1 HM1.out HWF.out.1 HWF.out.2)
      go_upto_region 8 with (go_at_call 27; refine HC1.out.mono ?_; rintro e v1 ⟨ds1, ok1, rfl, hs1, hb1⟩; have hst1 := pb_store hs1; have HS1 := Lib.hid hs1; have HB1 := Lib.hid hb1; clear hs1 hb1)
      have hbn1 := ((one_al w1 (.cells #[.int .i64 a.kind, .int .u64 a.s0, .int .u64 a.s1, .int .u64 a.s2, .int .u64 a.s3, .int .i64 a.lo, .int .i64 a.hi, .slice A n c, .int .i64 b.kind, .int .u64 b.s0, .int .u64 b.s1, .int .u64 b.s2, .int .u64 b.s3, .int .i64 b.lo, .int .i64 b.hi, .slice B m d] 49)).trans (HB1.out.mono (one_al w1 (.cells #[.int .i64 a.kind, .int .u64 a.s0, .int .u64 a.s1, .int .u64 a.s2, .int .u64 a.s3, .int .i64 a.lo, .int .i64 a.hi, .slice A n c, .int .i64 b.kind, .int .u64 b.s0, .int .u64 b.s1, .int .u64 b.s2, .int .u64 b.s3, .int .i64 b.lo, .int .i64 b.hi, .slice B m d] 49)).size)).trans ((pb_below v1 ds1).mono ((one_al w1 (.cells #[.int .i64 a.kind, .int .u64 a.s0, .int .u64 a.s1, .int .u64 a.s2, .int .u64 a.s3, .int .i64 a.lo, .int .i64 a.hi, .slice A n c, .int .i64 b.kind, .int .u64 b.s0, .int .u64 b.s1, .int .u64 b.s2, .int .u64 b.s3, .int .i64 b.lo, .int .i64 b.hi, .slice B m d] 49)).trans (HB1.out.mono (one_al w1 (.cells #[.int .i64 a.kind, .int .u64 a.s0, .int .u64 a.s1, .int .u64 a.s2, .int .u64 a.s3, .int .i64 a.lo, .int .i64 a.hi, .slice A n c, .int .i64 b.kind, .int .u64 b.s0, .int .u64 b.s1, .int .u64 b.s2, .int .u64 b.s3, .int .i64 b.lo, .int .i64 b.hi, .slice B m d] 49)).size)).size)
      have HP1 := Lib.hid (pb_new HS1.out)
      have HM2 := Lib.hid (HM1.out.go hbn1)
      obtain ⟨g1, hg1⟩ : ∃ g, g = v1.heap.size := ⟨_, rfl⟩
      rw [← hg1] at HP1 HM2 ⊢
      clear a0 a1 a2 a3 a4 a5 a6 a7 b0 b1 b2 b3 b4 b5 b6 b7  hst1 hbn1 HC1 HS1
      generalize (v1.alloc (.cells zs30 30)).setRow g1 ds1 = z1 at HP1 HM2 ⊢
      clear hg1
      obtain ⟨a0, a1, a2, a3, a4, a5, a6, a7⟩ := HM2.out.acells
      obtain ⟨b0, b1, b2, b3, b4, b5, b6, b7⟩ := HM2.out.bcells
      have HC2 := Lib.hid (clo2 HM2.out HWF.out.1 HWF.out.2)
      go_upto_region 9 with (go_at_call 27; refine HC2.out.mono ?_; rintro e v2 ⟨ds2, ok2, rfl, hs2, hb2⟩; have hst2 := pb_store hs2; have HS2 := Lib.hid hs2; have HB2 := Lib.hid hb2; clear hs2 hb2)
      have hbn2 := ((one_al z1 (.cells #[.int .i64 b.kind, .int .u64 b.s0, .int .u64 b.s1, .int .u64 b.s2, .int .u64 b.s3, .int .i64 b.lo, .int .i64 b.hi, .slice B m d, .int .i64 a.kind, .int .u64 a.s0, .int .u64 a.s1, .int .u64 a.s2, .int .u64 a.s3, .int .i64 a.lo, .int .i64 a.hi, .slice A n c, .int .i64 b.kind, .int .u64 b.s0, .int .u64 b.s1, .int .u64 b.s2, .int .u64 b.s3, .int .i64 b.lo, .int .i64 b.hi, .slice B m d] 49)).trans (HB2.out.mono (one_al z1 (.cells #[.int .i64 b.kind, .int .u64 b.s0, .int .u64 b.s1, .int .u64 b.s2, .int .u64 b.s3, .int .i64 b.lo, .int .i64 b.hi, .slice B m d, .int .i64 a.kind, .int .u64 a.s0, .int .u64 a.s1, .int .u64 a.s2, .int .u64 a.s3, .int .i64 a.lo, .int .i64 a.hi, .slice A n c, .int .i64 b.kind, .int .u64 b.s0, .int .u64 b.s1, .int .u64 b.s2, .int .u64 b.s3, .int .i64 b.lo, .int .i64 b.hi, .slice B m d] 49)).size)).trans ((pb_below v2 ds2).mono ((one_al z1 (.cells #[.int .i64 b.kind, .int .u64 b.s0, .int .u64 b.s1, .int .u64 b.s2, .int .u64 b.s3, .int .i64 b.lo, .int .i64 b.hi, .slice B m d, .int .i64 a.kind, .int .u64 a.s0, .int .u64 a.s1, .int .u64 a.s2, .int .u64 a.s3, .int .i64 a.lo, .int .i64 a.hi, .slice A n c, .int .i64 b.kind, .int .u64 b.s0, .int .u64 b.s1, .int .u64 b.s2, .int .u64 b.s3, .int .i64 b.lo, .int .i64 b.hi, .slice B m d] 49)).trans (HB2.out.mono (one_al z1 (.cells #[.int .i64 b.kind, .int .u64 b.s0, .int .u64 b.s1, .int .u64 b.s2, .int .u64 b.s3, .int .i64 b.lo, .int .i64 b.hi, .slice B m d, .int .i64 a.kind, .int .u64 a.s0, .int .u64 a.s1, .int .u64 a.s2, .int .u64 a.s3, .int .i64 a.lo, .int .i64 a.hi, .slice A n c, .int .i64 b.kind, .int .u64 b.s0, .int .u64 b.s1, .int .u64 b.s2, .int .u64 b.s3, .int .i64 b.lo, .int .i64 b.hi, .slice B m d] 49)).size)).size)
      have HP2 := Lib.hid (pb_new HS2.out)
      have HM3 := Lib.hid (HM2.out.go hbn2)
      replace HP1 := Lib.hid (HP1.out.go hbn2)
      obtain ⟨g2, hg2⟩ : ∃ g, g = v2.heap.size := ⟨_, rfl⟩
      rw [← hg2] at HP2 HM3 HP1 ⊢
      clear a0 a1 a2 a3 a4 a5 a6 a7 b0 b1 b2 b3 b4 b5 b6 b7  hst2 hbn2 HC2 HS2
      generalize (v2.alloc (.cells zs30 30)).setRow g2 ds2 = z2 at HP2 HM3 HP1 ⊢
      clear hg2
      obtain ⟨a0, a1, a2, a3, a4, a5, a6, a7⟩ := HM3.out.acells
      have HC3 := Lib.hid (clo3 HM3.out HWF.out.1)
      go_upto_region 10 with (go_at_call 27; refine HC3.out.mono ?_; rintro e v3 ⟨ds3, ok3, rfl, hs3, hb3⟩; have hst3 := pb_store hs3; have HS3 := Lib.hid hs3; have HB3 := Lib.hid hb3; clear hs3 hb3)
      have hbn3 := ((one_al z2 (.cells #[.int .i64 a.kind, .int .u64 a.s0, .int .u64 a.s1, .int .u64 a.s2, .int .u64 a.s3, .int .i64 a.lo, .int .i64 a.hi, .slice A n c] 49)).trans (HB3.out.mono (one_al z2 (.cells #[.int .i64 a.kind, .int .u64 a.s0, .int .u64 a.s1, .int .u64 a.s2, .int .u64 a.s3, .int .i64 a.lo, .int .i64 a.hi, .slice A n c] 49)).size)).trans ((pb_below v3 ds3).mono ((one_al z2 (.cells #[.int .i64 a.kind, .int .u64 a.s0, .int .u64 a.s1, .int .u64 a.s2, .int .u64 a.s3, .int .i64 a.lo, .int .i64 a.hi, .slice A n c] 49)).trans (HB3.out.mono (one_al z2 (.cells #[.int .i64 a.kind, .int .u64 a.s0, .int .u64 a.s1, .int .u64 a.s2, .int .u64 a.s3, .int .i64 a.lo, .int .i64 a.hi, .slice A n c] 49)).size)).size)
      have HP3 := Lib.hid (pb_new HS3.out)
      have HM4 := Lib.hid (HM3.out.go hbn3)
      replace HP1 := Lib.hid (HP1.out.go hbn3)
      replace HP2 := Lib.hid (HP2.out.go hbn3)
      obtain ⟨g3, hg3⟩ : ∃ g, g = v3.heap.size := ⟨_, rfl⟩
      rw [← hg3] at HP3 HM4 HP1 HP2 ⊢
      clear a0 a1 a2 a3 a4 a5 a6 a7   hst3 hbn3 HC3 HS3
      generalize (v3.alloc (.cells zs30 30)).setRow g3 ds3 = z3 at HP3 HM4 HP1 HP2 ⊢
      clear hg3
      obtain ⟨a0, a1, a2, a3, a4, a5, a6, a7⟩ := HM4.out.acells
      have HC4 := Lib.hid (clo4 HM4.out HWF.out.1)
      go_upto_region 11 with (go_at_call 27; refine HC4.out.mono ?_; rintro e v4 ⟨ds4, ok4, rfl, hs4, hb4⟩; have hst4 := pb_store hs4; have HS4 := Lib.hid hs4; have HB4 := Lib.hid hb4; clear hs4 hb4)
      have hbn4 := ((two_al z3 (.cells #[.int .i64 a.kind, .int .u64 a.s0, .int .u64 a.s1, .int .u64 a.s2, .int .u64 a.s3, .int .i64 a.lo, .int .i64 a.hi, .slice A n c] 49) (.cells #[.int .i64 4, .int .u64 0, .int .u64 0, .int .u64 0, .int .u64 0, .int .i64 0, .int .i64 (-1), .slice (some ⟨z3.heap.size, 0, none⟩) 1 1] 49)).trans (HB4.out.mono (two_al z3 (.cells #[.int .i64 a.kind, .int .u64 a.s0, .int .u64 a.s1, .int .u64 a.s2, .int .u64 a.s3, .int .i64 a.lo, .int .i64 a.hi, .slice A n c] 49) (.cells #[.int .i64 4, .int .u64 0, .int .u64 0, .int .u64 0, .int .u64 0, .int .i64 0, .int .i64 (-1), .slice (some ⟨z3.heap.size, 0, none⟩) 1 1] 49)).size)).trans ((pb_below v4 ds4).mono ((two_al z3 (.cells #[.int .i64 a.kind, .int .u64 a.s0, .int .u64 a.s1, .int .u64 a.s2, .int .u64 a.s3, .int .i64 a.lo, .int .i64 a.hi, .slice A n c] 49) (.cells #[.int .i64 4, .int .u64 0, .int .u64 0, .int .u64 0, .int .u64 0, .int .i64 0, .int .i64 (-1), .slice (some ⟨z3.heap.size, 0, none⟩) 1 1] 49)).trans (HB4.out.mono (two_al z3 (.cells #[.int .i64 a.kind, .int .u64 a.s0, .int .u64 a.s1, .int .u64 a.s2, .int .u64 a.s3, .int .i64 a.lo, .int .i64 a.hi, .slice A n c] 49) (.cells #[.int .i64 4, .int .u64 0, .int .u64 0, .int .u64 0, .int .u64 0, .int .i64 0, .int .i64 (-1), .slice (some ⟨z3.heap.size, 0, none⟩) 1 1] 49)).size)).size)
      have HP4 := Lib.hid (pb_new HS4.out)
      have HM5 := Lib.hid (HM4.out.go hbn4)
      replace HP1 := Lib.hid (HP1.out.go hbn4)
      replace HP2 := Lib.hid (HP2.out.go hbn4)
      replace HP3 := Lib.hid (HP3.out.go hbn4)
      obtain ⟨g4, hg4⟩ : ∃ g, g = v4.heap.size := ⟨_, rfl⟩
      rw [← hg4] at HP4 HM5 HP1 HP2 HP3 ⊢
      clear a0 a1 a2 a3 a4 a5 a6 a7   hst4 hbn4 HC4 HS4
      generalize (v4.alloc (.cells zs30 30)).setRow g4 ds4 = z4 at HP4 HM5 HP1 HP2 HP3 ⊢
      clear hg4
      obtain ⟨a0, a1, a2, a3, a4, a5, a6, a7⟩ := HM5.out.acells
      have HC5 := Lib.hid (clo5 HM5.out HWF.out.1)
      go_upto_region 12 with (go_at_call 27; refine HC5.out.mono ?_; rintro e v5 ⟨ds5, ok5, rfl, hs5, hb5⟩; have hst5 := pb_store hs5; have HS5 := Lib.hid hs5; have HB5 := Lib.hid hb5; clear hs5 hb5)
      have hbn5 := ((one_al z4 (.cells #[.int .i64 a.kind, .int .u64 a.s0, .int .u64 a.s1, .int .u64 a.s2, .int .u64 a.s3, .int .i64 a.lo, .int .i64 a.hi, .slice A n c] 49)).trans (HB5.out.mono (one_al z4 (.cells #[.int .i64 a.kind, .int .u64 a.s0, .int .u64 a.s1, .int .u64 a.s2, .int .u64 a.s3, .int .i64 a.lo, .int .i64 a.hi, .slice A n c] 49)).size)).trans ((pb_below v5 ds5).mono ((one_al z4 (.cells #[.int .i64 a.kind, .int .u64 a.s0, .int .u64 a.s1, .int .u64 a.s2, .int .u64 a.s3, .int .i64 a.lo, .int .i64 a.hi, .slice A n c] 49)).trans (HB5.out.mono (one_al z4 (.cells #[.int .i64 a.kind, .int .u64 a.s0, .int .u64 a.s1, .int .u64 a.s2, .int .u64 a.s3, .int .i64 a.lo, .int .i64 a.hi, .slice A n c] 49)).size)).size)
      have HP5 := Lib.hid (pb_new HS5.out)
      have HM6 := Lib.hid (HM5.out.go hbn5)
      replace HP1 := Lib.hid (HP1.out.go hbn5)
      replace HP2 := Lib.hid (HP2.out.go hbn5)
      replace HP3 := Lib.hid (HP3.out.go hbn5)
      replace HP4 := Lib.hid (HP4.out.go hbn5)
      obtain ⟨g5, hg5⟩ : ∃ g, g = v5.heap.size := ⟨_, rfl⟩
      rw [← hg5] at HP5 HM6 HP1 HP2 HP3 HP4 ⊢
      clear a0 a1 a2 a3 a4 a5 a6 a7   hst5 hbn5 HC5 HS5
      generalize (v5.alloc (.cells zs30 30)).setRow g5 ds5 = z5 at HP5 HM6 HP1 HP2 HP3 HP4 ⊢
      clear hg5
      obtain ⟨a0, a1, a2, a3, a4, a5, a6, a7⟩ := HM6.out.acells
      have x0 := cellAl2 a0 (.cells #[.int .i64 a.kind, .int .u64 a.s0, .int .u64 a.s1, .int .u64 a.s2, .int .u64 a.s3, .int .i64 a.lo, .int .i64 a.hi, .slice A n c] 49)
      have x1 := cellAl2 a1 (.cells #[.int .i64 a.kind, .int .u64 a.s0, .int .u64 a.s1, .int .u64 a.s2, .int .u64 a.s3, .int .i64 a.lo, .int .i64 a.hi, .slice A n c] 49)
      have x2 := cellAl2 a2 (.cells #[.int .i64 a.kind, .int .u64 a.s0, .int .u64 a.s1, .int .u64 a.s2, .int .u64 a.s3, .int .i64 a.lo, .int .i64 a.hi, .slice A n c] 49)
      have x3 := cellAl2 a3 (.cells #[.int .i64 a.kind, .int .u64 a.s0, .int .u64 a.s1, .int .u64 a.s2, .int .u64 a.s3, .int .i64 a.lo, .int .i64 a.hi, .slice A n c] 49)
      have x4 := cellAl2 a4 (.cells #[.int .i64 a.kind, .int .u64 a.s0, .int .u64 a.s1, .int .u64 a.s2, .int .u64 a.s3, .int .i64 a.lo, .int .i64 a.hi, .slice A n c] 49)
      have x5 := cellAl2 a5 (.cells #[.int .i64 a.kind, .int .u64 a.s0, .int .u64 a.s1, .int .u64 a.s2, .int .u64 a.s3, .int .i64 a.lo, .int .i64 a.hi, .slice A n c] 49)
      have x6 := cellAl2 a6 (.cells #[.int .i64 a.kind, .int .u64 a.s0, .int .u64 a.s1, .int .u64 a.s2, .int .u64 a.s3, .int .i64 a.lo, .int .i64 a.hi, .slice A n c] 49)
      have x7 := cellAl2 a7 (.cells #[.int .i64 a.kind, .int .u64 a.s0, .int .u64 a.s1, .int .u64 a.s2, .int .u64 a.s3, .int .i64 a.lo, .int .i64 a.hi, .slice A n c] 49)
      have HC6 := Lib.hid (clo6 HM6.out HWF.out.1)
      go_upto_region 13 with (go_at_call 27; refine HC6.out.mono ?_; rintro e v6 ⟨ds6, ok6, rfl, hs6, hb6⟩; have hst6 := pb_store hs6; have HS6 := Lib.hid hs6; have HB6 := Lib.hid hb6; clear hs6 hb6)
      have hbn6 := ((two_al z5 (.cells #[.int .i64 a.kind, .int .u64 a.s0, .int .u64 a.s1, .int .u64 a.s2, .int .u64 a.s3, .int .i64 a.lo, .int .i64 a.hi, .slice A n c] 49) (.cells #[.int .i64 4, .int .u64 0, .int .u64 0, .int .u64 0, .int .u64 0, .int .i64 2, .int .i64 (-1), .slice (some ⟨z5.heap.size, 0, none⟩) 1 1, .int .i64 a.kind, .int .u64 a.s0, .int .u64 a.s1, .int .u64 a.s2, .int .u64 a.s3, .int .i64 a.lo, .int .i64 a.hi, .slice A n c] 49)).trans (HB6.out.mono (two_al z5 (.cells #[.int .i64 a.kind, .int .u64 a.s0, .int .u64 a.s1, .int .u64 a.s2, .int .u64 a.s3, .int .i64 a.lo, .int .i64 a.hi, .slice A n c] 49) (.cells #[.int .i64 4, .int .u64 0, .int .u64 0, .int .u64 0, .int .u64 0, .int .i64 2, .int .i64 (-1), .slice (some ⟨z5.heap.size, 0, none⟩) 1 1, .int .i64 a.kind, .int .u64 a.s0, .int .u64 a.s1, .int .u64 a.s2, .int .u64 a.s3, .int .i64 a.lo, .int .i64 a.hi, .slice A n c] 49)).size)).trans ((pb_below v6 ds6).mono ((two_al z5 (.cells #[.int .i64 a.kind, .int .u64 a.s0, .int .u64 a.s1, .int .u64 a.s2, .int .u64 a.s3, .int .i64 a.lo, .int .i64 a.hi, .slice A n c] 49) (.cells #[.int .i64 4, .int .u64 0, .int .u64 0, .int .u64 0, .int .u64 0, .int .i64 2, .int .i64 (-1), .slice (some ⟨z5.heap.size, 0, none⟩) 1 1, .int .i64 a.kind, .int .u64 a.s0, .int .u64 a.s1, .int .u64 a.s2, .int .u64 a.s3, .int .i64 a.lo, .int .i64 a.hi, .slice A n c] 49)).trans (HB6.out.mono (two_al z5 (.cells #[.int .i64 a.kind, .int .u64 a.s0, .int .u64 a.s1, .int .u64 a.s2, .int .u64 a.s3, .int .i64 a.lo, .int .i64 a.hi, .slice A n c] 49) (.cells #[.int .i64 4, .int .u64 0, .int .u64 0, .int .u64 0, .int .u64 0, .int .i64 2, .int .i64 (-1), .slice (some ⟨z5.heap.size, 0, none⟩) 1 1, .int .i64 a.kind, .int .u64 a.s0, .int .u64 a.s1, .int .u64 a.s2, .int .u64 a.s3, .int .i64 a.lo, .int .i64 a.hi, .slice A n c] 49)).size)).size)
      have HP6 := Lib.hid (pb_new HS6.out)
      have HM7 := Lib.hid (HM6.out.go hbn6)
      replace HP1 := Lib.hid (HP1.out.go hbn6)
      replace HP2 := Lib.hid (HP2.out.go hbn6)
      replace HP3 := Lib.hid (HP3.out.go hbn6)
      replace HP4 := Lib.hid (HP4.out.go hbn6)
      replace HP5 := Lib.hid (HP5.out.go hbn6)
      obtain ⟨g6, hg6⟩ : ∃ g, g = v6.heap.size := ⟨_, rfl⟩
      rw [← hg6] at HP6 HM7 HP1 HP2 HP3 HP4 HP5 ⊢
      clear a0 a1 a2 a3 a4 a5 a6 a7  x0 x1 x2 x3 x4 x5 x6 x7 hst6 hbn6 HC6 HS6
      generalize (v6.alloc (.cells zs30 30)).setRow g6 ds6 = z6 at HP6 HM7 HP1 HP2 HP3 HP4 HP5 ⊢
      clear hg6
      have hl1 := HP1.out.load
      have hl2 := HP2.out.load
      have hl3 := HP3.out.load
      have hl4 := HP4.out.load
      have hl5 := HP5.out.load
      have hl6 := HP6.out.load
      have HQ1 := Lib.hid (same_any ds1 ds2 ok1 ok2 z6 HP1.out.say HP2.out.say (alt_twice a b))
      go_wp2_with (first
        | (go_at_call_of 29 (Value.agg ds1); refine HQ1.out.mono ?_; rintro e y1 ⟨rfl, hy1⟩; have HY1 := Lib.hid (HM7.out.go hy1); have HP3' := Lib.hid (HP3.out.go hy1); have HP4' := Lib.hid (HP4.out.go hy1); have HP5' := Lib.hid (HP5.out.go hy1); have HP6' := Lib.hid (HP6.out.go hy1); have k3 := HP3'.out.load; have k4 := HP4'.out.load; have HQ2 := Lib.hid (same_any ds3 ds4 ok3 ok4 y1 HP3'.out.say HP4'.out.say (star_star a)); clear hy1)
        | (go_at_call_of 29 (Value.agg ds3); refine HQ2.out.mono ?_; rintro e y2 ⟨rfl, hy2⟩; have HY2 := Lib.hid (HY1.out.go hy2); have HP5'' := Lib.hid (HP5'.out.go hy2); have HP6'' := Lib.hid (HP6'.out.go hy2); have k5 := HP5''.out.load; have k6 := HP6''.out.load; have HQ3 := Lib.hid (same_any ds5 ds6 ok5 ok6 y2 HP5''.out.say HP6''.out.say (one_two a)); clear hy2)
        | (go_at_call_of 29 (Value.agg ds5); refine HQ3.out.mono ?_; rintro e y3 ⟨rfl, hy3⟩; have HY3 := Lib.hid (HY2.out.go hy3); clear hy3))
      go_returns
      exact ⟨by first | rfl | simp, HY3.out.bel⟩
end Go.Proofs.Ytfjhcoeehjephaa
