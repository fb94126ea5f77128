/- QLess, QBox of this seat, in one text. -/
import Derived.Test.YtgejpggbmgiocaaM10
import Derived.Test.YtgejpggbmgiocaaM11
import Derived.Deep.RegionHeld3
import Derived.BigRegion
import Derived.Deep.AppendLies
import Derived.Deep.RegionLaw
import Derived.Deep.Cut
import Derived.Deep.CutRange
import Derived.Deep.CutBlock
/- Which of two pairs comes first. -/
namespace Go.Proofs.Ytgejpggbmgiocaa
open Go.RowKit

def cmp (x y : Int) : Int := if x < y then -1 else if y < x then 1 else 0
set_option maxHeartbeats 2000000 in
theorem compare_any (x y : Int) (w : World) : Calls Try.prog 39 #[.int .i64 x, .int .i64 y] w fun e w' => e = .returned (.int .i64 (cmp x y)) ∧ w' = w := by
  have hx : (x != x) = false := by simp
  have hy : (y != y) = false := by simp
  unfold cmp
  by_cases h1 : x < y
  · go_enter Try.func39, Try.ntmps39
    go_wp2
    go_ret
    exact ⟨by first | rfl | simp, rfl⟩
  · by_cases h2 : y < x
    · go_enter Try.func39, Try.ntmps39
      go_wp2
      go_ret
      exact ⟨by first | rfl | simp, rfl⟩
    · go_enter Try.func39, Try.ntmps39
      go_wp2
      go_ret
      exact ⟨by first | rfl | simp, rfl⟩
def or2 (x y : Int) : Int := if x = 0 then y else x
set_option maxHeartbeats 2000000 in
theorem or_any (b : Nat) (x y : Int) (w : World) (h0 : w.cell? ⟨b, 0, none⟩ = some (.int .i64 x)) (h1 : w.cell? ⟨b, 1, none⟩ = some (.int .i64 y)) : Calls Try.prog 38 #[.slice (some ⟨b, 0, none⟩) 2 2] w fun e w' => e = .returned (.int .i64 (or2 x y)) ∧ w' = w := by
  unfold or2
  by_cases hx : x = 0
  · have b0 : (x != 0) = false := by simp [hx]
    rw [if_pos hx]
    clear hx
    by_cases hy : y = 0
    · have b1 : (y != 0) = false := by simp [hy]
      have HY := Lib.hid hy
      clear hy
      go_enter Try.func38, Try.ntmps38
      go_wp2
      go_loop [8] (fun i => ∃ k : Nat, k ≤ 2 ∧ i = .int .i64 k) (fun i => 2 - (intOf i).toNat)
      case atStart => exact ⟨0, by omega, rfl⟩
      case round =>
        obtain ⟨k, hk, rfl⟩ := hrel
        rcases (by omega : k = 0 ∨ k = 1 ∨ k = 2) with rfl | rfl | rfl
        · go_wp2
          go_round
          case rel => exact ⟨1, by omega, by go_num⟩
          case measure => simp [intOf]
        · go_wp2
          go_round
          case rel => exact ⟨2, by omega, by go_num⟩
          case measure => simp [intOf]
        · go_wp2
          go_ret
          exact ⟨by rw [HY.out]; rfl, rfl⟩
    · have b1 : (y != 0) = true := by simp [hy]
      clear hy
      go_enter Try.func38, Try.ntmps38
      go_wp2
      go_loop [8] (fun i => ∃ k : Nat, k ≤ 1 ∧ i = .int .i64 k) (fun i => 2 - (intOf i).toNat)
      case atStart => exact ⟨0, by omega, rfl⟩
      case round =>
        obtain ⟨k, hk, rfl⟩ := hrel
        rcases (by omega : k = 0 ∨ k = 1) with rfl | rfl
        · go_wp2
          go_round
          case rel => exact ⟨1, by omega, by go_num⟩
          case measure => simp [intOf]
        · go_wp2
          go_ret
          exact ⟨rfl, rfl⟩
  · have b0 : (x != 0) = true := by simp [hx]
    rw [if_neg hx]
    clear hx
    go_enter Try.func38, Try.ntmps38
    go_wp2
    go_loop [8] (fun i => i = .int .i64 0) (fun _ => 0)
    case atStart => rfl
    case round =>
      subst hrel
      go_wp2
      go_ret
      exact ⟨rfl, rfl⟩
def prF (p : Pr) : Nat → Value
  | 0 => .int .i64 p.rank
  | 1 => .int .i64 p.left
  | 2 => .int .i64 p.first
  | 3 => .int .i64 p.second
  | _ => .int .i64 p.id
def prV (p : Pr) : Value := .agg #[.int .i64 p.rank, .int .i64 p.left, .int .i64 p.first, .int .i64 p.second, .int .i64 p.id]
structure LS (w : World) (p q : Pr) (W : World) : Prop where
  bel : Below w.heap.size w W
  lt : w.heap.size + 2 ≤ W.heap.size
  p0 : W.cell? ⟨w.heap.size, 0, none⟩ = some (.int .i64 p.rank)
  p1 : W.cell? ⟨w.heap.size, 1, none⟩ = some (.int .i64 p.left)
  q0 : W.cell? ⟨w.heap.size + 1, 0, none⟩ = some (.int .i64 q.rank)
  q1 : W.cell? ⟨w.heap.size + 1, 1, none⟩ = some (.int .i64 q.left)
theorem LS.go {w W W' : World} {p q : Pr} (h : LS w p q W) (hb : Below W.heap.size W W') : LS w p q W' := by
  have := h.lt
  exact ⟨h.bel.trans (hb.mono (by omega)), Nat.le_trans h.lt hb.size, (hb.cell (p := ⟨w.heap.size, 0, none⟩) (by show w.heap.size < _; omega)).trans h.p0, (hb.cell (p := ⟨w.heap.size, 1, none⟩) (by show w.heap.size < _; omega)).trans h.p1,
    (hb.cell (p := ⟨w.heap.size + 1, 0, none⟩) (by show w.heap.size + 1 < _; omega)).trans h.q0, (hb.cell (p := ⟨w.heap.size + 1, 1, none⟩) (by show w.heap.size + 1 < _; omega)).trans h.q1⟩
theorem LS.alloc {w W : World} {p q : Pr} (h : LS w p q W) (o : Obj) : LS w p q (W.alloc o) := h.go ((Below.refl _ _).alloc (Nat.le_refl _) _)
theorem LS.drew {w W : World} {p q : Pr} (h : LS w p q W) : LS w p q W.drew := h.go (Below.refl _ _).drew
def lessB (p q : Pr) : Bool := decide (p.rank < q.rank ∨ p.rank = q.rank ∧ p.left < q.left)
theorem lessB_eq (p q : Pr) : decide (or2 (cmp p.rank q.rank) (cmp p.left q.left) < 0) = lessB p q := by
  unfold lessB or2 cmp
  congr 1
  apply propext
  repeat' split
  all_goals omega
set_option maxRecDepth 100000 in
set_option maxHeartbeats 4000000 in
theorem less_any (p q : Pr) (w : World) : Calls Try.prog 25 #[prV p, prV q] w fun e w' => e = .returned (.bool (lessB p q)) ∧ Below w.heap.size w w' := by
  have HE := Lib.hid (lessB_eq p q)
  obtain ⟨x, hx⟩ : ∃ x, x = cmp p.rank q.rank := ⟨_, rfl⟩
  obtain ⟨y, hy⟩ : ∃ y, y = cmp p.left q.left := ⟨_, rfl⟩
  have HC0 := Lib.hid (compare_any p.rank q.rank)
  have HC1 := Lib.hid (compare_any p.left q.left)
  rw [← hx] at HE HC0
  rw [← hy] at HE HC1
  clear hx hy
  have hLS : LS w p q ((w.alloc (.cells #[.int .i64 p.rank, .int .i64 p.left, .int .i64 p.first, .int .i64 p.second, .int .i64 p.id] 57)).alloc (.cells #[.int .i64 q.rank, .int .i64 q.left, .int .i64 q.first, .int .i64 q.second, .int .i64 q.id] 57)) := by
    refine ⟨((Below.refl _ _).alloc (Nat.le_refl _) _).alloc (by simp) _, by simp, ?_, ?_, ?_, ?_⟩ <;> go_simp
  have HL := Lib.hid hLS
  clear hLS
  unfold prV
  go_enter Try.func25, Try.ntmps25
  go_wp2_with fail
  generalize (w.alloc _).alloc _ = W1 at HL ⊢
  have hq0 : ∀ W, LS w p q W → W.cell? ⟨w.heap.size, 0, none⟩ = some (.int .i64 p.rank) := fun W h => h.p0
  have hq1 : ∀ W, LS w p q W → W.cell? ⟨w.heap.size, 1, none⟩ = some (.int .i64 p.left) := fun W h => h.p1
  have hq2 : ∀ W, LS w p q W → W.cell? ⟨w.heap.size + 1, 0, none⟩ = some (.int .i64 q.rank) := fun W h => h.q0
  have hq3 : ∀ W, LS w p q W → W.cell? ⟨w.heap.size + 1, 1, none⟩ = some (.int .i64 q.left) := fun W h => h.q1
  refine wp_region_held_drew (S := fun W' => LS w p q W') (by kernel_rfl) (HL.out.drew) (fun hHeld => ?_)
  refine wpAnyH_take (i := 0) (v := ?v0) (List.getElem?_toArray.trans rfl) (by kernel_rfl) (by kernel_rfl) (by kernel_rfl) (fun _ _ _ h => h) (Or.inl ⟨by rfl, ?hy0⟩) (by assumption) ?rest0
  case hy0 => (intro W hSw; go_simp <;> (with_reducible rfl))
  simp only [Act.put, List.setIfInBounds_toArray, List.set_cons_zero, List.set_cons_succ]
  refine wpAnyH_take (i := 1) (v := ?v1) (List.getElem?_toArray.trans rfl) (by kernel_rfl) (by kernel_rfl) (by kernel_rfl) (fun _ _ _ h => h) (Or.inl ⟨by rfl, ?hy1⟩) (by assumption) ?rest1
  case hy1 => (intro W hSw; go_simp <;> (with_reducible rfl))
  simp only [Act.put, List.setIfInBounds_toArray, List.set_cons_zero, List.set_cons_succ]
  refine wpAnyH_take (i := 2) (v := ?v2) (List.getElem?_toArray.trans rfl) (by kernel_rfl) (by kernel_rfl) (by kernel_rfl) (fun _ _ _ h => h) (Or.inl ⟨by rfl, ?hy2⟩) (by assumption) ?rest2
  case hy2 => (intro W hSw; go_simp <;> (with_reducible rfl))
  simp only [Act.put, List.setIfInBounds_toArray, List.set_cons_zero, List.set_cons_succ]
  refine wpAnyH_take (i := 3) (v := ?v3) (List.getElem?_toArray.trans rfl) (by kernel_rfl) (by kernel_rfl) (by kernel_rfl) (fun _ _ _ h => h) (Or.inl ⟨by rfl, ?hy3⟩) (by assumption) ?rest3
  case hy3 => (intro W hSw; go_simp <;> (with_reducible rfl))
  simp only [Act.put, List.setIfInBounds_toArray, List.set_cons_zero, List.set_cons_succ]
  refine wpAnyH_take_call 4 (.int .i64 x) (List.getElem?_toArray.trans rfl) (by kernel_rfl) (by kernel_rfl) (by kernel_rfl) (by kernel_rfl) (by kernel_rfl) (fun _ _ _ h => h) ⟨by rfl, fun W hSw => ⟨39, #[.int .i64 p.rank, .int .i64 q.rank], (by kernel_rfl), HC0.out W⟩⟩ (by assumption) ?_
  simp only [Act.put, List.setIfInBounds_toArray, List.set_cons_zero, List.set_cons_succ]
  refine wpAnyH_take (i := 5) (v := ?v5) (List.getElem?_toArray.trans rfl) (by kernel_rfl) (by kernel_rfl) (by kernel_rfl) (fun _ _ _ h => h) (Or.inl ⟨by rfl, ?hy5⟩) (by assumption) ?rest5
  case hy5 => (intro W hSw; go_simp <;> (with_reducible rfl))
  simp only [Act.put, List.setIfInBounds_toArray, List.set_cons_zero, List.set_cons_succ]
  refine wpAnyH_take (i := 6) (v := ?v6) (List.getElem?_toArray.trans rfl) (by kernel_rfl) (by kernel_rfl) (by kernel_rfl) (fun _ _ _ h => h) (Or.inl ⟨by rfl, ?hy6⟩) (by assumption) ?rest6
  case hy6 => (intro W hSw; go_simp <;> (with_reducible rfl))
  simp only [Act.put, List.setIfInBounds_toArray, List.set_cons_zero, List.set_cons_succ]
  refine wpAnyH_take (i := 7) (v := ?v7) (List.getElem?_toArray.trans rfl) (by kernel_rfl) (by kernel_rfl) (by kernel_rfl) (fun _ _ _ h => h) (Or.inl ⟨by rfl, ?hy7⟩) (by assumption) ?rest7
  case hy7 => (intro W hSw; go_simp <;> (with_reducible rfl))
  simp only [Act.put, List.setIfInBounds_toArray, List.set_cons_zero, List.set_cons_succ]
  refine wpAnyH_take (i := 8) (v := ?v8) (List.getElem?_toArray.trans rfl) (by kernel_rfl) (by kernel_rfl) (by kernel_rfl) (fun _ _ _ h => h) (Or.inl ⟨by rfl, ?hy8⟩) (by assumption) ?rest8
  case hy8 => (intro W hSw; go_simp <;> (with_reducible rfl))
  simp only [Act.put, List.setIfInBounds_toArray, List.set_cons_zero, List.set_cons_succ]
  refine wpAnyH_take_call 9 (.int .i64 y) (List.getElem?_toArray.trans rfl) (by kernel_rfl) (by kernel_rfl) (by kernel_rfl) (by kernel_rfl) (by kernel_rfl) (fun _ _ _ h => h) ⟨by rfl, fun W hSw => ⟨39, #[.int .i64 p.left, .int .i64 q.left], (by kernel_rfl), HC1.out W⟩⟩ (by assumption) ?_
  simp only [Act.put, List.setIfInBounds_toArray, List.set_cons_zero, List.set_cons_succ]
  refine wpAnyH_ready (rs := [10]) (by kernel_rfl) (by simp) ?_
  refine AllReadyH.cons (List.getElem?_toArray.trans rfl) (fun K hK => ?_) AllReadyH.nil
  go_simp
  refine hK.out _ _ (LS.alloc (by assumption) _) (fun hHeld => ?_)
  clear hK K
  refine wpAnyH_ready (rs := [11]) (by kernel_rfl) (by simp) ?_
  refine AllReadyH.cons (List.getElem?_toArray.trans rfl) (fun K hK => ?_) AllReadyH.nil
  go_simp
  refine (or_any _ x y _ (by go_simp) (by go_simp)).mono ?_
  rintro e w2 ⟨rfl, rfl⟩
  refine hK.out _ _ (by assumption) (fun hHeld => ?_)
  clear hK K
  refine wpAnyH_take (i := 12) (v := ?v12) (List.getElem?_toArray.trans rfl) (by kernel_rfl) (by kernel_rfl) (by kernel_rfl) (fun _ _ _ h => h) (Or.inl ⟨by rfl, ?hy12⟩) (by assumption) ?rest12
  case hy12 => (intro W hSw; go_simp <;> (with_reducible rfl))
  simp only [Act.put, List.setIfInBounds_toArray, List.set_cons_zero, List.set_cons_succ]
  refine wpAnyH_take (i := 13) (v := ?v13) (List.getElem?_toArray.trans rfl) (by kernel_rfl) (by kernel_rfl) (by kernel_rfl) (fun _ _ _ h => h) (Or.inl ⟨by rfl, ?hy13⟩) (by assumption) ?rest13
  case hy13 => (intro W hSw; go_simp <;> (with_reducible rfl))
  simp only [Act.put, List.setIfInBounds_toArray, List.set_cons_zero, List.set_cons_succ]
  refine wpAnyH_done (by kernel_rfl) ?_ _
  go_wp2_with fail
  go_returns
  exact ⟨by rw [← HE.out]; rfl, ((by assumption : LS w p q _)).bel⟩
end Go.Proofs.Ytgejpggbmgiocaa
/- The queue in memory: a box that holds a row of pairs. -/
namespace Go.Proofs.Ytgejpggbmgiocaa
open Go.RowKit

def loadPr (v : Value) : Sem Value := Instr.loadAt 57 v
theorem load_pr (v : Value) : Instr.loadAt 57 v = loadPr v := rfl
def storePr (v u : Value) : Sem Unit := Instr.storeAt 57 v u
theorem store_pr (v u : Value) : Instr.storeAt 57 v u = storePr v u := rfl
theorem info57 : (Try.prog.info? 57).map (·.size) = some 5 := by kernel_rfl
theorem prV_cells (p : Pr) : prV p = .agg (cellsOfEl 5 prF p).toArray := rfl
theorem cells_one (p : Pr) : ∀ v ∈ cellsOfEl 5 prF p, v.oneCell' = true := by
  intro v hv
  have : v ∈ [Value.int .i64 p.rank, .int .i64 p.left, .int .i64 p.first, .int .i64 p.second, .int .i64 p.id] := hv
  simp at this
  rcases this with rfl | rfl | rfl | rfl | rfl <;> rfl
theorem load_range {W : World} {b o : Nat} {p : Pr} (h : W.rangeAt b o (cellsOfEl 5 prF p)) : (loadPr (.pointer (some ⟨b, o, none⟩))).run Try.prog W = .ok (prV p) W := by
  have := run_loadAt_mid W b o 57 _ _ h Try.underlying57 rfl (by rw [length_cellsOfEl]; exact info57)
  rw [prV_cells]
  exact this
theorem store_range {W : World} {b o : Nat} {p : Pr} (h : W.there b o 5) : (storePr (.pointer (some ⟨b, o, none⟩)) (prV p)).run Try.prog W = .ok () (W.setCells b o (cellsOfEl 5 prF p)) := by
  rw [prV_cells]
  exact run_storeAt_mid W b o 57 _ h info57 (all_oneCell_toArray (cells_one p))
abbrev qflat (q : List Pr) : List Value := flat 5 prF pr0 q
structure QB (g0 : Nat) (w0 w : World) (a : Value) (q : List Pr) : Prop where
  below : Below g0 w0 w
  box : Blk w g0 50 [a]
  own : w.ownsRow (g0 + 1) 57 5 a q.length (qflat q)
section
variable {g0 : Nat} {w0 w w' : World} {a : Value} {q : List Pr}
theorem QB.lt (h : QB g0 w0 w a q) : g0 < w.heap.size := h.box.lt
theorem QB.c0 (h : QB g0 w0 w a q) : w.cell? ⟨g0, 0, none⟩ = some a := h.box.cell 0
theorem QB.f0 (h : QB g0 w0 w a q) : w.frozen? ⟨g0, 0, none⟩ = false := h.box.frozen 0
theorem QB.go (h : QB g0 w0 w a q) (hb : Below w.heap.size w w') : QB g0 w0 w' a q :=
  ⟨h.below.trans (hb.mono (Nat.le_of_lt h.lt)), (hb.block g0 h.lt).trans h.box, own_move h.own (fun b _ e ho _ => (hb.block b (h.own.lt b e).2).trans ho)⟩
theorem QB.drew (h : QB g0 w0 w a q) : QB g0 w0 w.drew a q := h.go (Below.refl _ _).drew
theorem QB.drewN (h : QB g0 w0 w a q) (n : Nat) : QB g0 w0 (w.drewN n) a q := h.go (below_drewN (Below.refl _ _) n)
theorem QB.alloc (h : QB g0 w0 w a q) (o : Obj) : QB g0 w0 (w.alloc o) a q := h.go ((Below.refl _ _).alloc (Nat.le_refl _) _)
theorem QB.form (h : QB g0 w0 w a q) (hn : 0 < q.length) : ∃ g cap, a = .slice (some ⟨g, 0, none⟩) q.length cap := by
  obtain ⟨g, cap, hv, _⟩ := h.own.form hn
  exact ⟨g, cap, hv⟩
theorem QB.off (h : QB g0 w0 w a q) : some g0 ≠ a.ownBlock := fun hv => by have := (h.own.lt g0 hv.symm).1; omega
/-- the row's value is put into the box: any own row -/
theorem QB.put {x a' : Value} {q' : List Pr} (hb : Below g0 w0 w) (hbox : Blk w g0 50 [x]) (ho : w.ownsRow (g0 + 1) 57 5 a' q'.length (qflat q')) : QB g0 w0 (w.setCell ⟨g0, 0, none⟩ a') a' q' := by
  have hg : w.grownBy (w.setCell ⟨g0, 0, none⟩ a') (some g0) := ⟨rfl, rfl, rfl, by simp, fun k _ hk => heap_setCell_other w ⟨g0, 0, none⟩ k a' (fun e => hk (by simp [e]))⟩
  refine ⟨hb.grown hg (Nat.le_of_lt hbox.lt) (fun k hk => by cases hk; exact Nat.le_refl _), hbox.set 0 a', ho.kept hg ?_⟩
  cases hv : a'.ownBlock with
  | none => exact .inl rfl
  | some g => exact .inr (fun e => by injection e with e; have := (ho.lt g hv).1; omega)
section
variable {g n cap : Nat} (h : QB g0 w0 w (.slice (some ⟨g, 0, none⟩) n cap) q) (hl : q.length = n)
include h
theorem QB.near : g0 < g ∧ g < w.heap.size := by
  have h1 := h.own.lt g rfl
  exact ⟨by omega, h1.2⟩
include hl
theorem QB.capLe : n ≤ cap := by
  have ho := h.own
  rw [hl] at ho
  exact own_cap ho
theorem QB.range {k : Nat} (hk : k < n) : w.rangeAt g (k * 5) (cellsOfEl 5 prF (q.getD k pr0)) ∧ w.there g (k * 5) 5 := by
  have ho := h.own
  rw [hl] at ho
  exact own_range ho hl hk
theorem QB.load {k : Nat} (hk : k < n) : (loadPr (.pointer (some ⟨g, k * 5, none⟩))).run Try.prog w = .ok (prV (q.getD k pr0)) w := load_range (h.range hl hk).1
theorem QB.store {k : Nat} (hk : k < n) (x : Pr) : (storePr (.pointer (some ⟨g, k * 5, none⟩)) (prV x)).run Try.prog w = .ok () (w.setCells g (k * 5) (cellsOfEl 5 prF x)) ∧
    QB g0 w0 (w.setCells g (k * 5) (cellsOfEl 5 prF x)) (.slice (some ⟨g, 0, none⟩) n cap) (q.set k x) := by
  have ho := h.own
  rw [hl] at ho
  obtain ⟨h1, h2⟩ := own_setCells (vs := cellsOfEl 5 prF x) (o := k * 5) ho
  have hlt := (h.own.lt g rfl).1
  refine ⟨store_range (h.range hl hk).2, h.below.grown h2 (Nat.le_of_lt h.lt) (fun k hk => by cases hk; omega), (h2.block g0 h.lt (fun e => by cases e; omega)).trans h.box, ?_⟩
  rw [List.length_set, hl]
  rw [flat_setEl (by omega)] at h1
  exact h1
end
theorem own_cut5 {g n cap m base : Nat} {e : TypeId} {xs : List Value} (h : w.ownsRow base e 5 (.slice (some ⟨g, 0, none⟩) n cap) n xs) (hm : m ≤ n) : w.ownsRow base e 5 (.slice (some ⟨g, 0, none⟩) m cap) m (xs.take (m * 5)) := by
  have hl := h.1
  rcases h.2 with ⟨h', _⟩ | ⟨g', cap', cur, h', hb, hg, hnc, hcm, hcs, htake⟩
  · simp at h'
  · simp only [Value.slice.injEq, Option.some.injEq, Addr.mk.injEq, and_true, true_and] at h'
    obtain ⟨rfl, rfl⟩ := h'
    refine ⟨by rw [List.length_take]; omega, .inr ⟨g, cap, cur, rfl, hb, hg, by omega, hcm, hcs, ?_⟩⟩
    rw [← htake, List.take_take]
    congr 1
    omega
end
/-- the order of two pairs is that of their numbers -/
def SmallP (p : Pr) : Prop := 0 ≤ p.rank ∧ p.rank < 4294967296 ∧ 0 ≤ p.left ∧ p.left < 4294967296
theorem less_key {p q : Pr} (hp : SmallP p) (hq : SmallP q) : lessB p q = decide (prKey p < prKey q) := by
  obtain ⟨_, _, _, _⟩ := hp
  obtain ⟨_, _, _, _⟩ := hq
  unfold lessB prKey
  congr 1
  apply propext
  omega
end Go.Proofs.Ytgejpggbmgiocaa
