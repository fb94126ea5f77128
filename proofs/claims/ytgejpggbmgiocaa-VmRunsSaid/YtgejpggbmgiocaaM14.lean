/- MInit, QTake of this seat, in one text. -/
import Derived.Test.YtgejpggbmgiocaaM13
/- Merge's list: made, and filled. -/
namespace Go.Proofs.Ytgejpggbmgiocaa
open Go.RowKit
def storeNd (v u : Value) : Sem Unit := Instr.storeAt 47 v u
theorem store_nd (v u : Value) : Instr.storeAt 47 v u = storeNd v u := rfl
theorem info47 : (Try.prog.info? 47).map (·.size) = some 3 := by kernel_rfl
theorem nd_store {W : World} {gl : Nat} {nd : List Nd} (h : Blk W gl 47 (nflat nd)) {k : Nat} (hk : k < nd.length) (v : Nd) :
    (storeNd (.pointer (some ⟨gl, k * 3, none⟩)) (.agg #[.int .i64 v.id, .int .i64 v.next, .int .i64 v.last])).run Try.prog W = .ok () (W.setCells gl (k * 3) [.int .i64 v.id, .int .i64 v.next, .int .i64 v.last]) ∧
    Blk (W.setCells gl (k * 3) [.int .i64 v.id, .int .i64 v.next, .int .i64 v.last]) gl 47 (nflat (nd.set k v)) := by
  have hc : [Value.int .i64 v.id, .int .i64 v.next, .int .i64 v.last] = cellsOfEl 3 ndF v := rfl
  refine ⟨run_storeAt_mid W gl (k * 3) 47 _ (blk_range h hk).2 info47 (by simp [Value.oneCell']), ?_⟩
  have := h.setCells (vs := cellsOfEl 3 ndF v) (o := k * 3)
  rw [hc]
  rw [flat_setEl hk] at this
  exact this
theorem make_nodes (n : Nat) (hn : n ≤ 262144) (W : World) : (Instr.makeSlice 45 (.int .i64 (n : Int)) (.int .i64 (n : Int))).run Try.prog W = .ok (.slice (some ⟨W.heap.size, 0, none⟩) n n) (W.alloc (.cells (nflat (List.replicate n nd0)).toArray 47)) := by
  obtain ⟨i, z, hi, hz, h1, hb, hc⟩ : ∃ i z, Try.prog.info? 47 = some i ∧ i.zero = some z ∧ i.size = 3 ∧ i.bytes = 24 ∧ z.cells = #[.int .i64 0, .int .i64 0, .int .i64 0] := ⟨_, _, rfl, rfl, rfl, rfl, rfl⟩
  rw [run_makeSlice W 45 47 i z Try.underlying45 hi hz .i64 .i64 (n : Int) (n : Int) (by omega) (Int.le_refl _) (by rw [h1, Int.toNat_natCast]; omega) (by rw [hb]; omega) (by omega)]
  rw [h1, hc, Int.toNat_natCast]
  have : madeCells #[.int .i64 0, .int .i64 0, .int .i64 0] (n * 3) = (nflat (List.replicate n nd0)).toArray := by
    unfold madeCells nflat flat
    rw [List.length_replicate]
    apply Array.ext
    · simp
    · intro t h8 h9
      have ht : t < n * 3 := by simpa using h8
      rw [Array.getElem_map, Array.getElem_range]
      simp only [List.getElem_toArray, List.getElem_map, List.getElem_range]
      have e1 : (List.replicate n nd0).getD (t / 3) nd0 = nd0 := by
        rw [List.getD_eq_getElem?_getD, List.getElem?_replicate]
        split <;> rfl
      rw [e1]
      rcases (by omega : t % 3 = 0 ∨ t % 3 = 1 ∨ t % 3 = 2) with e | e | e
      · rw [e]; show (#[Value.int .i64 0, .int .i64 0, .int .i64 0])[t % 3]! = _; rw [e]; rfl
      · rw [e]; show (#[Value.int .i64 0, .int .i64 0, .int .i64 0])[t % 3]! = _; rw [e]; rfl
      · rw [e]; show (#[Value.int .i64 0, .int .i64 0, .int .i64 0])[t % 3]! = _; rw [e]; rfl
  rw [this]
/-- the list when k nodes are filled -/
def ndPre (l : List Int) (k : Nat) : List Nd := (List.range l.length).map fun i => if i < k then ⟨l.getD i 0, (i : Int) + 1, (i : Int) - 1⟩ else nd0
theorem length_ndPre (l : List Int) (k : Nat) : (ndPre l k).length = l.length := by simp [ndPre]
theorem ndPre_zero (l : List Int) : ndPre l 0 = List.replicate l.length nd0 := by
  apply List.ext_getElem (by simp [ndPre])
  intro i h1 h2
  simp [ndPre]
theorem ndPre_zero' (l : List Int) (n : Nat) (h : l.length = n) : ndPre l 0 = List.replicate n nd0 := by rw [ndPre_zero, h]
theorem ndPre_set (l : List Int) (k : Nat) : (ndPre l k).set k ⟨l.getD k 0, (k : Int) + 1, (k : Int) - 1⟩ = ndPre l (k + 1) := by
  apply List.ext_getElem (by simp [ndPre])
  intro i h1 h2
  rw [List.getElem_set]
  simp only [ndPre, List.getElem_map, List.getElem_range]
  by_cases e : k = i
  · subst e; rw [if_pos rfl, if_pos (by omega)]
  · rw [if_neg e]
    by_cases h9 : i < k
    · rw [if_pos h9, if_pos (by omega)]
    · rw [if_neg h9, if_neg (by omega)]
theorem ndPre_last (l : List Int) (h0 : 0 < l.length) : (ndPre l l.length).set (l.length - 1) ⟨l.getD (l.length - 1) 0, -1, ((l.length - 1 : Nat) : Int) - 1⟩ = ndInit l := by
  apply List.ext_getElem (by simp [ndPre, ndInit])
  intro i h1 h2
  rw [List.getElem_set]
  have hi : i < l.length := by simpa [ndPre] using h1
  simp only [ndPre, ndInit, List.getElem_map, List.getElem_range]
  by_cases e : l.length - 1 = i
  · subst e
    rw [if_pos rfl, if_pos (by omega)]
  · rw [if_neg e, if_pos hi, if_neg (by omega)]
    congr 1
theorem ndPre_at (l : List Int) (k i : Nat) (hi : i < l.length) (hk : i < k) : ndAt (ndPre l k) i = ⟨l.getD i 0, (i : Int) + 1, (i : Int) - 1⟩ := by
  simp [ndAt, ndPre, hi, hk]
/-- one field of a node is written -/
theorem nd_setId {W : World} {gl : Nat} {nd : List Nd} (h : Blk W gl 47 (nflat nd)) {k : Nat} (hk : k < nd.length) (x : Int) : Blk (W.setCell ⟨gl, k * 3, none⟩ (.int .i64 x)) gl 47 (nflat (nd.set k ⟨x, (ndAt nd k).next, (ndAt nd k).last⟩)) := by
  have := h.set (k * 3 + 0) (.int .i64 x)
  rw [nflat, flat_set (j := 0) (v := .int .i64 x) (x := (⟨x, (ndAt nd k).next, (ndAt nd k).last⟩ : Nd)) hk (by omega) rfl (fun i hi hne => by
    rcases (by omega : i = 1 ∨ i = 2) with rfl | rfl <;> rfl)] at this
  exact this
theorem nd_setNext {W : World} {gl : Nat} {nd : List Nd} (h : Blk W gl 47 (nflat nd)) {k : Nat} (hk : k < nd.length) (x : Int) : Blk (W.setCell ⟨gl, k * 3 + 1, none⟩ (.int .i64 x)) gl 47 (nflat (nd.set k ⟨(ndAt nd k).id, x, (ndAt nd k).last⟩)) := by
  have := h.set (k * 3 + 1) (.int .i64 x)
  rw [nflat, flat_set (j := 1) (v := .int .i64 x) (x := (⟨(ndAt nd k).id, x, (ndAt nd k).last⟩ : Nd)) hk (by omega) rfl (fun i hi hne => by
    rcases (by omega : i = 0 ∨ i = 2) with rfl | rfl <;> rfl)] at this
  exact this
theorem nd_setLast {W : World} {gl : Nat} {nd : List Nd} (h : Blk W gl 47 (nflat nd)) {k : Nat} (hk : k < nd.length) (x : Int) : Blk (W.setCell ⟨gl, k * 3 + 2, none⟩ (.int .i64 x)) gl 47 (nflat (nd.set k ⟨(ndAt nd k).id, (ndAt nd k).next, x⟩)) := by
  have := h.set (k * 3 + 2) (.int .i64 x)
  rw [nflat, flat_set (j := 2) (v := .int .i64 x) (x := (⟨(ndAt nd k).id, (ndAt nd k).next, x⟩ : Nd)) hk (by omega) rfl (fun i hi hne => by
    rcases (by omega : i = 0 ∨ i = 1) with rfl | rfl <;> rfl)] at this
  exact this
end Go.Proofs.Ytgejpggbmgiocaa
/- take: the first pair out of the queue. -/
namespace Go.Proofs.Ytgejpggbmgiocaa
open Go.RowKit
attribute [local go_sem ↓] load_pr store_pr
def zero5 : List Value := [.int .i64 0, .int .i64 0, .int .i64 0, .int .i64 0, .int .i64 0]
/-- the queue, the box of the result (b) and the box of what was taken (b + 1) -/
structure TK (b : Nat) (x : Pr) (g0 : Nat) (w0 W : World) (a : Value) (q : List Pr) : Prop where
  qb : QB g0 w0 W a q
  r : Blk W b 57 zero5
  x : Blk W (b + 1) 57 (cellsOfEl 5 prF x)
  hb : g0 < b
  off : ∀ k, a.ownBlock = some k → k < b
section
variable {b : Nat} {x : Pr} {g0 : Nat} {w0 W W' : World} {a : Value} {q : List Pr}
theorem TK.go (h : TK b x g0 w0 W a q) (hw : Below W.heap.size W W') : TK b x g0 w0 W' a q :=
  ⟨h.qb.go hw, h.r.below hw h.r.lt, h.x.below hw h.x.lt, h.hb, h.off⟩
theorem TK.drew (h : TK b x g0 w0 W a q) : TK b x g0 w0 W.drew a q := h.go (Below.refl _ _).drew
theorem TK.drewN (h : TK b x g0 w0 W a q) (n : Nat) : TK b x g0 w0 (W.drewN n) a q := h.go (below_drewN (Below.refl _ _) n)
theorem TK.store {g n cap k : Nat} (h : TK b x g0 w0 W (.slice (some ⟨g, 0, none⟩) n cap) q) (hl : q.length = n) (hk : k < n) (y : Pr) :
    (storePr (.pointer (some ⟨g, k * 5, none⟩)) (prV y)).run Try.prog W = .ok () (W.setCells g (k * 5) (cellsOfEl 5 prF y)) ∧ TK b x g0 w0 (W.setCells g (k * 5) (cellsOfEl 5 prF y)) (.slice (some ⟨g, 0, none⟩) n cap) (q.set k y) := by
  obtain ⟨h1, h2⟩ := h.qb.store hl hk y
  have hg := h.off g rfl
  obtain ⟨_, h3⟩ := own_setCells (vs := cellsOfEl 5 prF y) (o := k * 5) (by have := h.qb.own; rw [hl] at this; exact this)
  exact ⟨h1, h2, (h3.block b h.r.lt (fun e => by cases e; omega)).trans h.r, (h3.block (b + 1) h.x.lt (fun e => by cases e; omega)).trans h.x, h.hb, h.off⟩
theorem TK.loadX (h : TK b x g0 w0 W a q) : (loadPr (.pointer (some ⟨b + 1, 0, none⟩))).run Try.prog W = .ok (prV x) W :=
  load_range (fun j v hv => by rw [Nat.zero_add, h.x.cell]; exact hv)
theorem TK.storeR (h : TK b x g0 w0 W a q) : (storePr (.pointer (some ⟨b, 0, none⟩)) (prV x)).run Try.prog W = .ok () (W.setCells b 0 (cellsOfEl 5 prF x)) ∧ QB g0 w0 (W.setCells b 0 (cellsOfEl 5 prF x)) a q ∧ Blk (W.setCells b 0 (cellsOfEl 5 prF x)) b 57 (cellsOfEl 5 prF x) := by
  have hg := grownBy_setCells b (cellsOfEl 5 prF x) W 0
  have hne : ∀ k, k < W.heap.size → k ≠ b → (W.setCells b 0 (cellsOfEl 5 prF x)).heap[k]? = W.heap[k]? := fun k hk hkb => hg.block k hk (fun e => hkb (by injection e))
  have hb := h.hb
  refine ⟨store_range (fun j hj => ⟨?_, h.r.frozen _⟩), ⟨h.qb.below.grown hg (Nat.le_of_lt h.qb.lt) (fun k hk => by cases hk; omega), (hne g0 h.qb.lt (by omega)).trans h.qb.box, own_move h.qb.own (fun k _ e ho _ => (hne k (h.qb.own.lt k e).2 (by have := h.off k e; omega)).trans ho)⟩, ?_⟩
  · rw [h.r.cell]
    rcases (by omega : j = 0 ∨ j = 1 ∨ j = 2 ∨ j = 3 ∨ j = 4) with rfl | rfl | rfl | rfl | rfl <;> rfl
  · have := h.r.setCells (vs := cellsOfEl 5 prF x) (o := 0)
    exact this
end
theorem TK.cut {b : Nat} {x : Pr} {g0 : Nat} {w0 W : World} {q : List Pr} {g n cap m : Nat} (h : TK b x g0 w0 W (.slice (some ⟨g, 0, none⟩) n cap) q) (hl : q.length = n) (hm : m ≤ n) :
    TK b x g0 w0 (W.setCell ⟨g0, 0, none⟩ (.slice (some ⟨g, 0, none⟩) m cap)) (.slice (some ⟨g, 0, none⟩) m cap) (q.take m) := by
  have ho := h.qb.own
  rw [hl] at ho
  have hc := own_cut5 ho hm
  have hb := h.hb
  refine ⟨QB.put (q' := q.take m) h.qb.below h.qb.box (by rw [List.length_take, Nat.min_eq_left (by omega), qflat, flat_take]; exact hc), (Below.heap_setCell _ _ _ b (by show b ≠ g0; omega)).trans h.r, (Below.heap_setCell _ _ _ (b + 1) (by show b + 1 ≠ g0; omega)).trans h.x, h.hb, fun k hk => h.off k hk⟩
theorem LG_stop {ys : List Pr} {k j : Nat} (hj : j ≤ 2) (h : j = 2 ∨ ys.length ≤ 2 * k + 1 + j) : LG prKey pr0 ys k j = leastG prKey pr0 ys k := by
  rcases (by omega : j = 0 ∨ j = 1 ∨ j = 2) with rfl | rfl | rfl
  · unfold LG leastG least1G
    rw [if_neg (fun h9 => by omega), if_neg (fun h9 => by omega)]
    rfl
  · unfold LG leastG
    rw [least1G.eq_1 prKey pr0 ys ys.length (least1G prKey pr0 ys ys.length k (2 * k + 1)) (2 * k + 2), if_neg (fun h9 => by omega)]
    rfl
  · rfl
theorem LG_step (ys : List Pr) (k j : Nat) (hj : j < 2) (h : 2 * k + 1 + j < ys.length) : LG prKey pr0 ys k (j + 1) = if kAt prKey pr0 ys (2 * k + 1 + j) < kAt prKey pr0 ys (LG prKey pr0 ys k j) then 2 * k + 1 + j else LG prKey pr0 ys k j := by
  rcases (by omega : j = 0 ∨ j = 1) with rfl | rfl
  · show least1G prKey pr0 ys ys.length k (2 * k + 1) = _
    unfold least1G
    by_cases h9 : kAt prKey pr0 ys (2 * k + 1) < kAt prKey pr0 ys k
    · rw [if_pos ⟨by omega, h9⟩]; exact (if_pos h9).symm
    · rw [if_neg (fun h8 => h9 h8.2)]; exact (if_neg h9).symm
  · show least1G prKey pr0 ys ys.length (least1G prKey pr0 ys ys.length k (2 * k + 1)) (2 * k + 2) = if kAt prKey pr0 ys (2 * k + 2) < kAt prKey pr0 ys (least1G prKey pr0 ys ys.length k (2 * k + 1)) then 2 * k + 2 else least1G prKey pr0 ys ys.length k (2 * k + 1)
    generalize least1G prKey pr0 ys ys.length k (2 * k + 1) = l
    unfold least1G
    by_cases h9 : kAt prKey pr0 ys (2 * k + 2) < kAt prKey pr0 ys l
    · rw [if_pos ⟨by omega, h9⟩, if_pos h9]
    · rw [if_neg (fun h8 => h9 h8.2), if_neg h9]
set_option maxRecDepth 100000 in
set_option maxHeartbeats 4000000 in
theorem take_any (g0 n g cap : Nat) (w0 w : World) (q : List Pr) (hl : q.length = n + 1) (hn : n < 1000000) (hs : ∀ p ∈ q, SmallP p) (hh : HeapP q) (h : QB g0 w0 w (.slice (some ⟨g, 0, none⟩) (n + 1) cap) q) :
    Calls Try.prog 17 #[.pointer (some ⟨g0, 0, none⟩)] w fun e w' => e = .returned (prV (q.getD 0 pr0)) ∧ ∃ a' q', QB g0 w0 w' a' q' ∧ HeapP q' ∧ q.Perm (q.getD 0 pr0 :: q') := by
  obtain ⟨x, hx⟩ : ∃ x, x = q.getD 0 pr0 := ⟨_, rfl⟩
  obtain ⟨xn, hxn⟩ : ∃ x, x = q.getD n pr0 := ⟨_, rfl⟩
  have H1 := Lib.hid (h.alloc (.cells zero5.toArray 57))
  have hlt := h.lt
  have hgw := h.near
  have c0 := H1.out.c0
  have f0 := H1.out.f0
  have l0 := H1.out.drew.load hl (k := 0) (by omega)
  have l0b := (H1.out.alloc (.cells zero5.toArray 57)).drew.load hl (k := 0) (by omega)
  have hz : Blk ((w.alloc (.cells zero5.toArray 57)).alloc (.cells zero5.toArray 57)).drew (w.heap.size + 1) 57 zero5 := by
    have := Blk.new (w.alloc (.cells zero5.toArray 57)) 57 zero5
    rw [show (w.alloc (.cells zero5.toArray 57)).heap.size = w.heap.size + 1 by simp] at this
    exact this
  have hz0 : Blk ((w.alloc (.cells zero5.toArray 57)).alloc (.cells zero5.toArray 57)).drew w.heap.size 57 zero5 := (Blk.new w 57 zero5).alloc _
  have s0 : (storePr (.pointer (some ⟨w.heap.size + 1, 0, none⟩)) (prV x)).run Try.prog ((w.alloc (.cells zero5.toArray 57)).alloc (.cells zero5.toArray 57)).drew = .ok () (((w.alloc (.cells zero5.toArray 57)).alloc (.cells zero5.toArray 57)).drew.setCells (w.heap.size + 1) 0 (cellsOfEl 5 prF x)) :=
    store_range (fun j hj => ⟨by
      rw [hz.cell]
      rcases (by omega : j = 0 ∨ j = 1 ∨ j = 2 ∨ j = 3 ∨ j = 4) with rfl | rfl | rfl | rfl | rfl <;> rfl, hz.frozen _⟩)
  have hX : TK w.heap.size x g0 w0 (((w.alloc (.cells zero5.toArray 57)).alloc (.cells zero5.toArray 57)).drew.setCells (w.heap.size + 1) 0 (cellsOfEl 5 prF x)) (.slice (some ⟨g, 0, none⟩) (n + 1) cap) q := by
    have hg := grownBy_setCells (w.heap.size + 1) (cellsOfEl 5 prF x) ((w.alloc (.cells zero5.toArray 57)).alloc (.cells zero5.toArray 57)).drew 0
    have hQ := (H1.out.alloc (.cells zero5.toArray 57)).drew
    have e1 : ∀ k, k < w.heap.size + 1 → some k ≠ some (w.heap.size + 1) := fun k hk e => by injection e with e; omega
    refine ⟨⟨hQ.below.grown hg (Nat.le_of_lt hQ.lt) (fun k hk => by injection hk with hk; omega), (hg.block g0 hQ.lt (e1 _ (by omega))).trans hQ.box, own_move hQ.own (fun k _ e ho _ => (hg.block k (hQ.own.lt k e).2 (e1 _ (by injection e with e; simp only at e; omega))).trans ho)⟩, (hg.block _ hz0.lt (e1 _ (by omega))).trans hz0, hz.setCells (vs := cellsOfEl 5 prF x) (o := 0), hlt, fun k hk => by injection hk with hk; simp only at hk; omega⟩
  have c0c := hX.qb.c0
  rw [← hx] at l0 l0b ⊢
  have HTK := Lib.hid hX
  have HX := Lib.hid (And.intro hx hxn)
  have HS := Lib.hid hs
  have HH := Lib.hid hh
  have HL := Lib.hid hl
  clear h hs hh hx hxn hX hl
  unfold zero5 at *
  unfold prV at l0 l0b s0 ⊢
  simp only [cellsOfEl, prF, List.range, List.range.loop, List.map_cons, List.map_nil, Nat.zero_mul] at HTK l0 l0b s0 c0c
  have i1 : (0 : Int) < (n : Int) + 1 := by omega
  go_enter Try.func17, Try.ntmps17
  go_wp2_with fail
  go_region
  generalize ((w.alloc _).alloc _).drew.setCells _ _ _ = w1 at HTK ⊢
  clear c0 f0 l0 l0b s0 c0c hz hz0
  have c0 := HTK.out.qb.c0
  have ln := HTK.out.drew.qb.load HL.out (k := n) (by omega)
  obtain ⟨s1, h1⟩ := HTK.out.drew.store HL.out (k := 0) (by omega) xn
  rw [← HX.out.2] at ln
  have HT2 := Lib.hid h1
  clear h1
  unfold prV at ln s1
  simp only [cellsOfEl, prF, List.range, List.range.loop, List.map_cons, List.map_nil, Nat.zero_mul] at HT2 ln s1
  have i2 : (n : Int) < (n : Int) + 1 := by omega
  go_wp2_with fail
  go_region
  generalize w1.drew.setCells _ _ _ = w2 at HT2 ⊢
  clear c0 ln s1
  have c0 := HT2.out.qb.c0
  have f0 := HT2.out.qb.f0
  have hcap : n ≤ cap := by
    have := HT2.out.qb.capLe (by rw [List.length_set]; exact HL.out)
    omega
  have hT3 := HT2.out.cut (m := n) (by rw [List.length_set]; exact HL.out) (by omega)
  have HT3 := Lib.hid hT3
  go_upto_region 3 with (fail)
  go_cut [4] from 5 (fun v wx => v = .int .i64 n ∧ TK w.heap.size x g0 w0 wx (.slice (some ⟨g, 0, none⟩) n cap) ((q.set 0 xn).take n))
  case first =>
    clear hT3
    go_wp2_with fail
    go_meet
    exact ⟨rfl, HT3.out⟩
  case rest =>
  obtain ⟨rfl, hT4⟩ := hcut
  clear HT3 hT3 c0 f0 hcap HT2 HTK H1 i1 i2
  have HT3 := Lib.hid hT4
  clear hT4
  obtain ⟨w3, rfl⟩ : ∃ w3 : World, w3 = wc := ⟨_, rfl⟩
  go_wp2_with fail
  have HD := Lib.hid (DownG.new HH.out)
  have HP := Lib.hid (takeG_perm (d := pr0) (xs := q) (by rw [HL.out]; omega))
  rw [HL.out, Nat.add_sub_cancel, ← HX.out.2] at HD HP
  rw [← HX.out.1] at HP
  have hl3 : ((q.set 0 xn).take n).length = n := by rw [List.length_take, List.length_set, HL.out]; omega
  have HL3 := Lib.hid hl3
  clear hl3
  go_loopw [5] (fun i wr => ∃ (k : Nat) (ys : List Pr), i = .int .i64 k ∧ ys.length = n ∧ (k < n ∨ k = 0) ∧ TK w.heap.size x g0 w0 wr (.slice (some ⟨g, 0, none⟩) n cap) ys ∧ DownG prKey pr0 ys k ∧ q.Perm (x :: ys)) (fun i _ => n - (intOf i).toNat)
  case atStart => exact ⟨0, _, rfl, HL3.out, .inr rfl, HT3.out, HD.out, HP.out⟩
  case round =>
    obtain ⟨k, ys, rfl, hyl, hkn, hT, hdn, hp⟩ := hrel
    have HT := Lib.hid hT
    have HDN := Lib.hid hdn
    have HPP := Lib.hid hp
    have HYL := Lib.hid hyl
    have hs2 : ∀ p ∈ ys, SmallP p := fun p h9 => HS.out p (hp.mem_iff.mpr (by simp [h9]))
    have HS2 := Lib.hid hs2
    clear hT hdn hp hs2 hyl
    obtain ⟨w4, rfl⟩ : ∃ w4 : World, w4 = wr := ⟨_, rfl⟩
    go_upto_block 2 with (fail)
    go_cut [6, 7] from 45 to 72 (fun v _i wx => v = .int .i64 (leastG prKey pr0 ys k) ∧ TK w.heap.size x g0 w0 wx (.slice (some ⟨g, 0, none⟩) n cap) ys)
    case first =>
      as_aux_lemma =>
        go_wp2_with fail
        go_loopw [6, 7] (fun l i wq => ∃ (j i' : Nat), j ≤ 2 ∧ i' = 2 * k + 1 + j ∧ i = .int .i64 i' ∧ l = .int .i64 (LG prKey pr0 ys k j) ∧ TK w.heap.size x g0 w0 wq (.slice (some ⟨g, 0, none⟩) n cap) ys) (fun _ i _ => 2 * k + 3 - (intOf i).toNat)
        case atStart => exact ⟨0, 2 * k + 1, by omega, rfl, by go_num, rfl, HT.out⟩
        case round =>
          obtain ⟨j, i', hj, hi', rfl, rfl, hT⟩ := hrel
          have HT5 := Lib.hid hT
          clear hT
          by_cases hj2 : j = 2
          · have d1 : decide ((i' : Int) ≤ 2 * (k : Int) + 2) = false := by simp; omega
            have hfin := LG_stop (ys := ys) (k := k) hj (.inl hj2)
            have e9 : i' = 2 * k + 3 := by omega
            have d3 : ¬ (i' : Int) ≤ 2 * (k : Int) + 2 := by omega
            go_wp2_with fail
            go_meet
            exact ⟨by first | rfl | rw [hfin], HT5.out⟩
          · have d1 : decide ((i' : Int) ≤ 2 * (k : Int) + 2) = true := by simp; omega
            by_cases hlt : i' < n
            · have d2 : decide ((i' : Int) < (n : Int)) = true := by simp; omega
              have hst := LG_step ys k j (by omega) (by rw [HYL.out]; omega)
              have hll := LG_lt (key := prKey) (d := pr0) ys k j (by rw [HYL.out]; omega)
              rw [← hi'] at hst
              obtain ⟨l, hlv⟩ : ∃ l, l = LG prKey pr0 ys k j := ⟨_, rfl⟩
              rw [← hlv] at hst hll ⊢
              rw [HYL.out] at hll
              obtain ⟨wd, hwd⟩ : ∃ wd : World, wd = { heap := wr.heap, tape := wr.tape, drawn := wr.drawn + 1, os := wr.os, output := wr.output } := ⟨_, rfl⟩
              have hD : TK w.heap.size x g0 w0 wd (.slice (some ⟨g, 0, none⟩) n cap) ys := by rw [hwd]; exact HT5.out.drew
              have HD5 := Lib.hid hD
              have c0 := hD.qb.c0
              have li := hD.qb.load HYL.out (k := i') hlt
              have ll := hD.qb.load HYL.out (k := l) hll
              obtain ⟨pi, hpi⟩ : ∃ p, p = ys.getD i' pr0 := ⟨_, rfl⟩
              obtain ⟨pl, hpl⟩ : ∃ p, p = ys.getD l pr0 := ⟨_, rfl⟩
              rw [← hpi] at li
              rw [← hpl] at ll
              have hyl := HYL.out
              have hsi : SmallP pi := HS2.out pi (by rw [hpi]; simp [show i' < ys.length by omega])
              have hsl : SmallP pl := HS2.out pl (by rw [hpl]; simp [show l < ys.length by omega])
              have hle := less_key hsi hsl
              obtain ⟨lb, hlb⟩ : ∃ lb, lb = lessB pi pl := ⟨_, rfl⟩
              have HC := Lib.hid (less_any pi pl)
              rw [← hlb] at HC hle
              have hst2 : LG prKey pr0 ys k (j + 1) = if lb = true then i' else l := by
                rw [hst]
                unfold kAt
                rw [← hpi, ← hpl, hle]
                simp
              have HST := Lib.hid hst2
              have i1 : (0 : Int) ≤ (i' : Int) := by omega
              have i2 : (i' : Int) < (n : Int) := by omega
              have i3 : (0 : Int) ≤ (l : Int) := by omega
              have i4 : (l : Int) < (n : Int) := by omega
              have HI := Lib.hid hi'
              clear hD hpi hpl hyl hsi hsl hle hlb hst hst2 hlv hi'
              unfold prV at li ll HC
              go_wp2_with fail
              refine wp_region_still_tail 14 (by kernel_rfl) (by kernel_rfl) ?_
              simp only [List.take_succ_cons, List.take_zero, List.drop_succ_cons, List.drop_zero]
              rw [← hwd]
              clear hwd
              repeat still_step
              refine wpStill_nil ?_
              go_wp2_with fail
              refine (HC.out wd).mono ?_
              rintro e w5 ⟨rfl, hb5⟩
              have HT6 := Lib.hid (HD5.out.go hb5)
              clear c0 li ll hb5 d1 d2
              cases lb with
              | false =>
                go_wp2_with fail
                go_roundw
                case rel => exact ⟨j + 1, i' + 1, by omega, by have := HI.out; omega, by go_num, by rw [HST.out]; rfl, HT6.out⟩
                case measure => have := HI.out; simp [intOf]; omega
              | true =>
                go_wp2_with fail
                go_roundw
                case rel => exact ⟨j + 1, i' + 1, by omega, by have := HI.out; omega, by go_num, by rw [HST.out]; rfl, HT6.out⟩
                case measure => have := HI.out; simp [intOf]; omega
            · have d2 : decide ((i' : Int) < (n : Int)) = false := by simp; omega
              have hfin := LG_stop (ys := ys) (k := k) hj (.inr (by rw [HYL.out]; omega))
              go_wp2_with fail
              go_meet
              exact ⟨by first | rfl | rw [hfin], HT5.out⟩
    case rest =>
      obtain ⟨rfl, hT⟩ := hcut
      obtain ⟨l, hlv⟩ : ∃ l, l = leastG prKey pr0 ys k := ⟨_, rfl⟩
      rw [← hlv]
      have HLV := Lib.hid hlv
      have HT5 := Lib.hid hT
      clear hT hlv HT
      by_cases hlk : l = k
      · as_aux_lemma =>
          have d1 : ((l : Int) == (k : Int)) = true := by simp; omega
          have lx := HT5.out.loadX
          obtain ⟨sx, hqx, hbx⟩ := HT5.out.storeR
          have HQX := Lib.hid hqx
          have HBX := Lib.hid hbx
          have hfin := HDN.out.stop (by rw [← HLV.out]; exact hlk)
          have HFIN := Lib.hid hfin
          unfold prV at lx sx
          simp only [cellsOfEl, prF, List.range, List.range.loop, List.map_cons, List.map_nil] at sx HQX HBX
          clear hqx hbx hlk hfin
          go_wp2_with fail
          (try simp only [Exit.inBlock, Exit.then])
          refine bodyPost_ret (results_cell_row rfl _ _ w.heap.size 57 _ (0, 0) _ rfl HBX.out Try.underlying57 rfl info57) rfl ?_
          exact ⟨by first | rfl | simp, _, ys, HQX.out, HFIN.out, HPP.out⟩
      · as_aux_lemma =>
          have d1 : ((l : Int) == (k : Int)) = false := by simp; omega
          have hkm : k < n := by
            rcases hkn with h9 | h9
            · exact h9
            · apply Classical.byContradiction
              intro hm
              have h5 := (leastG_spec (key := prKey) (d := pr0) ys k).1
              rw [← HLV.out, HYL.out] at h5
              omega
          have hll := leastG_le (key := prKey) (d := pr0) ys k (by rw [HYL.out]; exact hkm)
          rw [← HLV.out, HYL.out] at hll
          have hl1 : l < n := hll.1
          have hl2 : k < l := by omega
          obtain ⟨pk, hpk⟩ : ∃ p, p = ys.getD k pr0 := ⟨_, rfl⟩
          obtain ⟨pl, hpl⟩ : ∃ p, p = ys.getD l pr0 := ⟨_, rfl⟩
          have c0 := HT5.out.qb.c0
          have lk := HT5.out.drew.qb.load HYL.out (k := k) hkm
          have ll := HT5.out.drew.qb.load HYL.out (k := l) hl1
          obtain ⟨s1, h1⟩ := HT5.out.drew.store HYL.out (k := k) hkm pl
          obtain ⟨s2, h2⟩ := h1.store (by rw [List.length_set]; exact HYL.out) (k := l) hl1 pk
          rw [← hpk] at lk
          rw [← hpl] at ll
          have HPQ := Lib.hid (And.intro hpk hpl)
          have H4 := Lib.hid h2
          clear h1 h2 hpk hpl hll hkn hlk
          unfold prV at lk ll s1 s2
          simp only [cellsOfEl, prF, List.range, List.range.loop, List.map_cons, List.map_nil] at H4 s1 s2
          have i1 : (0 : Int) ≤ (k : Int) := by omega
          have i2 : (k : Int) < (n : Int) := by omega
          have i3 : (0 : Int) ≤ (l : Int) := by omega
          have i4 : (l : Int) < (n : Int) := by omega
          go_wp2_with fail
          go_region
          go_wp2_with fail
          go_roundw
          case rel =>
            have hsw : (ys.set k pl).set l pk = swapG pr0 ys k l := by rw [swapG, ← HPQ.out.1, ← HPQ.out.2]
            rw [hsw] at H4
            have h3 := HDN.out.swap (by rw [HYL.out]; exact hkm) (by rw [← HLV.out]; omega)
            rw [← HLV.out] at h3
            exact ⟨l, swapG pr0 ys k l, by go_num, by rw [length_swapG]; exact HYL.out, .inl hl1, H4.out, h3, HPP.out.trans ((swapG_perm ys k l (by rw [HYL.out]; exact hkm) (by rw [HYL.out]; exact hl1)).symm.cons _)⟩
          case measure => simp [intOf]; omega
end Go.Proofs.Ytgejpggbmgiocaa
