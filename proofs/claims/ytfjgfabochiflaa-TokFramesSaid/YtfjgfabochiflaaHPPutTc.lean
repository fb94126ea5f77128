/- HPPut, HPTake of this seat, in one text. -/
import Derived.Test.YtfjgfabochiflaaHPBoxTc
import Derived.StillTailTactics
import Derived.Laws.ResultCell
/- put: a pair more in the queue. -/
namespace Go.Proofs.Ytfjgfabochiflaa.H14
open Go.RowKit
attribute [local go_sem ↓] load_pr store_pr
theorem info66b : (Try.prog.info? 178).map (fun i => (i.size, i.bytes)) = some (4, 32) := by kernel_rfl
theorem half_nat (k : Nat) (h : 0 < k) : ((k : Int) - 1).tdiv 2 = (((k - 1) / 2 : Nat) : Int) := by
  rw [Int.tdiv_eq_ediv_of_nonneg (by omega)]
  omega
abbrev HeapP (q : List Pr) : Prop := HeapG prKey pr0 q
set_option maxRecDepth 100000 in
set_option maxHeartbeats 4000000 in
theorem put_any (P : Nat → Obj → Prop) (g0 : Nat) (w0 w : World) (a : Value) (q : List Pr) (x : Pr) (hn : q.length < 1000000) (hs : ∀ p ∈ q, SmallP p) (hx : SmallP x) (hh : HeapP q) (h : QB P g0 w0 w a q) :
    Calls Try.prog 97 #[.pointer (some ⟨g0, 0, none⟩), prV x] w fun e w' => e = .returned (.tuple #[]) ∧ ∃ a' q', QB P g0 w0 w' a' q' ∧ HeapP q' ∧ q'.Perm (q ++ [x]) := by
  obtain ⟨i9, z9, hi9, hz9, hsz9, hbt9, hzc9⟩ : ∃ i z, Try.prog.info? 178 = some i ∧ i.zero = some z ∧ i.size = 4 ∧ i.bytes = 32 ∧ z.cells.size = 4 := ⟨_, _, rfl, rfl, rfl, rfl, rfl⟩
  have H1 := Lib.hid (h.alloc (.cells (cellsOfEl 4 prF x).toArray 178))
  have HS := Lib.hid hs
  have HX := Lib.hid hx
  have HH := Lib.hid hh
  obtain ⟨n, hn'⟩ : ∃ n, n = q.length := ⟨_, rfl⟩
  rw [← hn'] at hn
  have HN := Lib.hid hn'
  have hlt := h.lt
  have ho : (w.alloc (.cells (cellsOfEl 4 prF x).toArray 178)).ownsRow (g0 + 1) 178 4 a n (qflat q) := by rw [hn']; exact H1.out.own
  have HO := Lib.hid ho
  have c1 := H1.out.c0
  have f1 := H1.out.f0
  have l1 : (loadPr (.pointer (some ⟨w.heap.size, 0, none⟩))).run Try.prog (w.alloc (.cells (cellsOfEl 4 prF x).toArray 178)).drew = .ok (prV x) (w.alloc (.cells (cellsOfEl 4 prF x).toArray 178)).drew := by
    refine load_range (fun j v hv => ?_)
    have := (Blk.new w 178 (cellsOfEl 4 prF x)).drewN 1
    have h2 := this.cell (0 + j)
    rw [Nat.zero_add] at h2 ⊢
    exact h2.trans hv
  have y1 : (0 : Nat) < 1 := by omega
  have y5 : (0 : Nat) < 4 := by omega
  have y2 : n + 1 ≤ maxLen := by unfold maxLen; omega
  have y3 : (n + 1) * 32 ≤ 140737488355328 := by omega
  have y4 := cells_one x
  clear hn' h hs hx hh ho
  unfold prV at l1 ⊢
  simp only [cellsOfEl, prF, List.range, List.range.loop, List.map_cons, List.map_nil] at H1 HO c1 f1 l1 y4
  go_enter Try.func97, Try.ntmps97
  go_upto_region 1 with (fail)
  generalize w.alloc _ = w1 at H1 HO c1 f1 l1 ⊢
  have hlt1 := H1.out.lt
  go_cut [] from 6 to 15 (fun wx => ∃ gg cap, QB P g0 w0 wx (.slice (some ⟨gg, 0, none⟩) (n + 1) cap) (q ++ [x]))
  case first =>
    go_wp2_with fail
    go_region_law (first
      | (refine step_append_lies _ rfl (.tmp 10) (.tmp 12) 181 rfl (g0 + 1) 178 i9 z9 4 32 Try.underlying181 hi9 hz9 hsz9 hbt9 hzc9 y5 a n (qflat q) (by rfl) ?_ ⟨_, 0, none⟩ 1 1 [.int .i64 x.rank, .int .i64 x.left, .int .i64 x.first, .int .i64 x.second] (by rfl) rfl (World.news_of_block (cs := #[.int .i64 x.rank, .int .i64 x.left, .int .i64 x.first, .int .i64 x.second]) (t := 178) (fr := (0, 0)) ?_) y4 y1 y2 y3 ?_ _ rfl ?_
         · exact HO.out.drew.alloc _
         · exact heap_alloc_new _ _
         · simp; omega
         intro g5 c9 w5 hown5 hgrow5 hat5 hlt5
         have hbx := (hgrow5.block g0 (by simp; omega) (QB.off H1.out.drew)).trans ((World.grownBy_alloc w1.drew _ none).block g0 H1.out.drew.lt (by simp))
         rw [H1.out.drew.box] at hbx
         have d1 : w5.cell? ⟨g0, 0, none⟩ = some a := Blk.cell (cur := [a, F20]) hbx 0
         have d2 := Blk.frozen (cur := [a, F20]) hbx 0))
    all_goals
      go_wp2_with fail
      go_meet
      refine ⟨g5, c9, QB.put (q' := q ++ [x]) (((H1.out.drew.below.alloc (Nat.le_of_lt H1.out.drew.lt) _)).grown hgrow5 (by simp; omega) (fun k hk => by have := (H1.out.own.lt k hk).1; omega)) hbx (by
        rw [List.length_append, ← HN.out, qflat, flat_snoc]
        exact hown5) (fun k o hp => ?_)⟩
      have hk9 := H1.out.pk k o hp
      have hl9 := lt_of_heap hk9.2.2
      refine ⟨hk9.1, fun e => ?_, (hgrow5.block k (by simp; omega) (fun e => hk9.2.1 e.symm)).trans (((World.grownBy_alloc w1.drew _ none).block k (by simpa using hl9) (by simp)).trans hk9.2.2)⟩
      injection e with e
      simp only at e
      subst e
      rcases hat5 with e | e
      · exact hk9.2.1 e
      · simp at e; omega
  case rest =>
    obtain ⟨gg, cap, hB2⟩ := hcut
    clear H1 HO c1 f1 l1 hlt1
    have HB2 := Lib.hid hB2
    have HU := Lib.hid (UpG.new HH.out x)
    rw [← HN.out] at HU
    have r0 := hB2.c0
    have g1 := hB2.near
    have hq2 : (q ++ [x]).length = n + 1 := by rw [List.length_append, ← HN.out]; rfl
    have hs2 : ∀ p ∈ q ++ [x], SmallP p := fun p hp => by
      rcases List.mem_append.mp hp with h9 | h9
      · exact HS.out p h9
      · simp at h9; subst h9; exact HX.out
    have HS2 := Lib.hid hs2
    have HQ2 := Lib.hid hq2
    clear hB2 hs2 hq2
    obtain ⟨w2, rfl⟩ : ∃ w2 : World, w2 = wc := ⟨_, rfl⟩
    go_wp2_with fail
    go_loopw [4] (fun i wr => ∃ (k : Nat) (ys : List Pr), i = .int .i64 k ∧ ys.length = n + 1 ∧ QB P g0 w0 wr (.slice (some ⟨gg, 0, none⟩) (n + 1) cap) ys ∧ UpG prKey pr0 ys k ∧ ys.Perm (q ++ [x])) (fun i _ => (intOf i).toNat)
    case atStart => exact ⟨n, q ++ [x], by go_num, HQ2.out, HB2.out, HU.out, List.Perm.refl _⟩
    case round =>
      obtain ⟨k, ys, rfl, hyl, hB, hup, hp⟩ := hrel
      have hkl := hup.lt
      by_cases h0 : 0 < k
      · have HYL := Lib.hid hyl
        have HUP := Lib.hid hup
        have HP := Lib.hid hp
        obtain ⟨u, hu⟩ : ∃ u, u = (k - 1) / 2 := ⟨_, rfl⟩
        have hdiv := half_nat k h0
        rw [← hu] at hdiv
        have hul : u < k := by omega
        obtain ⟨wd, hwd⟩ : ∃ wd : World, wd = { heap := wr.heap, tape := wr.tape, drawn := wr.drawn + 1, os := wr.os, output := wr.output } := ⟨_, rfl⟩
        have hD : QB P g0 w0 wd (.slice (some ⟨gg, 0, none⟩) (n + 1) cap) ys := by rw [hwd]; exact hB.drew
        have HD := Lib.hid hD
        have c0 := hD.c0
        have c1 := hD.c1
        have lk := hD.load hyl (k := k) (by omega)
        have lu := hD.load hyl (k := u) (by omega)
        obtain ⟨pk, hpk⟩ : ∃ p, p = ys.getD k pr0 := ⟨_, rfl⟩
        obtain ⟨pu, hpu⟩ : ∃ p, p = ys.getD u pr0 := ⟨_, rfl⟩
        rw [← hpk] at lk
        rw [← hpu] at lu
        have hsk : SmallP pk := HS2.out pk (hp.mem_iff.mp (by rw [hpk]; simp [show k < ys.length by omega]))
        have hsu : SmallP pu := HS2.out pu (hp.mem_iff.mp (by rw [hpu]; simp [show u < ys.length by omega]))
        have hle := cmp_le hsu hsk
        have HQ := Lib.hid (And.intro hpk (And.intro hpu hu))
        obtain ⟨cv, hcv⟩ : ∃ cv, cv = cmpP pu pk := ⟨_, rfl⟩
        have HC := Lib.hid (less_any pu pk hsu hsk)
        rw [← hcv] at HC hle
        obtain ⟨lb, hlb⟩ : ∃ lb, lb = decide (cv ≤ 0) := ⟨_, rfl⟩
        have HLB := Lib.hid hlb
        have HQ3 := Lib.hid hle
        have i1 : (0 : Int) ≤ (k : Int) := by omega
        have i2 : (k : Int) < (n : Int) + 1 := by omega
        have i3 : (0 : Int) ≤ (u : Int) := by omega
        have i4 : (u : Int) < (n : Int) + 1 := by omega
        have i7 : u < n + 1 := by omega
        have i8 : k < n + 1 := by omega
        clear hB hD hup hp hpk hpu hu hsk hsu hle hcv
        unfold prV at lk lu HC
        go_wp2_with fail
        refine wp_region_still_tail 18 (by kernel_rfl) (by kernel_rfl) ?_
        simp only [List.take_succ_cons, List.take_zero, List.drop_succ_cons, List.drop_zero]
        rw [← hwd]
        clear hwd
        repeat still_step
        refine wpStill_nil ?_
        go_wp2_with fail
        refine (HC.out wd).mono ?_
        rintro e w3 ⟨rfl, hb3⟩
        have H3 := Lib.hid (HD.out.go hb3)
        clear c0 lk lu hb3
        dsimp only
        have d5 : decide (cv ≤ 0) = lb := hlb.symm
        clear hlb
        cases lb with
        | true =>
          go_wp2_with fail
          go_returns
          refine ⟨by first | rfl | simp, _, ys, H3.out, HUP.out.stop (.inr ?_), HP.out⟩
          have h9 := HQ3.out
          rw [← HLB.out] at h9
          unfold kAt
          rw [← HQ.out.1, ← HQ.out.2.2, ← HQ.out.2.1]
          exact of_decide_eq_true h9.symm
        | false =>
          have c0 := H3.out.c0
          have lk := H3.out.drew.load HYL.out (k := k) (by omega)
          have lu := H3.out.drew.load HYL.out (k := u) (by omega)
          obtain ⟨s1, h1⟩ := H3.out.drew.store HYL.out (k := u) (by omega) pk
          obtain ⟨s2, h2⟩ := h1.store (by rw [List.length_set]; exact HYL.out) (k := k) (by omega) pu
          rw [← HQ.out.1] at lk
          rw [← HQ.out.2.1] at lu
          have H4 := Lib.hid h2
          clear h1 h2
          have nr := H3.out.near
          have nb : ¬ gg = g0 := by omega
          unfold prV at lk lu s1 s2
          simp only [cellsOfEl, prF, List.range, List.range.loop, List.map_cons, List.map_nil] at H4 s1 s2
          go_wp2_with fail
          go_region
          go_wp2_with fail
          go_roundw
          case rel =>
            have hsw : (ys.set u pk).set k pu = swapG pr0 ys u k := by
              rw [swapG, ← HQ.out.1, ← HQ.out.2.1]
            have hlt9 : ¬ kAt prKey pr0 ys ((k - 1) / 2) ≤ kAt prKey pr0 ys k := by
              have h9 := HQ3.out
              rw [← HLB.out] at h9
              unfold kAt
              rw [← HQ.out.1, ← HQ.out.2.2, ← HQ.out.2.1]
              exact of_decide_eq_false h9.symm
            have hnew := HUP.out.swap h0 hlt9
            rw [← HQ.out.2.2] at hnew
            rw [hsw] at H4
            exact ⟨u, swapG pr0 ys u k, by go_num, by rw [length_swapG]; exact HYL.out, H4.out, hnew, (swapG_perm ys u k (by have := HYL.out; omega) (by have := HYL.out; omega)).trans HP.out⟩
          case measure => simp [intOf]; omega
      · obtain rfl : k = 0 := by omega
        go_wp2_with fail
        go_returns
        exact ⟨rfl, _, ys, hB, hup.stop (.inl rfl), hp⟩
end Go.Proofs.Ytfjgfabochiflaa.H14
/- take: the first pair out of the queue. -/
namespace Go.Proofs.Ytfjgfabochiflaa.H14
open Go.RowKit
attribute [local go_sem ↓] load_pr store_pr
theorem results_cell_row2 {fn : Func} {p u : Tmp} {ty : TypeId} (h : fn.results = #[.cell p ty, .tmp u]) (tmps : Array Value) (w : World) (g : Nat) (cs : Array Value)
    (hp : tmps.getD p undef = .pointer (some ⟨g, 0, none⟩)) (hl : (loadVar ty ⟨g, 0, none⟩).run Try.prog w = .ok (.agg cs) w) :
    (results fn tmps).run Try.prog w = .ok (.tuple #[.agg cs, tmps.getD u undef]) w := by
  rw [results_cell_tmp h, hp]
  simp [asAddr, Result.andThen, hl]
def zero4 : List Value := [.int .i64 0, .int .i64 0, .int .i64 0, .int .i64 0]
/-- the queue, the box of the result (b) and the box of what was taken (b + 1) -/
structure TK (P : Nat → Obj → Prop) (b : Nat) (x : Pr) (g0 : Nat) (w0 W : World) (a : Value) (q : List Pr) : Prop where
  qb : QB P g0 w0 W a q
  r : Blk W b 178 zero4
  x : Blk W (b + 2) 178 (cellsOfEl 4 prF x)
  hb : g0 < b
  off : ∀ k, a.ownBlock = some k → k < b
  pb : ∀ k o, P k o → k < b
section
variable {P : Nat → Obj → Prop} {b : Nat} {x : Pr} {g0 : Nat} {w0 W W' : World} {a : Value} {q : List Pr}
theorem TK.go (h : TK P b x g0 w0 W a q) (hw : Below W.heap.size W W') : TK P b x g0 w0 W' a q :=
  ⟨h.qb.go hw, h.r.below hw h.r.lt, h.x.below hw h.x.lt, h.hb, h.off, h.pb⟩
theorem TK.drew (h : TK P b x g0 w0 W a q) : TK P b x g0 w0 W.drew a q := h.go (Below.refl _ _).drew
theorem TK.drewN (h : TK P b x g0 w0 W a q) (n : Nat) : TK P b x g0 w0 (W.drewN n) a q := h.go (below_drewN (Below.refl _ _) n)
theorem TK.store {g n cap k : Nat} (h : TK P b x g0 w0 W (.slice (some ⟨g, 0, none⟩) n cap) q) (hl : q.length = n) (hk : k < n) (y : Pr) :
    (storePr (.pointer (some ⟨g, k * 4, none⟩)) (prV y)).run Try.prog W = .ok () (W.setCells g (k * 4) (cellsOfEl 4 prF y)) ∧ TK P b x g0 w0 (W.setCells g (k * 4) (cellsOfEl 4 prF y)) (.slice (some ⟨g, 0, none⟩) n cap) (q.set k y) := by
  obtain ⟨h1, h2⟩ := h.qb.store hl hk y
  have hg := h.off g rfl
  obtain ⟨_, h3⟩ := own_setCells (vs := cellsOfEl 4 prF y) (o := k * 4) (by have := h.qb.own; rw [hl] at this; exact this)
  exact ⟨h1, h2, (h3.block b h.r.lt (fun e => by cases e; omega)).trans h.r, (h3.block (b + 2) h.x.lt (fun e => by cases e; omega)).trans h.x, h.hb, h.off, h.pb⟩
theorem TK.loadX (h : TK P b x g0 w0 W a q) : (loadPr (.pointer (some ⟨b + 2, 0, none⟩))).run Try.prog W = .ok (prV x) W :=
  load_range (fun j v hv => by rw [Nat.zero_add, h.x.cell]; exact hv)
theorem TK.storeR (h : TK P b x g0 w0 W a q) : (storePr (.pointer (some ⟨b, 0, none⟩)) (prV x)).run Try.prog W = .ok () (W.setCells b 0 (cellsOfEl 4 prF x)) ∧ QB P g0 w0 (W.setCells b 0 (cellsOfEl 4 prF x)) a q ∧ Blk (W.setCells b 0 (cellsOfEl 4 prF x)) b 178 (cellsOfEl 4 prF x) := by
  have hg := grownBy_setCells b (cellsOfEl 4 prF x) W 0
  have hne : ∀ k, k < W.heap.size → k ≠ b → (W.setCells b 0 (cellsOfEl 4 prF x)).heap[k]? = W.heap[k]? := fun k hk hkb => hg.block k hk (fun e => hkb (by injection e))
  have hb := h.hb
  refine ⟨store_range (fun j hj => ⟨?_, h.r.frozen _⟩), ⟨h.qb.below.grown hg (Nat.le_of_lt h.qb.lt) (fun k hk => by cases hk; omega), (hne g0 h.qb.lt (by omega)).trans h.qb.box, own_move h.qb.own (fun k _ e ho _ => (hne k (h.qb.own.lt k e).2 (by have := h.off k e; omega)).trans ho), fun k o hp => ⟨(h.qb.pk k o hp).1, (h.qb.pk k o hp).2.1, (hne k (lt_of_heap (h.qb.pk k o hp).2.2) (by have := h.pb k o hp; omega)).trans (h.qb.pk k o hp).2.2⟩⟩, ?_⟩
  · rw [h.r.cell]
    rcases (by omega : j = 0 ∨ j = 1 ∨ j = 2 ∨ j = 3) with rfl | rfl | rfl | rfl <;> rfl
  · have := h.r.setCells (vs := cellsOfEl 4 prF x) (o := 0)
    exact this
end
theorem TK.cut {P : Nat → Obj → Prop} {b : Nat} {x : Pr} {g0 : Nat} {w0 W : World} {q : List Pr} {g n cap m : Nat} (h : TK P b x g0 w0 W (.slice (some ⟨g, 0, none⟩) n cap) q) (hl : q.length = n) (hm : m ≤ n) :
    TK P b x g0 w0 (W.setCell ⟨g0, 0, none⟩ (.slice (some ⟨g, 0, none⟩) m cap)) (.slice (some ⟨g, 0, none⟩) m cap) (q.take m) := by
  have ho := h.qb.own
  rw [hl] at ho
  have hc := own_cut4 ho hm
  have hb := h.hb
  refine ⟨QB.put (q' := q.take m) h.qb.below h.qb.box (by rw [List.length_take, Nat.min_eq_left (by omega), qflat, flat_take]; exact hc) (fun k o hp => ⟨(h.qb.pk k o hp).1, (h.qb.pk k o hp).2.1, (h.qb.pk k o hp).2.2⟩), (Below.heap_setCell _ _ _ b (by show b ≠ g0; omega)).trans h.r, (Below.heap_setCell _ _ _ (b + 2) (by show b + 2 ≠ g0; omega)).trans h.x, h.hb, fun k hk => h.off k hk, h.pb⟩
theorem LG_stop {ys : List Pr} {k j : Nat} (hj : j ≤ 2) (h : j = 2 ∨ ys.length ≤ 2 * k + 1 + j) : LG prKey pr0 ys k j = leastG prKey pr0 ys k := by
  rcases (by omega : j = 0 ∨ j = 1 ∨ j = 2) with rfl | rfl | rfl
  · unfold LG leastG least1G
    rw [if_neg (fun h9 => by omega), if_neg (fun h9 => by omega)]
    rfl
  · unfold LG leastG
    rw [least1G.eq_1 prKey pr0 ys ys.length (least1G prKey pr0 ys ys.length k (2 * k + 1)) (2 * k + 2), if_neg (fun h9 => by omega)]
    rfl
  · rfl
theorem LG_step (ys : List Pr) (k j : Nat) (hj : j < 2) (h : 2 * k + 1 + j < ys.length) : LG prKey pr0 ys k (j + 1) = if kAt prKey pr0 ys (2 * k + 1 + j) < kAt prKey pr0 ys (LG prKey pr0 ys k j) then 2 * k + 1 + j else LG prKey pr0 ys k j := by
  rcases (by omega : j = 0 ∨ j = 1) with rfl | rfl
  · show least1G prKey pr0 ys ys.length k (2 * k + 1) = _
    unfold least1G
    by_cases h9 : kAt prKey pr0 ys (2 * k + 1) < kAt prKey pr0 ys k
    · rw [if_pos ⟨by omega, h9⟩]; exact (if_pos h9).symm
    · rw [if_neg (fun h8 => h9 h8.2)]; exact (if_neg h9).symm
  · show least1G prKey pr0 ys ys.length (least1G prKey pr0 ys ys.length k (2 * k + 1)) (2 * k + 2) = if kAt prKey pr0 ys (2 * k + 2) < kAt prKey pr0 ys (least1G prKey pr0 ys ys.length k (2 * k + 1)) then 2 * k + 2 else least1G prKey pr0 ys ys.length k (2 * k + 1)
    generalize least1G prKey pr0 ys ys.length k (2 * k + 1) = l
    unfold least1G
    by_cases h9 : kAt prKey pr0 ys (2 * k + 2) < kAt prKey pr0 ys l
    · rw [if_pos ⟨by omega, h9⟩, if_pos h9]
    · rw [if_neg (fun h8 => h9 h8.2), if_neg h9]
set_option maxRecDepth 100000 in
set_option maxHeartbeats 4000000 in
theorem take_none (P : Nat → Obj → Prop) (g0 : Nat) (w0 w : World) (A : Option Addr) (c : Nat) (h : QB P g0 w0 w (.slice A 0 c) []) :
    Calls Try.prog 98 #[.pointer (some ⟨g0, 0, none⟩)] w fun e w' => e = .returned (.tuple #[prV pr0, .bool false]) ∧ QB P g0 w0 w' (.slice A 0 c) [] := by
  have H1 := Lib.hid ((h.alloc (.cells zero4.toArray 178)).alloc (.cells zero4.toArray 178))
  have c0 := H1.out.c0
  have hlt := h.lt
  have hz0 : Blk ((w.alloc (.cells zero4.toArray 178)).alloc (.cells zero4.toArray 178)) w.heap.size 178 zero4 := (Blk.new w 178 zero4).alloc _
  have hz : Blk ((w.alloc (.cells zero4.toArray 178)).alloc (.cells zero4.toArray 178)) (w.heap.size + 1) 178 zero4 := by
    have := Blk.new (w.alloc (.cells zero4.toArray 178)) 178 zero4
    rw [show (w.alloc (.cells zero4.toArray 178)).heap.size = w.heap.size + 1 by simp] at this
    exact this
  have hp0 : cellsOfEl 4 prF pr0 = zero4 := rfl
  have lx : (loadPr (.pointer (some ⟨w.heap.size + 1, 0, none⟩))).run Try.prog ((w.alloc (.cells zero4.toArray 178)).alloc (.cells zero4.toArray 178)) = .ok (prV pr0) ((w.alloc (.cells zero4.toArray 178)).alloc (.cells zero4.toArray 178)) :=
    load_range (fun j v hv => by rw [Nat.zero_add, hz.cell]; rw [hp0] at hv; exact hv)
  have sx : (storePr (.pointer (some ⟨w.heap.size, 0, none⟩)) (prV pr0)).run Try.prog ((w.alloc (.cells zero4.toArray 178)).alloc (.cells zero4.toArray 178)) = .ok () (((w.alloc (.cells zero4.toArray 178)).alloc (.cells zero4.toArray 178)).setCells w.heap.size 0 (cellsOfEl 4 prF pr0)) :=
    store_range (fun j hj => ⟨by
      rw [hz0.cell]
      rcases (by omega : j = 0 ∨ j = 1 ∨ j = 2 ∨ j = 3) with rfl | rfl | rfl | rfl <;> rfl, hz0.frozen _⟩)
  have hgb := grownBy_setCells w.heap.size (cellsOfEl 4 prF pr0) ((w.alloc (.cells zero4.toArray 178)).alloc (.cells zero4.toArray 178)) 0
  have e1 : ∀ k, k < w.heap.size → some k ≠ some w.heap.size := fun k hk e => by injection e with e; omega
  have HQ := Lib.hid (show QB P g0 w0 (((w.alloc (.cells zero4.toArray 178)).alloc (.cells zero4.toArray 178)).setCells w.heap.size 0 (cellsOfEl 4 prF pr0)) (.slice A 0 c) [] from
    ⟨H1.out.below.grown hgb (Nat.le_of_lt H1.out.lt) (fun k hk => by injection hk with hk; omega), (hgb.block g0 H1.out.lt (e1 _ hlt)).trans H1.out.box, own_move H1.out.own (fun k _ e ho _ => (hgb.block k (H1.out.own.lt k e).2 (e1 _ (h.own.lt k e).2)).trans ho), fun k o hp => ⟨(H1.out.pk k o hp).1, (H1.out.pk k o hp).2.1, (hgb.block k (lt_of_heap (H1.out.pk k o hp).2.2) (e1 _ (lt_of_heap (h.pk k o hp).2.2))).trans (H1.out.pk k o hp).2.2⟩⟩)
  have HBX := Lib.hid (hz0.setCells (vs := cellsOfEl 4 prF pr0) (o := 0))
  clear h hgb hz hz0 e1 H1
  have lx2 := lx
  unfold zero4 prV at *
  simp only [cellsOfEl, prF, pr0, List.range, List.range.loop, List.map_cons, List.map_nil] at lx sx HQ HBX ⊢
  clear hp0 lx2
  go_enter Try.func98, Try.ntmps98
  go_wp2_with fail
  (try simp only [Exit.inBlock, Exit.then])
  refine bodyPost_ret (results_cell_row2 rfl _ _ w.heap.size _ rfl (run_loadVar_row _ w.heap.size 178 178 _ (0, 0) _ HBX.out Try.underlying178 rfl info66)) rfl ?_
  exact ⟨by first | rfl | simp, HQ.out⟩
set_option maxRecDepth 100000 in
set_option maxHeartbeats 8000000 in
theorem take_any (P : Nat → Obj → Prop) (g0 n g cap : Nat) (w0 w : World) (q : List Pr) (hl : q.length = n + 1) (hn : n < 1000000) (hs : ∀ p ∈ q, SmallP p) (hh : HeapP q) (h : QB P g0 w0 w (.slice (some ⟨g, 0, none⟩) (n + 1) cap) q) :
    Calls Try.prog 98 #[.pointer (some ⟨g0, 0, none⟩)] w fun e w' => e = .returned (.tuple #[prV (q.getD 0 pr0), .bool true]) ∧ ∃ a' q', QB P g0 w0 w' a' q' ∧ HeapP q' ∧ q.Perm (q.getD 0 pr0 :: q') := by
  obtain ⟨x, hx⟩ : ∃ x, x = q.getD 0 pr0 := ⟨_, rfl⟩
  obtain ⟨xn, hxn⟩ : ∃ x, x = q.getD n pr0 := ⟨_, rfl⟩
  have H1 := Lib.hid ((h.alloc (.cells zero4.toArray 178)).alloc (.cells zero4.toArray 178))
  have hlt := h.lt
  have hgw := h.near
  have c0 := H1.out.c0
  have l0 := H1.out.load hl (k := 0) (by omega)
  obtain ⟨W2, hW2⟩ : ∃ W2, W2 = (w.alloc (.cells zero4.toArray 178)).alloc (.cells zero4.toArray 178) := ⟨_, rfl⟩
  have hW2s : W2.heap.size = w.heap.size + 2 := by rw [hW2]; simp
  have hz2 : Blk (W2.alloc (.cells zero4.toArray 178)) (w.heap.size + 2) 178 zero4 := by
    have := Blk.new W2 178 zero4
    rw [hW2s] at this
    exact this
  have hz0 : Blk (W2.alloc (.cells zero4.toArray 178)) w.heap.size 178 zero4 := by rw [hW2]; exact ((Blk.new w 178 zero4).alloc _).alloc _
  have s0 : (storePr (.pointer (some ⟨w.heap.size + 2, 0, none⟩)) (prV x)).run Try.prog (W2.alloc (.cells zero4.toArray 178)) = .ok () ((W2.alloc (.cells zero4.toArray 178)).setCells (w.heap.size + 2) 0 (cellsOfEl 4 prF x)) :=
    store_range (fun j hj => ⟨by
      rw [hz2.cell]
      rcases (by omega : j = 0 ∨ j = 1 ∨ j = 2 ∨ j = 3) with rfl | rfl | rfl | rfl <;> rfl, hz2.frozen _⟩)
  have hX : TK P w.heap.size x g0 w0 ((W2.alloc (.cells zero4.toArray 178)).setCells (w.heap.size + 2) 0 (cellsOfEl 4 prF x)) (.slice (some ⟨g, 0, none⟩) (n + 1) cap) q := by
    have hg := grownBy_setCells (w.heap.size + 2) (cellsOfEl 4 prF x) (W2.alloc (.cells zero4.toArray 178)) 0
    have hQ := H1.out.alloc (.cells zero4.toArray 178)
    rw [← hW2] at hQ
    have e1 : ∀ k, k < w.heap.size + 2 → some k ≠ some (w.heap.size + 2) := fun k hk e => by injection e with e; omega
    refine ⟨⟨hQ.below.grown hg (Nat.le_of_lt hQ.lt) (fun k hk => by injection hk with hk; omega), (hg.block g0 hQ.lt (e1 _ (by omega))).trans hQ.box, own_move hQ.own (fun k _ e ho _ => (hg.block k (hQ.own.lt k e).2 (e1 _ (by injection e with e; simp only at e; omega))).trans ho), fun k o hp => ⟨(hQ.pk k o hp).1, (hQ.pk k o hp).2.1, (hg.block k (lt_of_heap (hQ.pk k o hp).2.2) (e1 _ (by have := lt_of_heap (h.pk k o hp).2.2; omega))).trans (hQ.pk k o hp).2.2⟩⟩, (hg.block _ hz0.lt (e1 _ (by omega))).trans hz0, hz2.setCells (vs := cellsOfEl 4 prF x) (o := 0), hlt, fun k hk => by injection hk with hk; simp only at hk; omega, fun k o hp => lt_of_heap (h.pk k o hp).2.2⟩
  have hsa : ((w.alloc (.cells zero4.toArray 178)).alloc (.cells zero4.toArray 178)).heap.size = w.heap.size + 2 := by simp
  rw [hW2] at s0 hX
  rw [← hx] at l0 ⊢
  have HTK := Lib.hid hX
  have HX := Lib.hid (And.intro hx hxn)
  have HS := Lib.hid hs
  have HH := Lib.hid hh
  have HL := Lib.hid hl
  clear h hs hh hx hxn hX hl hz2 hz0 hW2s hW2 hsa W2
  unfold zero4 at *
  unfold prV at l0 s0 ⊢
  simp only [cellsOfEl, prF, List.range, List.range.loop, List.map_cons, List.map_nil, Nat.zero_mul] at HTK l0 s0
  have i1 : (0 : Int) < (n : Int) + 1 := by omega
  have b1 : ((n : Int) + 1 == 0) = false := by simp; omega
  go_enter Try.func98, Try.ntmps98
  go_upto_region 6 with (fail)
  generalize (((w.alloc _).alloc _).alloc _).setCells _ _ _ = w1 at HTK ⊢
  clear c0 l0 s0 b1
  have c0 := HTK.out.qb.c0
  have ln := HTK.out.drew.qb.load HL.out (k := n) (by omega)
  obtain ⟨s1, h1⟩ := HTK.out.drew.store HL.out (k := 0) (by omega) xn
  rw [← HX.out.2] at ln
  have HT2 := Lib.hid h1
  clear h1
  unfold prV at ln s1
  simp only [cellsOfEl, prF, List.range, List.range.loop, List.map_cons, List.map_nil, Nat.zero_mul] at HT2 ln s1
  have i2 : (n : Int) < (n : Int) + 1 := by omega
  go_wp2_with fail
  go_region
  generalize w1.drew.setCells _ _ _ = w2 at HT2 ⊢
  clear c0 ln s1
  have c0 := HT2.out.qb.c0
  have f0 := HT2.out.qb.f0
  have hcap : n ≤ cap := by
    have := HT2.out.qb.capLe (by rw [List.length_set]; exact HL.out)
    omega
  have hT3 := HT2.out.cut (m := n) (by rw [List.length_set]; exact HL.out) (by omega)
  have HT3 := Lib.hid hT3
  go_upto_region 7 with (fail)
  go_cut [5] from 7 (fun v wx => v = .int .i64 ((n : Int) + 1) ∧ TK P w.heap.size x g0 w0 wx (.slice (some ⟨g, 0, none⟩) n cap) ((q.set 0 xn).take n))
  case first =>
    clear hT3
    go_wp2_with fail
    go_meet
    exact ⟨by first | rfl | simp, HT3.out⟩
  case rest =>
  obtain ⟨rfl, hT4⟩ := hcut
  clear HT3 hT3 c0 f0 hcap HT2 HTK H1 i1 i2
  have HT3 := Lib.hid hT4
  clear hT4
  obtain ⟨w3, rfl⟩ : ∃ w3 : World, w3 = wc := ⟨_, rfl⟩
  go_wp2_with fail
  have HD := Lib.hid (DownG.new HH.out)
  have HP := Lib.hid (takeG_perm (d := pr0) (xs := q) (by rw [HL.out]; omega))
  rw [HL.out, Nat.add_sub_cancel, ← HX.out.2] at HD HP
  rw [← HX.out.1] at HP
  have hl3 : ((q.set 0 xn).take n).length = n := by rw [List.length_take, List.length_set, HL.out]; omega
  have HL3 := Lib.hid hl3
  clear hl3
  go_loopw [7] (fun i wr => ∃ (k : Nat) (ys : List Pr), i = .int .i64 k ∧ ys.length = n ∧ (k < n ∨ k = 0) ∧ TK P w.heap.size x g0 w0 wr (.slice (some ⟨g, 0, none⟩) n cap) ys ∧ DownG prKey pr0 ys k ∧ q.Perm (x :: ys)) (fun i _ => n - (intOf i).toNat)
  case atStart => exact ⟨0, _, rfl, HL3.out, .inr rfl, HT3.out, HD.out, HP.out⟩
  case round =>
    obtain ⟨k, ys, rfl, hyl, hkn, hT, hdn, hp⟩ := hrel
    have HT := Lib.hid hT
    have HDN := Lib.hid hdn
    have HPP := Lib.hid hp
    have HYL := Lib.hid hyl
    have hs2 : ∀ p ∈ ys, SmallP p := fun p h9 => HS.out p (hp.mem_iff.mpr (by simp [h9]))
    have HS2 := Lib.hid hs2
    clear hT hdn hp hs2 hyl
    obtain ⟨w4, rfl⟩ : ∃ w4 : World, w4 = wr := ⟨_, rfl⟩
    have ix0 : ∀ w, (Instr.index 214 (.agg #[.int .i64 (2 * (k : Int) + 1), .int .i64 (2 * (k : Int) + 2)]) (.int .i64 0)).run Try.prog w = .ok (.int .i64 (2 * (k : Int) + 1)) w := fun _ => by kernel_rfl
    have ix1 : ∀ w, (Instr.index 214 (.agg #[.int .i64 (2 * (k : Int) + 1), .int .i64 (2 * (k : Int) + 2)]) (.int .i64 1)).run Try.prog w = .ok (.int .i64 (2 * (k : Int) + 2)) w := fun _ => by kernel_rfl
    have hkb : k ≤ 1000000 := by omega
    go_upto_block 2 with (fail)
    go_cut [8] from 56 to 86 (fun v wx => v = .int .i64 (leastG prKey pr0 ys k) ∧ TK P w.heap.size x g0 w0 wx (.slice (some ⟨g, 0, none⟩) n cap) ys)
    case first =>
      as_aux_lemma =>
        go_wp2_with fail
        go_loopw [8, 56] (fun l i wq => ∃ j : Nat, j ≤ 2 ∧ i = .int .i64 j ∧ l = .int .i64 (LG prKey pr0 ys k j) ∧ TK P w.heap.size x g0 w0 wq (.slice (some ⟨g, 0, none⟩) n cap) ys) (fun _ i _ => 2 - (intOf i).toNat)
        case atStart => exact ⟨0, by omega, rfl, rfl, HT.out⟩
        case round =>
          obtain ⟨j, hj, rfl, rfl, hT⟩ := hrel
          have HT5 := Lib.hid hT
          clear hT
          by_cases hj2 : j = 2
          · subst hj2
            have hfin := LG_stop (ys := ys) (k := k) hj (.inl rfl)
            go_wp2_with fail
            go_meet
            exact ⟨by first | rfl | rw [hfin], HT5.out⟩
          · obtain ⟨i', hi'⟩ : ∃ i', i' = 2 * k + 1 + j := ⟨_, rfl⟩
            have hix : ∀ w, (Instr.index 214 (.agg #[.int .i64 (2 * (k : Int) + 1), .int .i64 (2 * (k : Int) + 2)]) (.int .i64 (j : Int))).run Try.prog w = .ok (.int .i64 (i' : Int)) w := by
              rcases (by omega : j = 0 ∨ j = 1) with rfl | rfl
              · rw [show (i' : Int) = 2 * (k : Int) + 1 by omega]; exact ix0
              · rw [show (i' : Int) = 2 * (k : Int) + 2 by omega]; exact ix1
            clear ix0 ix1
            obtain ⟨l, hlv⟩ : ∃ l, l = LG prKey pr0 ys k j := ⟨_, rfl⟩
            rw [← hlv]
            have HLV := Lib.hid hlv
            have HI := Lib.hid hi'
            have HJ := Lib.hid hj2
            have hjl : (j : Int) < 2 := by omega
            clear hlv hi' hj2
            by_cases hlt : i' < n
            · have d2 : decide ((i' : Int) < (n : Int)) = true := by simp; omega
              have hst := LG_step ys k j (by have := HJ.out; omega) (by rw [HYL.out]; have := HI.out; omega)
              have hll := LG_lt (key := prKey) (d := pr0) ys k j (by rw [HYL.out]; have := HI.out; omega)
              rw [← HI.out, ← HLV.out] at hst
              rw [← HLV.out, HYL.out] at hll
              obtain ⟨wd, hwd⟩ : ∃ wd : World, wd = { heap := wr.heap, tape := wr.tape, drawn := wr.drawn + 1, os := wr.os, output := wr.output } := ⟨_, rfl⟩
              have hD : TK P w.heap.size x g0 w0 wd (.slice (some ⟨g, 0, none⟩) n cap) ys := by rw [hwd]; exact HT5.out.drew
              have HD5 := Lib.hid hD
              have c0 := hD.qb.c0
              have c1 := hD.qb.c1
              have li := hD.qb.load HYL.out (k := i') hlt
              have ll := hD.qb.load HYL.out (k := l) hll
              obtain ⟨pi, hpi⟩ : ∃ p, p = ys.getD i' pr0 := ⟨_, rfl⟩
              obtain ⟨pl, hpl⟩ : ∃ p, p = ys.getD l pr0 := ⟨_, rfl⟩
              rw [← hpi] at li
              rw [← hpl] at ll
              have hyl := HYL.out
              have hsi : SmallP pi := HS2.out pi (by rw [hpi]; simp [show i' < ys.length by omega])
              have hsl : SmallP pl := HS2.out pl (by rw [hpl]; simp [show l < ys.length by omega])
              have hle := cmp_lt hsi hsl
              obtain ⟨cv, hcv⟩ : ∃ cv, cv = cmpP pi pl := ⟨_, rfl⟩
              have HC := Lib.hid (less_any pi pl hsi hsl)
              rw [← hcv] at HC hle
              obtain ⟨lb, hlb⟩ : ∃ lb, lb = decide (cv < 0) := ⟨_, rfl⟩
              have hst2 : LG prKey pr0 ys k (j + 1) = if lb = true then i' else l := by
                rw [hst]
                unfold kAt
                rw [← hpi, ← hpl, hlb, hle]
                simp
              have HST := Lib.hid hst2
              have i1 : (0 : Int) ≤ (i' : Int) := by omega
              have i2 : (i' : Int) < (n : Int) := by omega
              have i3 : (0 : Int) ≤ (l : Int) := by omega
              have i4 : (l : Int) < (n : Int) := by omega
              have d5 : decide (cv < 0) = lb := hlb.symm
              clear hD hpi hpl hyl hsi hsl hle hlb hst hst2 hcv
              unfold prV at li ll HC
              go_wp2_with fail
              have wn : IntKind.i64.wrap (n : Int) = (n : Int) := IntWalk.i64_in _ (by omega)
              refine wp_region_still_tail 23 (by kernel_rfl) (by kernel_rfl) ?_
              simp only [List.take_succ_cons, List.take_zero, List.drop_succ_cons, List.drop_zero]
              rw [← hwd]
              clear hwd
              repeat still_step
              refine wpStill_nil ?_
              go_wp2_with fail
              refine (HC.out wd).mono ?_
              rintro e w5 ⟨rfl, hb5⟩
              have HT6 := Lib.hid (HD5.out.go hb5)
              clear c0 li ll hb5 d2
              cases lb with
              | false =>
                go_wp2_with fail
                go_roundw
                case rel => exact ⟨j + 1, by have := HJ.out; omega, by go_num, by rw [HST.out]; rfl, HT6.out⟩
                case measure => simp [intOf]; omega
              | true =>
                go_wp2_with fail
                go_roundw
                case rel => exact ⟨j + 1, by have := HJ.out; omega, by go_num, by rw [HST.out]; rfl, HT6.out⟩
                case measure => simp [intOf]; omega
            · have d2 : decide ((i' : Int) < (n : Int)) = false := by simp; omega
              have d3 : ¬ (i' : Int) < (n : Int) := by omega
              have hst : LG prKey pr0 ys k (j + 1) = l := by
                rw [HLV.out]
                have h1 := LG_stop (ys := ys) (k := k) (j := j) hj (.inr (by rw [HYL.out]; have := HI.out; omega))
                have h2 := LG_stop (ys := ys) (k := k) (j := j + 1) (by have := HJ.out; omega) (.inr (by rw [HYL.out]; have := HI.out; omega))
                rw [h1, h2]
              have HST := Lib.hid hst
              clear hst
              go_wp2_with fail
              go_quiet (fail)
              go_wp2_with fail
              go_roundw
              case rel => exact ⟨j + 1, by have := HJ.out; omega, by go_num, by rw [HST.out], HT5.out.drewN _⟩
              case measure => simp [intOf]; omega
    case rest =>
      obtain ⟨rfl, hT⟩ := hcut
      obtain ⟨l, hlv⟩ : ∃ l, l = leastG prKey pr0 ys k := ⟨_, rfl⟩
      rw [← hlv]
      have HLV := Lib.hid hlv
      have HT5 := Lib.hid hT
      clear hT hlv HT
      by_cases hlk : l = k
      · as_aux_lemma =>
          have d1 : ((l : Int) == (k : Int)) = true := by simp; omega
          have lx := HT5.out.loadX
          obtain ⟨sx, hqx, hbx⟩ := HT5.out.storeR
          have HQX := Lib.hid hqx
          have HBX := Lib.hid hbx
          have hfin := HDN.out.stop (by rw [← HLV.out]; exact hlk)
          have HFIN := Lib.hid hfin
          unfold prV at lx sx
          simp only [cellsOfEl, prF, List.range, List.range.loop, List.map_cons, List.map_nil] at sx HQX HBX
          clear hqx hbx hlk hfin
          go_wp2_with fail
          (try simp only [Exit.inBlock, Exit.then])
          refine bodyPost_ret (results_cell_row2 rfl _ _ w.heap.size _ rfl (run_loadVar_row _ w.heap.size 178 178 _ (0, 0) _ HBX.out Try.underlying178 rfl info66)) rfl ?_
          exact ⟨by first | rfl | simp, _, ys, HQX.out, HFIN.out, HPP.out⟩
      · as_aux_lemma =>
          have d1 : ((l : Int) == (k : Int)) = false := by simp; omega
          have hkm : k < n := by
            rcases hkn with h9 | h9
            · exact h9
            · apply Classical.byContradiction
              intro hm
              have h5 := (leastG_spec (key := prKey) (d := pr0) ys k).1
              rw [← HLV.out, HYL.out] at h5
              omega
          have hll := leastG_le (key := prKey) (d := pr0) ys k (by rw [HYL.out]; exact hkm)
          rw [← HLV.out, HYL.out] at hll
          have hl1 : l < n := hll.1
          have hl2 : k < l := by omega
          obtain ⟨pk, hpk⟩ : ∃ p, p = ys.getD k pr0 := ⟨_, rfl⟩
          obtain ⟨pl, hpl⟩ : ∃ p, p = ys.getD l pr0 := ⟨_, rfl⟩
          have c0 := HT5.out.qb.c0
          have lk := HT5.out.drew.qb.load HYL.out (k := k) hkm
          have ll := HT5.out.drew.qb.load HYL.out (k := l) hl1
          obtain ⟨s1, h1⟩ := HT5.out.drew.store HYL.out (k := k) hkm pl
          obtain ⟨s2, h2⟩ := h1.store (by rw [List.length_set]; exact HYL.out) (k := l) hl1 pk
          rw [← hpk] at lk
          rw [← hpl] at ll
          have HPQ := Lib.hid (And.intro hpk hpl)
          have H4 := Lib.hid h2
          clear h1 h2 hpk hpl hll hkn hlk
          unfold prV at lk ll s1 s2
          simp only [cellsOfEl, prF, List.range, List.range.loop, List.map_cons, List.map_nil] at H4 s1 s2
          have i1 : (0 : Int) ≤ (k : Int) := by omega
          have i2 : (k : Int) < (n : Int) := by omega
          have i3 : (0 : Int) ≤ (l : Int) := by omega
          have i4 : (l : Int) < (n : Int) := by omega
          go_wp2_with fail
          go_region
          go_wp2_with fail
          go_roundw
          case rel =>
            have hsw : (ys.set k pl).set l pk = swapG pr0 ys k l := by rw [swapG, ← HPQ.out.1, ← HPQ.out.2]
            rw [hsw] at H4
            have h3 := HDN.out.swap (by rw [HYL.out]; exact hkm) (by rw [← HLV.out]; omega)
            rw [← HLV.out] at h3
            exact ⟨l, swapG pr0 ys k l, by go_num, by rw [length_swapG]; exact HYL.out, .inl hl1, H4.out, h3, HPP.out.trans ((swapG_perm ys k l (by rw [HYL.out]; exact hkm) (by rw [HYL.out]; exact hl1)).symm.cons _)⟩
          case measure => simp [intOf]; omega
end Go.Proofs.Ytfjgfabochiflaa.H14
