/- put: a pair more in the queue. -/
import Derived.Test.YtklklmaclaohaaaPBox
import Derived.StillTailTactics
namespace Go.Proofs.Ytklklmaclaohaaa
open Go.RowKit
attribute [local go_sem ↓] load_pr store_pr
theorem info66b : (Try.prog.info? 66).map (fun i => (i.size, i.bytes)) = some (4, 32) := by kernel_rfl
theorem half_nat (k : Nat) (h : 0 < k) : ((k : Int) - 1).tdiv 2 = (((k - 1) / 2 : Nat) : Int) := by
  rw [Int.tdiv_eq_ediv_of_nonneg (by omega)]
  omega
abbrev HeapP (q : List Pr) : Prop := HeapG prKey pr0 q
set_option maxRecDepth 100000 in
set_option maxHeartbeats 4000000 in
theorem put_any (P : Nat → Obj → Prop) (g0 : Nat) (w0 w : World) (a : Value) (q : List Pr) (x : Pr) (hn : q.length < 1000000) (hs : ∀ p ∈ q, SmallP p) (hx : SmallP x) (hh : HeapP q) (h : QB P g0 w0 w a q) :
    Calls Try.prog 23 #[.pointer (some ⟨g0, 0, none⟩), prV x] w fun e w' => e = .returned (.tuple #[]) ∧ ∃ a' q', QB P g0 w0 w' a' q' ∧ HeapP q' ∧ q'.Perm (q ++ [x]) := by
  obtain ⟨i9, z9, hi9, hz9, hsz9, hbt9, hzc9⟩ : ∃ i z, Try.prog.info? 66 = some i ∧ i.zero = some z ∧ i.size = 4 ∧ i.bytes = 32 ∧ z.cells.size = 4 := ⟨_, _, rfl, rfl, rfl, rfl, rfl⟩
  have H1 := Lib.hid (h.alloc (.cells (cellsOfEl 4 prF x).toArray 66))
  have HS := Lib.hid hs
  have HX := Lib.hid hx
  have HH := Lib.hid hh
  obtain ⟨n, hn'⟩ : ∃ n, n = q.length := ⟨_, rfl⟩
  rw [← hn'] at hn
  have HN := Lib.hid hn'
  have hlt := h.lt
  have ho : (w.alloc (.cells (cellsOfEl 4 prF x).toArray 66)).ownsRow (g0 + 1) 66 4 a n (qflat q) := by rw [hn']; exact H1.out.own
  have HO := Lib.hid ho
  have c1 := H1.out.c0
  have f1 := H1.out.f0
  have l1 : (loadPr (.pointer (some ⟨w.heap.size, 0, none⟩))).run Try.prog (w.alloc (.cells (cellsOfEl 4 prF x).toArray 66)).drew = .ok (prV x) (w.alloc (.cells (cellsOfEl 4 prF x).toArray 66)).drew := by
    refine load_range (fun j v hv => ?_)
    have := (Blk.new w 66 (cellsOfEl 4 prF x)).drewN 1
    have h2 := this.cell (0 + j)
    rw [Nat.zero_add] at h2 ⊢
    exact h2.trans hv
  have y1 : (0 : Nat) < 1 := by omega
  have y5 : (0 : Nat) < 4 := by omega
  have y2 : n + 1 ≤ maxLen := by unfold maxLen; omega
  have y3 : (n + 1) * 32 ≤ 140737488355328 := by omega
  have y4 := cells_one x
  clear hn' h hs hx hh ho
  unfold prV at l1 ⊢
  simp only [cellsOfEl, prF, List.range, List.range.loop, List.map_cons, List.map_nil] at H1 HO c1 f1 l1 y4
  go_enter Try.func23, Try.ntmps23
  go_upto_region 1 with (fail)
  generalize w.alloc _ = w1 at H1 HO c1 f1 l1 ⊢
  have hlt1 := H1.out.lt
  go_cut [] from 6 to 15 (fun wx => ∃ gg cap, QB P g0 w0 wx (.slice (some ⟨gg, 0, none⟩) (n + 1) cap) (q ++ [x]))
  case first =>
    go_wp2_with fail
    go_region_law (first
      | (refine step_append_lies _ rfl (.tmp 10) (.tmp 12) 69 rfl (g0 + 1) 66 i9 z9 4 32 Try.underlying69 hi9 hz9 hsz9 hbt9 hzc9 y5 a n (qflat q) (by rfl) ?_ ⟨_, 0, none⟩ 1 1 [.int .i64 x.rank, .int .i64 x.left, .int .i64 x.first, .int .i64 x.second] (by rfl) rfl (World.news_of_block (cs := #[.int .i64 x.rank, .int .i64 x.left, .int .i64 x.first, .int .i64 x.second]) (t := 66) (fr := (0, 0)) ?_) y4 y1 y2 y3 ?_ _ rfl ?_
         · exact HO.out.drew.alloc _
         · exact heap_alloc_new _ _
         · simp; omega
         intro g5 c9 w5 hown5 hgrow5 hat5 hlt5
         have hbx := (hgrow5.block g0 (by simp; omega) (QB.off H1.out.drew)).trans ((World.grownBy_alloc w1.drew _ none).block g0 H1.out.drew.lt (by simp))
         rw [H1.out.drew.box] at hbx
         have d1 : w5.cell? ⟨g0, 0, none⟩ = some a := Blk.cell (cur := [a, F20]) hbx 0
         have d2 := Blk.frozen (cur := [a, F20]) hbx 0))
    all_goals
      go_wp2_with fail
      go_meet
      refine ⟨g5, c9, QB.put (q' := q ++ [x]) (((H1.out.drew.below.alloc (Nat.le_of_lt H1.out.drew.lt) _)).grown hgrow5 (by simp; omega) (fun k hk => by have := (H1.out.own.lt k hk).1; omega)) hbx (by
        rw [List.length_append, ← HN.out, qflat, flat_snoc]
        exact hown5) (fun k o hp => ?_)⟩
      have hk9 := H1.out.pk k o hp
      have hl9 := lt_of_heap hk9.2.2
      refine ⟨hk9.1, fun e => ?_, (hgrow5.block k (by simp; omega) (fun e => hk9.2.1 e.symm)).trans (((World.grownBy_alloc w1.drew _ none).block k (by simpa using hl9) (by simp)).trans hk9.2.2)⟩
      injection e with e
      simp only at e
      subst e
      rcases hat5 with e | e
      · exact hk9.2.1 e
      · simp at e; omega
  case rest =>
    obtain ⟨gg, cap, hB2⟩ := hcut
    clear H1 HO c1 f1 l1 hlt1
    have HB2 := Lib.hid hB2
    have HU := Lib.hid (UpG.new HH.out x)
    rw [← HN.out] at HU
    have r0 := hB2.c0
    have g1 := hB2.near
    have hq2 : (q ++ [x]).length = n + 1 := by rw [List.length_append, ← HN.out]; rfl
    have hs2 : ∀ p ∈ q ++ [x], SmallP p := fun p hp => by
      rcases List.mem_append.mp hp with h9 | h9
      · exact HS.out p h9
      · simp at h9; subst h9; exact HX.out
    have HS2 := Lib.hid hs2
    have HQ2 := Lib.hid hq2
    clear hB2 hs2 hq2
    obtain ⟨w2, rfl⟩ : ∃ w2 : World, w2 = wc := ⟨_, rfl⟩
    go_wp2_with fail
    go_loopw [4] (fun i wr => ∃ (k : Nat) (ys : List Pr), i = .int .i64 k ∧ ys.length = n + 1 ∧ QB P g0 w0 wr (.slice (some ⟨gg, 0, none⟩) (n + 1) cap) ys ∧ UpG prKey pr0 ys k ∧ ys.Perm (q ++ [x])) (fun i _ => (intOf i).toNat)
    case atStart => exact ⟨n, q ++ [x], by go_num, HQ2.out, HB2.out, HU.out, List.Perm.refl _⟩
    case round =>
      obtain ⟨k, ys, rfl, hyl, hB, hup, hp⟩ := hrel
      have hkl := hup.lt
      by_cases h0 : 0 < k
      · have HYL := Lib.hid hyl
        have HUP := Lib.hid hup
        have HP := Lib.hid hp
        obtain ⟨u, hu⟩ : ∃ u, u = (k - 1) / 2 := ⟨_, rfl⟩
        have hdiv := half_nat k h0
        rw [← hu] at hdiv
        have hul : u < k := by omega
        obtain ⟨wd, hwd⟩ : ∃ wd : World, wd = { heap := wr.heap, tape := wr.tape, drawn := wr.drawn + 1, os := wr.os, output := wr.output } := ⟨_, rfl⟩
        have hD : QB P g0 w0 wd (.slice (some ⟨gg, 0, none⟩) (n + 1) cap) ys := by rw [hwd]; exact hB.drew
        have HD := Lib.hid hD
        have c0 := hD.c0
        have c1 := hD.c1
        have lk := hD.load hyl (k := k) (by omega)
        have lu := hD.load hyl (k := u) (by omega)
        obtain ⟨pk, hpk⟩ : ∃ p, p = ys.getD k pr0 := ⟨_, rfl⟩
        obtain ⟨pu, hpu⟩ : ∃ p, p = ys.getD u pr0 := ⟨_, rfl⟩
        rw [← hpk] at lk
        rw [← hpu] at lu
        have hsk : SmallP pk := HS2.out pk (hp.mem_iff.mp (by rw [hpk]; simp [show k < ys.length by omega]))
        have hsu : SmallP pu := HS2.out pu (hp.mem_iff.mp (by rw [hpu]; simp [show u < ys.length by omega]))
        have hle := cmp_le hsu hsk
        have HQ := Lib.hid (And.intro hpk (And.intro hpu hu))
        obtain ⟨cv, hcv⟩ : ∃ cv, cv = cmpP pu pk := ⟨_, rfl⟩
        have HC := Lib.hid (less_any pu pk hsu hsk)
        rw [← hcv] at HC hle
        obtain ⟨lb, hlb⟩ : ∃ lb, lb = decide (cv ≤ 0) := ⟨_, rfl⟩
        have HLB := Lib.hid hlb
        have HQ3 := Lib.hid hle
        have i1 : (0 : Int) ≤ (k : Int) := by omega
        have i2 : (k : Int) < (n : Int) + 1 := by omega
        have i3 : (0 : Int) ≤ (u : Int) := by omega
        have i4 : (u : Int) < (n : Int) + 1 := by omega
        have i7 : u < n + 1 := by omega
        have i8 : k < n + 1 := by omega
        clear hB hD hup hp hpk hpu hu hsk hsu hle hcv
        unfold prV at lk lu HC
        go_wp2_with fail
        refine wp_region_still_tail 18 (by kernel_rfl) (by kernel_rfl) ?_
        simp only [List.take_succ_cons, List.take_zero, List.drop_succ_cons, List.drop_zero]
        rw [← hwd]
        clear hwd
        repeat still_step
        refine wpStill_nil ?_
        go_wp2_with fail
        refine (HC.out wd).mono ?_
        rintro e w3 ⟨rfl, hb3⟩
        have H3 := Lib.hid (HD.out.go hb3)
        clear c0 lk lu hb3
        dsimp only
        have d5 : decide (cv ≤ 0) = lb := hlb.symm
        clear hlb
        cases lb with
        | true =>
          go_wp2_with fail
          go_returns
          refine ⟨by first | rfl | simp, _, ys, H3.out, HUP.out.stop (.inr ?_), HP.out⟩
          have h9 := HQ3.out
          rw [← HLB.out] at h9
          unfold kAt
          rw [← HQ.out.1, ← HQ.out.2.2, ← HQ.out.2.1]
          exact of_decide_eq_true h9.symm
        | false =>
          have c0 := H3.out.c0
          have lk := H3.out.drew.load HYL.out (k := k) (by omega)
          have lu := H3.out.drew.load HYL.out (k := u) (by omega)
          obtain ⟨s1, h1⟩ := H3.out.drew.store HYL.out (k := u) (by omega) pk
          obtain ⟨s2, h2⟩ := h1.store (by rw [List.length_set]; exact HYL.out) (k := k) (by omega) pu
          rw [← HQ.out.1] at lk
          rw [← HQ.out.2.1] at lu
          have H4 := Lib.hid h2
          clear h1 h2
          have nr := H3.out.near
          have nb : ¬ gg = g0 := by omega
          unfold prV at lk lu s1 s2
          simp only [cellsOfEl, prF, List.range, List.range.loop, List.map_cons, List.map_nil] at H4 s1 s2
          go_wp2_with fail
          go_region
          go_wp2_with fail
          go_roundw
          case rel =>
            have hsw : (ys.set u pk).set k pu = swapG pr0 ys u k := by
              rw [swapG, ← HQ.out.1, ← HQ.out.2.1]
            have hlt9 : ¬ kAt prKey pr0 ys ((k - 1) / 2) ≤ kAt prKey pr0 ys k := by
              have h9 := HQ3.out
              rw [← HLB.out] at h9
              unfold kAt
              rw [← HQ.out.1, ← HQ.out.2.2, ← HQ.out.2.1]
              exact of_decide_eq_false h9.symm
            have hnew := HUP.out.swap h0 hlt9
            rw [← HQ.out.2.2] at hnew
            rw [hsw] at H4
            exact ⟨u, swapG pr0 ys u k, by go_num, by rw [length_swapG]; exact HYL.out, H4.out, hnew, (swapG_perm ys u k (by have := HYL.out; omega) (by have := HYL.out; omega)).trans HP.out⟩
          case measure => simp [intOf]; omega
      · obtain rfl : k = 0 := by omega
        go_wp2_with fail
        go_returns
        exact ⟨rfl, _, ys, hB, hup.stop (.inl rfl), hp⟩
end Go.Proofs.Ytklklmaclaohaaa
