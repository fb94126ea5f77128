/- QPut, MLook of this seat, in one text. -/
import Derived.Test.YtgejpggbmgiocaaM12
import Derived.StillTailTactics
import Derived.Test.YtgejpggbmgiocaaM3
/- put: a pair more in the queue. -/
namespace Go.Proofs.Ytgejpggbmgiocaa
open Go.RowKit
attribute [local go_sem ↓] load_pr store_pr
theorem info57b : (Try.prog.info? 57).map (fun i => (i.size, i.bytes)) = some (5, 40) := by kernel_rfl
theorem half_nat (k : Nat) (h : 0 < k) : ((k : Int) - 1).tdiv 2 = (((k - 1) / 2 : Nat) : Int) := by
  rw [Int.tdiv_eq_ediv_of_nonneg (by omega)]
  omega
abbrev HeapP (q : List Pr) : Prop := HeapG prKey pr0 q
set_option maxRecDepth 100000 in
set_option maxHeartbeats 4000000 in
theorem put_any (g0 : Nat) (w0 w : World) (a : Value) (q : List Pr) (x : Pr) (hn : q.length < 1000000) (hs : ∀ p ∈ q, SmallP p) (hx : SmallP x) (hh : HeapP q) (h : QB g0 w0 w a q) :
    Calls Try.prog 16 #[.pointer (some ⟨g0, 0, none⟩), prV x] w fun e w' => e = .returned (.tuple #[]) ∧ ∃ a' q', QB g0 w0 w' a' q' ∧ HeapP q' ∧ q'.Perm (q ++ [x]) := by
  obtain ⟨i9, z9, hi9, hz9, hsz9, hbt9, hzc9⟩ : ∃ i z, Try.prog.info? 57 = some i ∧ i.zero = some z ∧ i.size = 5 ∧ i.bytes = 40 ∧ z.cells.size = 5 := ⟨_, _, rfl, rfl, rfl, rfl, rfl⟩
  have H1 := Lib.hid (h.alloc (.cells (cellsOfEl 5 prF x).toArray 57))
  have HS := Lib.hid hs
  have HX := Lib.hid hx
  have HH := Lib.hid hh
  obtain ⟨n, hn'⟩ : ∃ n, n = q.length := ⟨_, rfl⟩
  rw [← hn'] at hn
  have HN := Lib.hid hn'
  have hlt := h.lt
  have ho : (w.alloc (.cells (cellsOfEl 5 prF x).toArray 57)).ownsRow (g0 + 1) 57 5 a n (qflat q) := by rw [hn']; exact H1.out.own
  have HO := Lib.hid ho
  have c1 := H1.out.c0
  have f1 := H1.out.f0
  have l1 : (loadPr (.pointer (some ⟨w.heap.size, 0, none⟩))).run Try.prog (w.alloc (.cells (cellsOfEl 5 prF x).toArray 57)).drew = .ok (prV x) (w.alloc (.cells (cellsOfEl 5 prF x).toArray 57)).drew := by
    refine load_range (fun j v hv => ?_)
    have := (Blk.new w 57 (cellsOfEl 5 prF x)).drewN 1
    have h2 := this.cell (0 + j)
    rw [Nat.zero_add] at h2 ⊢
    exact h2.trans hv
  have y1 : (0 : Nat) < 1 := by omega
  have y5 : (0 : Nat) < 5 := by omega
  have y2 : n + 1 ≤ maxLen := by unfold maxLen; omega
  have y3 : (n + 1) * 40 ≤ 140737488355328 := by omega
  have y4 := cells_one x
  clear hn' h hs hx hh ho
  unfold prV at l1 ⊢
  simp only [cellsOfEl, prF, List.range, List.range.loop, List.map_cons, List.map_nil] at H1 HO c1 f1 l1 y4
  go_enter Try.func16, Try.ntmps16
  go_upto_region 1 with (fail)
  generalize w.alloc _ = w1 at H1 HO c1 f1 l1 ⊢
  have hlt1 := H1.out.lt
  go_cut [] from 6 to 15 (fun wx => ∃ gg cap, QB g0 w0 wx (.slice (some ⟨gg, 0, none⟩) (n + 1) cap) (q ++ [x]))
  case first =>
    go_wp2_with fail
    go_region_law (first
      | (refine step_append_lies _ rfl (.tmp 10) (.tmp 12) 48 rfl (g0 + 1) 57 i9 z9 5 40 Try.underlying48 hi9 hz9 hsz9 hbt9 hzc9 y5 a n (qflat q) (by rfl) ?_ ⟨_, 0, none⟩ 1 1 [.int .i64 x.rank, .int .i64 x.left, .int .i64 x.first, .int .i64 x.second, .int .i64 x.id] (by rfl) rfl (World.news_of_block (cs := #[.int .i64 x.rank, .int .i64 x.left, .int .i64 x.first, .int .i64 x.second, .int .i64 x.id]) (t := 57) (fr := (0, 0)) ?_) y4 y1 y2 y3 ?_ _ rfl ?_
         · exact HO.out.drew.alloc _
         · exact heap_alloc_new _ _
         · simp; omega
         intro g5 c9 w5 hown5 hgrow5 hat5 hlt5
         have hbx := (hgrow5.block g0 (by simp; omega) (QB.off H1.out.drew)).trans ((World.grownBy_alloc w1.drew _ none).block g0 H1.out.drew.lt (by simp))
         rw [H1.out.drew.box] at hbx
         have d1 : w5.cell? ⟨g0, 0, none⟩ = some a := Blk.cell (cur := [a]) hbx 0
         have d2 := Blk.frozen (cur := [a]) hbx 0))
    all_goals
      go_wp2_with fail
      go_meet
      exact ⟨g5, c9, QB.put (q' := q ++ [x]) (((H1.out.drew.below.alloc (Nat.le_of_lt H1.out.drew.lt) _)).grown hgrow5 (by simp; omega) (fun k hk => by have := (H1.out.own.lt k hk).1; omega)) hbx (by
        rw [List.length_append, ← HN.out, qflat, flat_snoc]
        exact hown5)⟩
  case rest =>
    obtain ⟨gg, cap, hB2⟩ := hcut
    clear H1 HO c1 f1 l1 hlt1
    have HB2 := Lib.hid hB2
    have HU := Lib.hid (UpG.new HH.out x)
    rw [← HN.out] at HU
    have r0 := hB2.c0
    have g1 := hB2.near
    have hq2 : (q ++ [x]).length = n + 1 := by rw [List.length_append, ← HN.out]; rfl
    have hs2 : ∀ p ∈ q ++ [x], SmallP p := fun p hp => by
      rcases List.mem_append.mp hp with h9 | h9
      · exact HS.out p h9
      · simp at h9; subst h9; exact HX.out
    have HS2 := Lib.hid hs2
    have HQ2 := Lib.hid hq2
    clear hB2 hs2 hq2
    obtain ⟨w2, rfl⟩ : ∃ w2 : World, w2 = wc := ⟨_, rfl⟩
    go_wp2_with fail
    go_loopw [4] (fun i wr => ∃ (k : Nat) (ys : List Pr), i = .int .i64 k ∧ ys.length = n + 1 ∧ QB g0 w0 wr (.slice (some ⟨gg, 0, none⟩) (n + 1) cap) ys ∧ UpG prKey pr0 ys k ∧ ys.Perm (q ++ [x])) (fun i _ => (intOf i).toNat)
    case atStart => exact ⟨n, q ++ [x], by go_num, HQ2.out, HB2.out, HU.out, List.Perm.refl _⟩
    case round =>
      obtain ⟨k, ys, rfl, hyl, hB, hup, hp⟩ := hrel
      have hkl := hup.lt
      by_cases h0 : 0 < k
      · have HYL := Lib.hid hyl
        have HUP := Lib.hid hup
        have HP := Lib.hid hp
        obtain ⟨u, hu⟩ : ∃ u, u = (k - 1) / 2 := ⟨_, rfl⟩
        have hdiv := half_nat k h0
        rw [← hu] at hdiv
        have hul : u < k := by omega
        obtain ⟨wd, hwd⟩ : ∃ wd : World, wd = { heap := wr.heap, tape := wr.tape, drawn := wr.drawn + 1, os := wr.os, output := wr.output } := ⟨_, rfl⟩
        have hD : QB g0 w0 wd (.slice (some ⟨gg, 0, none⟩) (n + 1) cap) ys := by rw [hwd]; exact hB.drew
        have HD := Lib.hid hD
        have c0 := hD.c0
        have lk := hD.load hyl (k := k) (by omega)
        have lu := hD.load hyl (k := u) (by omega)
        obtain ⟨pk, hpk⟩ : ∃ p, p = ys.getD k pr0 := ⟨_, rfl⟩
        obtain ⟨pu, hpu⟩ : ∃ p, p = ys.getD u pr0 := ⟨_, rfl⟩
        rw [← hpk] at lk
        rw [← hpu] at lu
        have hsk : SmallP pk := HS2.out pk (hp.mem_iff.mp (by rw [hpk]; simp [show k < ys.length by omega]))
        have hsu : SmallP pu := HS2.out pu (hp.mem_iff.mp (by rw [hpu]; simp [show u < ys.length by omega]))
        have hle := less_key hsk hsu
        have HQ := Lib.hid (And.intro hpk (And.intro hpu (And.intro hu hle)))
        obtain ⟨lb, hlb⟩ : ∃ lb, lb = lessB pk pu := ⟨_, rfl⟩
        have HC := Lib.hid (less_any pk pu)
        rw [← hlb] at HC
        have HLB := Lib.hid hlb
        have i1 : (0 : Int) ≤ (k : Int) := by omega
        have i2 : (k : Int) < (n : Int) + 1 := by omega
        have i3 : (0 : Int) ≤ (u : Int) := by omega
        have i4 : (u : Int) < (n : Int) + 1 := by omega
        have i7 : u < n + 1 := by omega
        have i8 : k < n + 1 := by omega
        clear hB hD hup hp hpk hpu hu hsk hsu hle hlb
        unfold prV at lk lu HC
        go_wp2_with fail
        refine wp_region_still_tail 14 (by kernel_rfl) (by kernel_rfl) ?_
        simp only [List.take_succ_cons, List.take_zero, List.drop_succ_cons, List.drop_zero]
        rw [← hwd]
        clear hwd
        repeat still_step
        refine wpStill_nil ?_
        go_wp2_with fail
        refine (HC.out wd).mono ?_
        rintro e w3 ⟨rfl, hb3⟩
        have H3 := Lib.hid (HD.out.go hb3)
        clear c0 lk lu hb3
        cases lb with
        | false =>
          go_wp2_with fail
          go_returns
          refine ⟨by first | rfl | simp, _, ys, H3.out, HUP.out.stop (.inr ?_), HP.out⟩
          have h9 := HQ.out.2.2.2
          rw [← HLB.out] at h9
          unfold kAt
          rw [← HQ.out.1, ← HQ.out.2.2.1, ← HQ.out.2.1]
          have h8 := of_decide_eq_false h9.symm
          omega
        | true =>
          have c0 := H3.out.c0
          have lk := H3.out.drew.load HYL.out (k := k) (by omega)
          have lu := H3.out.drew.load HYL.out (k := u) (by omega)
          obtain ⟨s1, h1⟩ := H3.out.drew.store HYL.out (k := k) (by omega) pu
          obtain ⟨s2, h2⟩ := h1.store (by rw [List.length_set]; exact HYL.out) (k := u) (by omega) pk
          rw [← HQ.out.1] at lk
          rw [← HQ.out.2.1] at lu
          have H4 := Lib.hid h2
          clear h1 h2
          have nr := H3.out.near
          have nb : ¬ gg = g0 := by omega
          unfold prV at lk lu s1 s2
          simp only [cellsOfEl, prF, List.range, List.range.loop, List.map_cons, List.map_nil] at H4 s1 s2
          go_wp2_with fail
          go_region
          go_wp2_with fail
          go_roundw
          case rel =>
            have hsw : (ys.set k pu).set u pk = swapG pr0 ys u k := by
              rw [swapG, ← HQ.out.1, ← HQ.out.2.1, List.set_comm _ _ (by omega)]
            have hlt9 : ¬ kAt prKey pr0 ys ((k - 1) / 2) ≤ kAt prKey pr0 ys k := by
              have h9 := HQ.out.2.2.2
              rw [← HLB.out] at h9
              unfold kAt
              rw [← HQ.out.1, ← HQ.out.2.2.1, ← HQ.out.2.1]
              have h8 := of_decide_eq_true h9.symm
              omega
            have hnew := HUP.out.swap h0 hlt9
            rw [← HQ.out.2.2.1] at hnew
            rw [hsw] at H4
            exact ⟨u, swapG pr0 ys u k, by go_num, by rw [length_swapG]; exact HYL.out, H4.out, hnew, (swapG_perm ys u k (by have := HYL.out; omega) (by have := HYL.out; omega)).trans HP.out⟩
          case measure => simp [intOf]; omega
      · obtain rfl : k = 0 := by omega
        go_wp2_with fail
        go_returns
        exact ⟨rfl, _, ys, hB, hup.stop (.inl rfl), hp⟩
end Go.Proofs.Ytgejpggbmgiocaa
/- Merge's memory, and the look for a pair. -/
namespace Go.Proofs.Ytgejpggbmgiocaa
open Go.RowKit
def ndF (v : Nd) : Nat → Value
  | 0 => .int .i64 v.id
  | 1 => .int .i64 v.next
  | _ => .int .i64 v.last
abbrev nflat (nd : List Nd) : List Value := flat 3 ndF nd0 nd
/-- what a hash tells of two signs: a rank and a sign -/
def hget (S K V : List Int) (a b : Int) : Option (Int × Int) :=
  if (hashGet mix S K V (a * 4294967296 + b)).2 = true then some ((hashGet mix S K V (a * 4294967296 + b)).1 / 4294967296, (hashGet mix S K V (a * 4294967296 + b)).1 % 4294967296) else none
/-- Merge's memory: the hash in its box B, the list's box bl, its nodes gl, the queue's box bq -/
structure MM (w0 : World) (A0 A1 A2 : Option Addr) (n0 n1 n2 c0 c1 c2 : Nat) (S K V : List Int) (B bl gl bq n : Nat) (W : World) (nd : List Nd) (a : Value) (q : List Pr) : Prop where
  bel : Below B w0 W
  hin : HashIn w0 A0 A1 A2 n0 n1 n2 S K V
  hB : w0.heap.size = B
  hv : Under 18446744073709551616 V
  hb : Blk W B 25 [.slice A0 n0 c0, .slice A1 n1 c1, .slice A2 n2 c2]
  lb : Blk W bl 45 [.slice (some ⟨gl, 0, none⟩) n n]
  nb : Blk W gl 47 (nflat nd)
  qb : QB bq W W a q
  len : nd.length = n
  ob : B < bq
  obl : bl < bq
  ogl : gl < bq
  ogB : B ≤ gl
  obB : B ≤ bl
  ne : gl ≠ bl
  neB : gl ≠ B
theorem QB.again {g0 : Nat} {w0 w : World} {a : Value} {q : List Pr} (h : QB g0 w0 w a q) : QB g0 w w a q := ⟨Below.refl _ _, h.box, h.own⟩
section
variable {w0 : World} {A0 A1 A2 : Option Addr} {n0 n1 n2 c0 c1 c2 : Nat} {S K V : List Int} {B bl gl bq n : Nat} {W W' : World} {nd : List Nd} {a a' : Value} {q q' : List Pr}
theorem MM.go (h : MM w0 A0 A1 A2 n0 n1 n2 c0 c1 c2 S K V B bl gl bq n W nd a q) (hb : Below W.heap.size W W') : MM w0 A0 A1 A2 n0 n1 n2 c0 c1 c2 S K V B bl gl bq n W' nd a q :=
  ⟨h.bel.trans (hb.mono (Nat.le_of_lt h.hb.lt)), h.hin, h.hB, h.hv, h.hb.below hb h.hb.lt, h.lb.below hb h.lb.lt, h.nb.below hb h.nb.lt, (h.qb.go hb).again, h.len, h.ob, h.obl, h.ogl, h.ogB, h.obB, h.ne, h.neB⟩
theorem MM.drew (h : MM w0 A0 A1 A2 n0 n1 n2 c0 c1 c2 S K V B bl gl bq n W nd a q) : MM w0 A0 A1 A2 n0 n1 n2 c0 c1 c2 S K V B bl gl bq n W.drew nd a q := h.go (Below.refl _ _).drew
theorem MM.drewN (h : MM w0 A0 A1 A2 n0 n1 n2 c0 c1 c2 S K V B bl gl bq n W nd a q) (m : Nat) : MM w0 A0 A1 A2 n0 n1 n2 c0 c1 c2 S K V B bl gl bq n (W.drewN m) nd a q := h.go (below_drewN (Below.refl _ _) m)
theorem MM.cell (h : MM w0 A0 A1 A2 n0 n1 n2 c0 c1 c2 S K V B bl gl bq n W nd a q) {i j : Nat} (hi : i < n) (hj : j < 3) : W.cell? ⟨gl, i * 3 + j, none⟩ = some (ndF (ndAt nd i) j) := by
  rw [h.nb.cell]
  exact flat_get (by rw [h.len]; exact hi) hj
theorem MM.box (h : MM w0 A0 A1 A2 n0 n1 n2 c0 c1 c2 S K V B bl gl bq n W nd a q) : W.cell? ⟨bl, 0, none⟩ = some (.slice (some ⟨gl, 0, none⟩) n n) := h.lb.cell 0
theorem MM.hash (h : MM w0 A0 A1 A2 n0 n1 n2 c0 c1 c2 S K V B bl gl bq n W nd a q) : HashIn W A0 A1 A2 n0 n1 n2 S K V := h.hin.keep (by rw [h.hB]; exact h.bel)
theorem MM.put (h : MM w0 A0 A1 A2 n0 n1 n2 c0 c1 c2 S K V B bl gl bq n W nd a q) (hq : QB bq W W' a' q') : MM w0 A0 A1 A2 n0 n1 n2 c0 c1 c2 S K V B bl gl bq n W' nd a' q' :=
  ⟨h.bel.trans (hq.below.mono (Nat.le_of_lt h.ob)), h.hin, h.hB, h.hv, h.hb.below hq.below h.ob, h.lb.below hq.below h.obl, h.nb.below hq.below h.ogl, hq.again, h.len, h.ob, h.obl, h.ogl, h.ogB, h.obB, h.ne, h.neB⟩
end
theorem hashGet_bd {S K V : List Int} (hv : Under 18446744073709551616 V) (key : Int) : 0 ≤ (hashGet mix S K V key).1 ∧ (hashGet mix S K V key).1 < 18446744073709551616 := by
  unfold hashGet
  split
  · exact ⟨by simp, by simp⟩
  · split
    · exact ⟨by simp, by simp⟩
    · exact hv _
theorem hget_bd {S K V : List Int} (hv : Under 18446744073709551616 V) {a b r x : Int} (h : hget S K V a b = some (r, x)) : 0 ≤ r ∧ r < 4294967296 ∧ 0 ≤ x ∧ x < 4294967296 := by
  have hb := hashGet_bd (S := S) (K := K) hv (a * 4294967296 + b)
  unfold hget at h
  split at h
  · cases h; omega
  · cases h
theorem wraps_u64 (n : Int) (h0 : 0 ≤ n) (h1 : n < 2 ^ 64) : IntKind.u64.wrap n = n := wrap_u64_in n h0 (by simpa using h1)
theorem or_key (a b : Int) (ha : 0 ≤ a) (ha2 : a < 65536) (hb : 0 ≤ b) (hb2 : b < 65536) : bits BinOp.or IntKind.u64 (a * 4294967296) b = a * 4294967296 + b :=
  bits_join .u64 64 (by decide) wraps_u64 32 _ b (by omega) (by omega) (by omega) hb (by omega) (by omega)
theorem and_low (v : Int) (h0 : 0 ≤ v) (h1 : v < 18446744073709551616) : bits BinOp.and IntKind.u64 v 4294967295 = v % 4294967296 :=
  bits_mask .u64 64 (by decide) wraps_u64 32 (by decide) v h0 (by simpa using h1)
theorem lookP_val (get : Int → Int → Option (Int × Int)) (nd : List Nd) (k nx : Nat) (h : (ndAt nd k).next = (nx : Int)) : lookP get nd (k : Int) = (get (ndAt nd k).id (ndAt nd nx).id).map fun v => ⟨v.1, k, (ndAt nd k).id, (ndAt nd nx).id, v.2⟩ := by
  unfold lookP
  rw [Int.toNat_natCast, if_neg (by rw [h]; omega)]
  simp only [h, Int.toNat_natCast]
set_option maxRecDepth 100000 in
set_option maxHeartbeats 4000000 in
theorem look_any (w0 : World) (A0 A1 A2 : Option Addr) (n0 n1 n2 c0 c1 c2 : Nat) (S K V : List Int) (B bl gl bq n : Nat) (W : World) (nd : List Nd) (a : Value) (q : List Pr) (h : MM w0 A0 A1 A2 n0 n1 n2 c0 c1 c2 S K V B bl gl bq n W nd a q)
    (k : Nat) (hk : k < n) (hn : n ≤ 262144) (nx : Nat) (hnx : (ndAt nd k).next = (nx : Int)) (hnn : nx < n) (hq : q.length < 999999) (hs : ∀ p ∈ q, SmallP p) (hh : HeapP q)
    (ha : 0 ≤ (ndAt nd k).id ∧ (ndAt nd k).id < 65536) (hb : 0 ≤ (ndAt nd nx).id ∧ (ndAt nd nx).id < 65536) :
    Calls Try.prog 14 #[.int .i64 k, .pointer (some ⟨bl, 0, none⟩), .pointer (some ⟨B, 0, none⟩), .pointer (some ⟨bq, 0, none⟩)] W fun e w' => e = .returned (.tuple #[]) ∧ ∃ a' q', MM w0 A0 A1 A2 n0 n1 n2 c0 c1 c2 S K V B bl gl bq n w' nd a' q' ∧ HeapP q' ∧ q'.Perm (q ++ (lookP (hget S K V) nd (k : Int)).toList) := by
  have H := Lib.hid h
  have q0 := h.box
  have c00 := h.cell hk (j := 0) (by omega)
  have c01 := h.cell hk (j := 1) (by omega)
  have c10 := h.cell hnn (j := 0) (by omega)
  have h0 := h.hb.cell 0
  have h1 := h.hb.cell 1
  have h2 := h.hb.cell 2
  obtain ⟨x, hx⟩ : ∃ x, x = (ndAt nd k).id := ⟨_, rfl⟩
  obtain ⟨y, hy⟩ : ∃ y, y = (ndAt nd nx).id := ⟨_, rfl⟩
  unfold ndF at c00 c01 c10
  simp only [← hx, ← hy, hnx, Nat.add_zero] at c00 c01 c10 ha hb
  simp only [List.getElem?_cons_zero, List.getElem?_cons_succ] at h0 h1 h2
  have i1 : (k : Int) < (n : Int) := by omega
  have i2 : (nx : Int) < (n : Int) := by omega
  have hlk := lookP_val (hget S K V) nd k nx hnx
  rw [← hx, ← hy] at hlk
  have hok := or_key x y ha.1 ha.2 hb.1 hb.2
  obtain ⟨r, hr⟩ : ∃ r, r = hashGet mix S K V (x * 4294967296 + y) := ⟨_, rfl⟩
  have hbd := hashGet_bd (S := S) (K := K) h.hv (x * 4294967296 + y)
  have HG := Lib.hid (fun W (h : HashIn W A0 A1 A2 n0 n1 n2 S K V) => h.get c0 c1 c2 (x * 4294967296 + y))
  have hgv : hget S K V x y = if r.2 = true then some (r.1 / 4294967296, r.1 % 4294967296) else none := by unfold hget; rw [← hr]
  rw [hgv] at hlk
  rw [← hr] at hbd HG
  have HLK := Lib.hid hlk
  have HX := Lib.hid (And.intro hx (And.intro hy (And.intro hnx (And.intro hr hgv))))
  clear h hx hy hr hgv hlk hnx
  obtain ⟨v, is⟩ := r
  simp only at hbd
  go_enter Try.func14, Try.ntmps14
  go_wp2_with fail
  go_quiet (fail)
  have H2 := Lib.hid (H.out.drewN nq)
  generalize W.drewN nq = w2 at H2 ⊢
  clear q0 c00 c01 c10 h0 h1 h2
  have h0 := H2.out.hb.cell 0
  have h1 := H2.out.hb.cell 1
  have h2 := H2.out.hb.cell 2
  simp only [List.getElem?_cons_zero, List.getElem?_cons_succ] at h0 h1 h2
  go_wp2_with fail
  refine (HG.out _ H2.out.hash).mono ?_
  rintro e w3 ⟨rfl, hb3⟩
  have H3 := Lib.hid (H2.out.go hb3)
  clear hb3 h0 h1 h2
  cases is with
  | false =>
    go_wp2_with fail
    go_returns
    refine ⟨by first | rfl | simp, a, q, H3.out, hh, ?_⟩
    rw [HLK.out]
    simp
  | true =>
    have hal := and_low v hbd.1 hbd.2
    go_wp2_with fail
    refine (put_any bq w3 w3 a q ⟨v / 4294967296, k, x, y, v % 4294967296⟩ (by omega) hs ⟨by show 0 ≤ v / 4294967296; omega, by show v / 4294967296 < 4294967296; omega, by show (0 : Int) ≤ (k : Int); omega, by show (k : Int) < 4294967296; omega⟩ hh H3.out.qb).mono ?_
    rintro e w4 ⟨rfl, a', q', hq4, hh4, hp4⟩
    have H4 := Lib.hid (H3.out.put hq4)
    have HP4 := Lib.hid (And.intro hh4 hp4)
    clear hq4 hh4 hp4
    go_wp2_with fail
    go_returns
    refine ⟨by first | rfl | simp, a', q', H4.out, HP4.out.1, ?_⟩
    rw [HLK.out]
    exact HP4.out.2
set_option maxRecDepth 100000 in
set_option maxHeartbeats 4000000 in
theorem look_neg (bl B bq : Nat) (W : World) :
    Calls Try.prog 14 #[.int .i64 (-1), .pointer (some ⟨bl, 0, none⟩), .pointer (some ⟨B, 0, none⟩), .pointer (some ⟨bq, 0, none⟩)] W fun e w' => e = .returned (.tuple #[]) ∧ w' = W := by
  go_enter Try.func14, Try.ntmps14
  go_wp2_with fail
  go_returns
  exact ⟨by first | rfl | simp, rfl⟩
set_option maxRecDepth 100000 in
set_option maxHeartbeats 4000000 in
theorem look_end (bl B bq gl n k : Nat) (W : World) (hk : k < n) (q0 : W.cell? ⟨bl, 0, none⟩ = some (.slice (some ⟨gl, 0, none⟩) n n)) (c1 : W.cell? ⟨gl, k * 3 + 1, none⟩ = some (.int .i64 (-1))) :
    Calls Try.prog 14 #[.int .i64 k, .pointer (some ⟨bl, 0, none⟩), .pointer (some ⟨B, 0, none⟩), .pointer (some ⟨bq, 0, none⟩)] W fun e w' => e = .returned (.tuple #[]) ∧ w' = W := by
  have i1 : (k : Int) < (n : Int) := by omega
  go_enter Try.func14, Try.ntmps14
  go_wp2_with fail
  go_returns
  exact ⟨by first | rfl | simp, rfl⟩
theorem look_all (w0 : World) (A0 A1 A2 : Option Addr) (n0 n1 n2 c0 c1 c2 : Nat) (S K V : List Int) (B bl gl bq n : Nat) (W : World) (nd : List Nd) (a : Value) (q : List Pr) (h : MM w0 A0 A1 A2 n0 n1 n2 c0 c1 c2 S K V B bl gl bq n W nd a q)
    (hn : n ≤ 262144) (c : List Nat) (hc : Chain nd c) (hi : ∀ i, i < nd.length → (ndAt nd i).id < 65536) (i : Int) (hij : i = -1 ∨ ∃ j, j < c.length ∧ i = (c.getD j 0 : Nat)) (hq : q.length < 999999) (hs : ∀ p ∈ q, SmallP p) (hh : HeapP q) :
    Calls Try.prog 14 #[.int .i64 i, .pointer (some ⟨bl, 0, none⟩), .pointer (some ⟨B, 0, none⟩), .pointer (some ⟨bq, 0, none⟩)] W fun e w' => e = .returned (.tuple #[]) ∧ ∃ a' q', MM w0 A0 A1 A2 n0 n1 n2 c0 c1 c2 S K V B bl gl bq n w' nd a' q' ∧ HeapP q' ∧ q'.Perm (q ++ (lookP (hget S K V) nd i).toList) := by
  rcases hij with rfl | ⟨j, hj, rfl⟩
  · refine (look_neg bl B bq W).mono ?_
    rintro e w' ⟨rfl, rfl⟩
    exact ⟨rfl, a, q, h, hh, by unfold lookP; rw [if_pos (by omega)]; simp⟩
  · have hlt := hc.lt j hj
    rw [h.len] at hlt
    by_cases hj1 : j + 1 < c.length
    · have hn1 := hc.next j hj1
      have hlt1 := hc.lt (j + 1) hj1
      rw [h.len] at hlt1
      exact look_any w0 A0 A1 A2 n0 n1 n2 c0 c1 c2 S K V B bl gl bq n W nd a q h _ hlt hn _ hn1 hlt1 hq hs hh ⟨hc.id j hj, hi _ (by rw [h.len]; exact hlt)⟩ ⟨hc.id (j + 1) hj1, hi _ (by rw [h.len]; exact hlt1)⟩
    · have hn1 := hc.nextEnd j (by omega)
      have hcell := h.cell hlt (j := 1) (by omega)
      unfold ndF at hcell
      simp only [hn1] at hcell
      refine (look_end bl B bq gl n _ W hlt h.box hcell).mono ?_
      rintro e w' ⟨rfl, rfl⟩
      exact ⟨rfl, a, q, h, hh, by unfold lookP; rw [Int.toNat_natCast, if_pos (by rw [hn1]; omega)]; simp⟩
end Go.Proofs.Ytgejpggbmgiocaa
