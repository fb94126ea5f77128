/- Tokens' memory, and the look for a pair. -/
import Derived.Test.YtklklmaclaohaaaTkA
namespace Go.Proofs.Ytklklmaclaohaaa
open Go.RowKit Go.Maps Go.WideMaps
def ndF (v : Nd) : Nat → Value
  | 0 => .int .i64 v.id
  | 1 => .int .i64 v.next
  | _ => .int .i64 v.last
abbrev nflat (nd : List Nd) : List Value := flat 3 ndF nd0 nd
/-- what an engine tells of two ids: a rank, and what they become -/
def fget (F : Int → Int → Option Nat) (a b : Int) : Option (Int × Int) := (F a b).map fun k => ((k : Int), 256 + (k : Int))
def FSmall (F : Int → Int → Option Nat) : Prop := ∀ a b k, F a b = some k → k < 1024
/-- Tokens' memory: the engine, e's box be, the list's box bl, its nodes gl, the queue's box bq -/
structure TM (P : Nat → Obj → Prop) (S : Nat → Prop) (w0 : World) (B ge gm be bl bq : Nat) (fv : Value) (D : DataW Unit) (k : Nat) (F : Int → Int → Option Nat) (gl cap n : Nat) (W : World) (nd : List Nd) (a : Value) (q : List Pr) : Prop where
  kept : But S w0 W
  eg : Eg W B ge gm fv (.slice none 0 0) 0 D k F
  eb : Blk W be 24 [.pointer (some ⟨ge, 0, none⟩)]
  lb : Blk W bl 61 [.slice (some ⟨gl, 0, none⟩) n cap]
  no : W.ownsRow B 64 3 (.slice (some ⟨gl, 0, none⟩) n cap) n (nflat nd)
  qb : QB P bq W W a q
  len : nd.length = n
  sgl : gl < w0.heap.size → S gl
  wq : w0.heap.size ≤ bq
  oge : ge < bq
  ogm : gm < bq
  obe : be < bq
  obl : bl < bq
  ogl : gl < bq
  ofv : ∀ k, fv.ownBlock = some k → k < bq
  nge : gl ≠ ge
  ngm : gl ≠ gm
  nbe : gl ≠ be
  nbl : gl ≠ bl
  nfv : fv.ownBlock ≠ some gl
  npk : ∀ k o, P k o → gl ≠ k
theorem QB.again {P : Nat → Obj → Prop} {g0 : Nat} {w0 w : World} {a : Value} {q : List Pr} (h : QB P g0 w0 w a q) : QB P g0 w w a q := ⟨Below.refl _ _, h.box, h.own, h.pk⟩
section
variable {P : Nat → Obj → Prop} {S : Nat → Prop} {w0 : World} {B ge gm be bl bq : Nat} {fv : Value} {D : DataW Unit} {k : Nat} {F : Int → Int → Option Nat} {gl cap n : Nat} {W W' : World} {nd nd' : List Nd} {a a' : Value} {q q' : List Pr}
theorem TM.put (h : TM P S w0 B ge gm be bl bq fv D k F gl cap n W nd a q) (hq : QB P bq W W' a' q') : TM P S w0 B ge gm be bl bq fv D k F gl cap n W' nd a' q' := by
  have hb := But.of_below hq.below
  have l1 := h.oge
  have l2 := h.ogm
  have l3 := h.obe
  have l4 := h.obl
  have l5 := h.ogl
  have l6 := h.wq
  exact ⟨h.kept.trans hb (fun k hk e => by omega), h.eg.but hb (by omega) (by omega) (fun k hk => by have := h.ofv k hk; omega) (fun k hk => by cases hk), hb.blk h.eb (by omega), hb.blk h.lb (by omega),
    hb.own h.no (fun k hk => by injection hk with hk; simp only at hk; omega), hq.again, h.len, h.sgl, h.wq, l1, l2, l3, l4, l5, h.ofv, h.nge, h.ngm, h.nbe, h.nbl, h.nfv, h.npk⟩
theorem TM.go (h : TM P S w0 B ge gm be bl bq fv D k F gl cap n W nd a q) (hb : Below W.heap.size W W') : TM P S w0 B ge gm be bl bq fv D k F gl cap n W' nd a q := h.put (h.qb.go hb)
theorem TM.drew (h : TM P S w0 B ge gm be bl bq fv D k F gl cap n W nd a q) : TM P S w0 B ge gm be bl bq fv D k F gl cap n W.drew nd a q := h.go (Below.refl _ _).drew
theorem TM.drewN (h : TM P S w0 B ge gm be bl bq fv D k F gl cap n W nd a q) (m : Nat) : TM P S w0 B ge gm be bl bq fv D k F gl cap n (W.drewN m) nd a q := h.go (below_drewN (Below.refl _ _) m)
theorem TM.alloc (h : TM P S w0 B ge gm be bl bq fv D k F gl cap n W nd a q) (o : Obj) : TM P S w0 B ge gm be bl bq fv D k F gl cap n (W.alloc o) nd a q := h.go ((Below.refl _ _).alloc (Nat.le_refl _) _)
/-- the nodes are written, and nothing else -/
theorem TM.nodes (h : TM P S w0 B ge gm be bl bq fv D k F gl cap n W nd a q) (hg : W.grownBy W' (some gl)) (hn : W'.ownsRow B 64 3 (.slice (some ⟨gl, 0, none⟩) n cap) n (nflat nd')) (hl : nd'.length = n) : TM P S w0 B ge gm be bl bq fv D k F gl cap n W' nd' a q := by
  have hb := But.of_grown hg
  have l1 := h.oge
  have l2 := h.ogm
  have l3 := h.obe
  have l4 := h.obl
  have l5 := h.ogl
  have hqn : bq ≠ gl := by omega
  have e1 : ∀ k, k ≠ gl → ¬ (some gl = some k) := fun k hk e => hk (by injection e with e; exact e.symm)
  refine ⟨h.kept.trans hb (fun k hk e => ?_), h.eg.but hb (e1 _ (Ne.symm h.nge)) (e1 _ (Ne.symm h.ngm)) (fun k hk => e1 _ (fun e => h.nfv (by rw [hk, e]))) (fun k hk => by cases hk), hb.blk h.eb (e1 _ (Ne.symm h.nbe)), hb.blk h.lb (e1 _ (Ne.symm h.nbl)),
    hn, ⟨Below.refl _ _, hb.blk h.qb.box (e1 _ hqn), hb.own h.qb.own (fun k hk => e1 _ (fun e => by have := (h.qb.own.lt k hk).1; omega)), fun k o hp => ⟨(h.qb.pk k o hp).1, (h.qb.pk k o hp).2.1, (hb.block k (lt_of_heap (h.qb.pk k o hp).2.2) (e1 _ (Ne.symm (h.npk k o hp)))).trans (h.qb.pk k o hp).2.2⟩⟩, hl, h.sgl, h.wq, l1, l2, l3, l4, l5, h.ofv, h.nge, h.ngm, h.nbe, h.nbl, h.nfv, h.npk⟩
  injection e with e
  subst e
  exact h.sgl hk
theorem TM.cell (h : TM P S w0 B ge gm be bl bq fv D k F gl cap n W nd a q) {i j : Nat} (hi : i < n) (hj : j < 3) : W.cell? ⟨gl, i * 3 + j, none⟩ = some (ndF (ndAt nd i) j) := by
  have hx : i * 3 + j < n * 3 := by omega
  rw [h.no.cellAt _ hx]
  exact flat_get (by rw [h.len]; exact hi) hj
theorem TM.fz (h : TM P S w0 B ge gm be bl bq fv D k F gl cap n W nd a q) (i : Nat) : W.frozen? ⟨gl, i, none⟩ = false := h.no.frozenAt i
theorem TM.box (h : TM P S w0 B ge gm be bl bq fv D k F gl cap n W nd a q) : W.cell? ⟨bl, 0, none⟩ = some (.slice (some ⟨gl, 0, none⟩) n cap) := h.lb.cell 0
theorem TM.capLe (h : TM P S w0 B ge gm be bl bq fv D k F gl cap n W nd a q) : n ≤ cap := own_cap h.no
end
/-- other blocks are watched -/
theorem TM.watch {P P' : Nat → Obj → Prop} {S : Nat → Prop} {w0 : World} {B ge gm be bl bq : Nat} {fv : Value} {D : DataW Unit} {k : Nat} {F : Int → Int → Option Nat} {gl cap n : Nat} {W : World} {nd : List Nd} {a : Value} {q : List Pr} (h : TM P S w0 B ge gm be bl bq fv D k F gl cap n W nd a q)
    (hp : ∀ k o, P' k o → bq < k ∧ a.ownBlock ≠ some k ∧ W.heap[k]? = some o) : TM P' S w0 B ge gm be bl bq fv D k F gl cap n W nd a q :=
  ⟨h.kept, h.eg, h.eb, h.lb, h.no, ⟨h.qb.below, h.qb.box, h.qb.own, fun k o h9 => ⟨by have := (hp k o h9).1; omega, (hp k o h9).2⟩⟩, h.len, h.sgl, h.wq, h.oge, h.ogm, h.obe, h.obl, h.ogl, h.ofv, h.nge, h.ngm, h.nbe, h.nbl, h.nfv, fun k o h9 => by have := (hp k o h9).1; have := h.ogl; omega⟩
theorem fget_bd {F : Int → Int → Option Nat} (hF : FSmall F) {a b r x : Int} (h : fget F a b = some (r, x)) : 0 ≤ r ∧ r < 1024 ∧ x = 256 + r := by
  unfold fget at h
  cases hk : F a b with
  | none => rw [hk] at h; cases h
  | some k =>
    rw [hk] at h
    have := hF a b k hk
    simp at h
    omega
theorem lookP_val (get : Int → Int → Option (Int × Int)) (nd : List Nd) (k nx : Nat) (h : (ndAt nd k).next = (nx : Int)) : lookP get nd (k : Int) = (get (ndAt nd k).id (ndAt nd nx).id).map fun v => ⟨v.1, k, (ndAt nd k).id, (ndAt nd nx).id, v.2⟩ := by
  unfold lookP
  rw [Int.toNat_natCast, if_neg (by rw [h]; omega)]
  simp only [h, Int.toNat_natCast]
set_option maxRecDepth 100000 in
set_option maxHeartbeats 4000000 in
theorem look_any (P : Nat → Obj → Prop) (S : Nat → Prop) (w0 : World) (B ge gm be bl bq : Nat) (fv : Value) (D : DataW Unit) (kk : Nat) (F : Int → Int → Option Nat) (gl cap n : Nat) (W : World) (nd : List Nd) (a : Value) (q : List Pr) (h : TM P S w0 B ge gm be bl bq fv D kk F gl cap n W nd a q) (hF : FSmall F)
    (k : Nat) (hk : k < n) (hn : n ≤ 262144) (nx : Nat) (hnx : (ndAt nd k).next = (nx : Int)) (hnn : nx < n) (hq : q.length < 999999) (hs : ∀ p ∈ q, SmallP p) (hh : HeapP q)
    (ha : 0 ≤ (ndAt nd k).id ∧ (ndAt nd k).id < 65536) (hb : 0 ≤ (ndAt nd nx).id ∧ (ndAt nd nx).id < 65536) :
    Calls Try.prog 22 #[.int .i64 k, .pointer (some ⟨bl, 0, none⟩), .pointer (some ⟨be, 0, none⟩), .pointer (some ⟨bq, 0, none⟩)] W fun e w' => e = .returned (.tuple #[]) ∧ ∃ a' q', TM P S w0 B ge gm be bl bq fv D kk F gl cap n w' nd a' q' ∧ HeapP q' ∧ q'.Perm (q ++ (lookP (fget F) nd (k : Int)).toList) := by
  have H := Lib.hid h
  have q0 := h.box
  have c00 := h.cell hk (j := 0) (by omega)
  have c01 := h.cell hk (j := 1) (by omega)
  have c10 := h.cell hnn (j := 0) (by omega)
  obtain ⟨x, hx⟩ : ∃ x, x = (ndAt nd k).id := ⟨_, rfl⟩
  obtain ⟨y, hy⟩ : ∃ y, y = (ndAt nd nx).id := ⟨_, rfl⟩
  unfold ndF at c00 c01 c10
  simp only [← hx, ← hy, hnx, Nat.add_zero] at c00 c01 c10 ha hb
  have HA := h.alloc (.cells #[.int .i64 0, .int .i64 0] 58)
  have r0 := HA.box
  have d00 := HA.cell hk (j := 0) (by omega)
  have d01 := HA.cell hk (j := 1) (by omega)
  have d10 := HA.cell hnn (j := 0) (by omega)
  unfold ndF at d00 d01 d10
  simp only [← hx, ← hy, hnx, Nat.add_zero] at d00 d01 d10
  clear HA
  have i1 : (k : Int) < (n : Int) := by omega
  have i2 : (nx : Int) < (n : Int) := by omega
  have hlk := lookP_val (fget F) nd k nx hnx
  rw [← hx, ← hy] at hlk
  have HI1 := Lib.hid (i64_of x ha.1 (by omega))
  have HI2 := Lib.hid (i64_of y hb.1 (by omega))
  obtain ⟨r, hr⟩ : ∃ r, r = F x y := ⟨_, rfl⟩
  have hgv : fget F x y = r.map fun k => ((k : Int), 256 + (k : Int)) := by unfold fget; rw [← hr]
  rw [hgv] at hlk
  have HLK := Lib.hid hlk
  have HX := Lib.hid (And.intro hx (And.intro hy (And.intro hnx (And.intro hr hgv))))
  have hrs : ∀ k, r = some k → k < 1024 := fun k hk => hF x y k (by rw [← hr, hk])
  have HRS := Lib.hid hrs
  clear h hx hy hr hgv hlk hnx hrs hF
  go_enter Try.func22, Try.ntmps22
  go_upto_region 1 with (fail)
  go_wp2_with fail
  go_region
  obtain ⟨bm, hbm⟩ : ∃ bm, bm = W.heap.size := ⟨_, rfl⟩
  have hB : Blk (W.alloc (.cells #[.int .i64 x, .int .i64 y] 58)).drew bm 58 [.int .i64 x, .int .i64 y] := by rw [hbm]; exact (Blk.new W 58 [.int .i64 x, .int .i64 y]).drewN 1
  have hT := (H.out.alloc (.cells #[.int .i64 x, .int .i64 y] 58)).drew
  rw [← hbm]
  generalize (W.alloc (.cells #[.int .i64 x, .int .i64 y] 58)).drew = W1 at hB hT ⊢
  have H1 := Lib.hid hT
  have HB1 := Lib.hid hB
  clear hbm q0 c00 c01 c10 r0 d00 d01 d10 H
  have e0 := hT.eb.cell 0
  have e1 := hT.eg.box.cell 0
  have m0 := hB.cell 0
  have m1 := hB.cell 1
  simp only [List.getElem?_cons_zero, List.getElem?_cons_succ] at e0 e1 m0 m1
  clear hB hT
  cases r with
  | none =>
    have hlook : ∀ nq, (Instr.lookup 46 (.map (some gm)) (.agg #[.int .i64 x, .int .i64 y]) true).run Try.prog (W1.drewN nq) = .ok (.tuple #[.int .i64 (0 : Int), .bool false]) (W1.drewN nq) := fun nq => by
      rw [ranks_lookup (map_drewN H1.out.eg.map nq) H1.out.eg.rk x y HI1.out HI2.out, ← HX.out.2.2.2.1]; rfl
    go_wp2_with fail
    go_quiet (fail)
    go_wp2_with fail
    go_returns
    refine ⟨by first | rfl | simp, a, q, H1.out.drewN _, hh, ?_⟩
    rw [HLK.out]
    simp
  | some r =>
    have hlook : ∀ nq, (Instr.lookup 46 (.map (some gm)) (.agg #[.int .i64 x, .int .i64 y]) true).run Try.prog (W1.drewN nq) = .ok (.tuple #[.int .i64 (r : Int), .bool true]) (W1.drewN nq) := fun nq => by
      rw [ranks_lookup (map_drewN H1.out.eg.map nq) H1.out.eg.rk x y HI1.out HI2.out, ← HX.out.2.2.2.1]; rfl
    have hr := HRS.out r rfl
    go_wp2_with fail
    go_quiet (fail)
    clear hlook
    have H2 := Lib.hid (H1.out.drewN nq)
    have m2 : (W1.drewN nq).cell? ⟨bm, 0, none⟩ = some (.int .i64 x) := m0
    have m3 : (W1.drewN nq).cell? ⟨bm, 1, none⟩ = some (.int .i64 y) := m1
    generalize W1.drewN nq = W2 at H2 m2 m3 ⊢
    clear m0 m1 e0 e1
    go_wp2_with fail
    refine (put_any P bq W2 W2 a q ⟨r, k, x, y, 256 + (r : Int)⟩ (by omega) hs ⟨by show (0 : Int) ≤ (r : Int); omega, by show (r : Int) < 4294967296; omega, by show (0 : Int) ≤ (k : Int); omega, by show (k : Int) < 4294967296; omega⟩ hh H2.out.qb).mono ?_
    rintro e w4 ⟨rfl, a', q', hq4, hh4, hp4⟩
    have H4 := Lib.hid (H2.out.put hq4)
    have HP4 := Lib.hid (And.intro hh4 hp4)
    clear hq4 hh4 hp4
    go_wp2_with fail
    go_returns
    refine ⟨by first | rfl | simp, a', q', H4.out, HP4.out.1, ?_⟩
    rw [HLK.out]
    exact HP4.out.2
set_option maxRecDepth 100000 in
set_option maxHeartbeats 4000000 in
theorem look_neg (bl be bq : Nat) (W : World) :
    Calls Try.prog 22 #[.int .i64 (-1), .pointer (some ⟨bl, 0, none⟩), .pointer (some ⟨be, 0, none⟩), .pointer (some ⟨bq, 0, none⟩)] W fun e w' => e = .returned (.tuple #[]) ∧ w' = W := by
  go_enter Try.func22, Try.ntmps22
  go_wp2_with fail
  go_returns
  exact ⟨by first | rfl | simp, rfl⟩
set_option maxRecDepth 100000 in
set_option maxHeartbeats 4000000 in
theorem look_end (bl be bq gl n cap k : Nat) (W : World) (hk : k < n) (q0 : W.cell? ⟨bl, 0, none⟩ = some (.slice (some ⟨gl, 0, none⟩) n cap)) (c1 : W.cell? ⟨gl, k * 3 + 1, none⟩ = some (.int .i64 (-1))) :
    Calls Try.prog 22 #[.int .i64 k, .pointer (some ⟨bl, 0, none⟩), .pointer (some ⟨be, 0, none⟩), .pointer (some ⟨bq, 0, none⟩)] W fun e w' => e = .returned (.tuple #[]) ∧ w' = W := by
  have i1 : (k : Int) < (n : Int) := by omega
  go_enter Try.func22, Try.ntmps22
  go_wp2_with fail
  go_returns
  exact ⟨by first | rfl | simp, rfl⟩
theorem look_all (P : Nat → Obj → Prop) (S : Nat → Prop) (w0 : World) (B ge gm be bl bq : Nat) (fv : Value) (D : DataW Unit) (kk : Nat) (F : Int → Int → Option Nat) (gl cap n : Nat) (W : World) (nd : List Nd) (a : Value) (q : List Pr) (h : TM P S w0 B ge gm be bl bq fv D kk F gl cap n W nd a q) (hF : FSmall F)
    (hn : n ≤ 262144) (c : List Nat) (hc : Chain nd c) (hi : ∀ i, i < nd.length → (ndAt nd i).id < 65536) (i : Int) (hij : i = -1 ∨ ∃ j, j < c.length ∧ i = (c.getD j 0 : Nat)) (hq : q.length < 999999) (hs : ∀ p ∈ q, SmallP p) (hh : HeapP q) :
    Calls Try.prog 22 #[.int .i64 i, .pointer (some ⟨bl, 0, none⟩), .pointer (some ⟨be, 0, none⟩), .pointer (some ⟨bq, 0, none⟩)] W fun e w' => e = .returned (.tuple #[]) ∧ ∃ a' q', TM P S w0 B ge gm be bl bq fv D kk F gl cap n w' nd a' q' ∧ HeapP q' ∧ q'.Perm (q ++ (lookP (fget F) nd i).toList) := by
  rcases hij with rfl | ⟨j, hj, rfl⟩
  · refine (look_neg bl be bq W).mono ?_
    rintro e w' ⟨rfl, rfl⟩
    exact ⟨rfl, a, q, h, hh, by unfold lookP; rw [if_pos (by omega)]; simp⟩
  · have hlt := hc.lt j hj
    rw [h.len] at hlt
    by_cases hj1 : j + 1 < c.length
    · have hn1 := hc.next j hj1
      have hlt1 := hc.lt (j + 1) hj1
      rw [h.len] at hlt1
      exact look_any P S w0 B ge gm be bl bq fv D kk F gl cap n W nd a q h hF _ hlt hn _ hn1 hlt1 hq hs hh ⟨hc.id j hj, hi _ (by rw [h.len]; exact hlt)⟩ ⟨hc.id (j + 1) hj1, hi _ (by rw [h.len]; exact hlt1)⟩
    · have hn1 := hc.nextEnd j (by omega)
      have hcell := h.cell hlt (j := 1) (by omega)
      unfold ndF at hcell
      simp only [hn1] at hcell
      refine (look_end bl be bq gl n cap _ W hlt h.box hcell).mono ?_
      rintro e w' ⟨rfl, rfl⟩
      exact ⟨rfl, a, q, h, hh, by unfold lookP; rw [Int.toNat_natCast, if_pos (by rw [hn1]; omega)]; simp⟩
end Go.Proofs.Ytklklmaclaohaaa
