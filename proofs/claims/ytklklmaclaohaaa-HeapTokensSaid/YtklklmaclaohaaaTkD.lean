/- Tokens' memory in its loops. -/
import Derived.Test.YtklklmaclaohaaaTkC
import Derived.Deep.WholeRow
namespace Go.Proofs.Ytklklmaclaohaaa
open Go.RowKit Go.Maps Go.WideMaps
attribute [local go_sem ↓] load_pr store_pr
theorem run_store_fn {P : Program} {w : World} {a : Addr} {m : Mode} (f : Fn) (x y : Array Value) : (store a (.func f x y) m).run P w = stored P w a (.func f x y) m := run_store P w a _ m rfl
attribute [local go_sem] run_store_fn
def TS (ge : Nat) (fv bv : Value) (k : Nat) : Prop := k = ge ∨ fv.ownBlock = some k ∨ bv.ownBlock = some k
/-- what Tokens gives -/
def TRes (B ge gm : Nat) (fv bv : Value) (D : DataW Unit) (kk : Nat) (F : Int → Int → Option Nat) (l : List Int) (w : World) (e : Ending) (w' : World) : Prop :=
  ∃ o A c fv' bv', e = .returned (.tuple #[.slice A o.length c, .int .i64 0]) ∧ mergeF (fget F) 1280 l = some o ∧ w'.ownsRow w.heap.size 3 1 (.slice A o.length c) o.length (numsV .i64 o) ∧
    But (TS ge fv bv) w w' ∧ Eg w' B ge gm fv' bv' 1 D kk F ∧ (∀ k, k < w.heap.size → TS ge fv' bv' k → TS ge fv bv k) ∧ (∀ k, (Value.slice A o.length c).ownBlock = some k → ¬ TS ge fv' bv' k)
theorem T1.start {w w1 : World} {B ge gm m kk : Nat} {fv bv fv' lv : Value} {D : DataW Unit} {F : Int → Int → Option Nat} (h : Eg w B ge gm fv bv m D kk F) (hB : B ≤ w.heap.size)
    (hg : (w.alloc (.cells #[.pointer (some ⟨ge, 0, none⟩)] 24)).grownBy w1 (some ge)) (hl : w1.ownsRow B 64 3 lv 0 []) (hlb : ∀ k, lv.ownBlock = some k → bv.ownBlock = some k) (he : Eg w1 B ge gm fv' (.slice none 0 0) 0 D kk F) (hf : fv'.ownBlock = fv.ownBlock) :
    T1 (TS ge fv bv) w B ge gm w.heap.size w1.heap.size fv' D kk F (w1.alloc (.cells #[lv] 61)) lv 0 [] := by
  have hb := Below.refl w.heap.size w
  have hs1 := hg.size
  simp at hs1
  have l1 := h.box.lt
  have l2 := h.map.lt
  have hb2 := But.of_below ((Below.refl w1.heap.size w1).alloc (Nat.le_refl _) (.cells #[lv] 61))
  have he0 : Blk (w.alloc (.cells #[.pointer (some ⟨ge, 0, none⟩)] 24)) w.heap.size 24 [.pointer (some ⟨ge, 0, none⟩)] := Blk.new w 24 _
  have hb1 : But (TS ge fv bv) w (w.alloc (.cells #[.pointer (some ⟨ge, 0, none⟩)] 24)) := (But.of_below ((Below.refl w.heap.size w).alloc (Nat.le_refl _) _)).mono (fun k hk e => by omega)
  have hlk : ∀ k, lv.ownBlock = some k → k < w.heap.size := fun k hk => h.bl k (hlb k hk)
  refine ⟨(hb1.trans (But.of_grown hg) (fun k hk e => .inl (by injection e with e; exact e.symm))).trans hb2 (fun k hk e => by omega), he.go ((Below.refl _ _).alloc (Nat.le_refl _) _), hb2.blk ((But.of_grown hg).blk he0 (fun e => by injection e with e; omega)) (by omega), Blk.new w1 61 [lv], hl.alloc _, rfl, hB, l1, l2, fun k hk => h.fl k (by rw [← hf]; exact hk), by omega, by omega, by omega, fun g hg => ?_⟩
  have h1 := hlb g hg
  have h2 := h.dbe g h1
  have h3 := hlk g hg
  exact ⟨fun _ => .inr (.inr h1), h2.1, h2.2.1, by omega, by omega, by rw [hf]; exact h2.2.2⟩
theorem store_new {W : World} (p : Pr) : (storePr (.pointer (some ⟨W.heap.size, 0, none⟩)) (prV p)).run Try.prog (W.alloc (.cells zero4.toArray 66)) = .ok () (W.alloc (.cells (cellsOfEl 4 prF p).toArray 66)) := by
  rw [prV_cells]
  exact run_storeAt_new _ 66 _ _ info66 rfl (all_oneCell_toArray (cells_one p))
theorem mergeF_nil (get : Int → Int → Option (Int × Int)) (signs : Int) : mergeF get signs [] = some [] := mergeF_none (bestOf_none (fun j hj => by simp at hj))
/-- behind back: what Tokens gives -/
theorem T1.done {w W w' : World} {B ge gm be bl k kk : Nat} {fv fv' bv lv fv2 : Value} {D : DataW Unit} {F : Int → Int → Option Nat} {nd : List Nd} {l o : List Int} {A : Option Addr} {c : Nat} (h : T1 (TS ge fv bv) w B ge gm be bl fv' D kk F W lv k nd) (hf : fv'.ownBlock = fv.ownBlock)
    (hb : But (fun k => k = ge ∨ fv'.ownBlock = some k) W w') (he : Eg w' B ge gm fv2 lv 1 D kk F) (h2 : ∀ k, fv2.ownBlock = some k → fv'.ownBlock = some k ∨ W.heap.size ≤ k)
    (hm : mergeF (fget F) 1280 l = some o) (ho : W.ownsRow w.heap.size 3 1 (.slice A o.length c) o.length (numsV .i64 o)) (hn : lv.ownBlock ≠ (Value.slice A o.length c).ownBlock ∨ A = none) :
    TRes B ge gm fv bv D kk F l w (.returned (.tuple #[.slice A o.length c, .int .i64 0])) w' := by
  have hsz := h.kept.size
  have hlo : ∀ k, (Value.slice A o.length c).ownBlock = some k → w.heap.size ≤ k ∧ k < W.heap.size := fun k hk => ho.lt k hk
  refine ⟨o, A, c, fv2, lv, rfl, hm, hb.own ho (fun k hk e => ?_), h.kept.trans hb (fun k hk e => ?_), he, fun k hk e => ?_, fun k hk e => ?_⟩
  · have h9 := hlo k hk
    rcases e with e | e
    · have := h.wge; omega
    · have := h.wfv k e; omega
  · rcases e with e | e
    · exact .inl e
    · exact .inr (.inl (by rw [← hf]; exact e))
  · rcases e with e | e | e
    · exact .inl e
    · rcases h2 k e with e | e
      · exact .inr (.inl (by rw [← hf]; exact e))
      · omega
    · exact (h.vs k e).1 hk
  · have h9 := hlo k hk
    rcases e with e | e | e
    · have := h.wge; omega
    · rcases h2 k e with e | e
      · have := h.wfv k e; omega
      · omega
    · rcases hn with hn | hn
      · exact hn (by rw [e, hk])
      · rw [hn] at hk; cases hk
theorem T1.nodes {S : Nat → Prop} {w0 : World} {B ge gm be bl : Nat} {fv : Value} {D : DataW Unit} {kk : Nat} {F : Int → Int → Option Nat} {W W' : World} {gl n cap : Nat} {nd nd' : List Nd} (h : T1 S w0 B ge gm be bl fv D kk F W (.slice (some ⟨gl, 0, none⟩) n cap) n nd) (hg : W.grownBy W' (some gl))
    (hn : W'.ownsRow B 64 3 (.slice (some ⟨gl, 0, none⟩) n cap) n (nflat nd')) (hl : nd'.length = n) : T1 S w0 B ge gm be bl fv D kk F W' (.slice (some ⟨gl, 0, none⟩) n cap) n nd' := by
  have hb := But.of_grown hg
  obtain ⟨v1, v2, v3, v4, v5, v6⟩ := h.vs gl rfl
  have e1 : ∀ k, k ≠ gl → ¬ (some gl = some k) := fun k hk e => hk (by injection e with e; exact e.symm)
  exact ⟨h.kept.trans hb (fun k hk e => by injection e with e; subst e; exact v1 hk), h.eg.but hb (e1 _ (Ne.symm v2)) (e1 _ (Ne.symm v3)) (fun k hk => e1 _ (fun e => v6 (by rw [hk, e]))) (fun k hk => by cases hk), hb.blk h.eb (e1 _ (Ne.symm v4)), hb.blk h.lb (e1 _ (Ne.symm v5)),
    hn, hl, h.hB, h.wge, h.wgm, h.wfv, h.wbe, h.wbl, h.nbb, h.vs⟩
theorem T1.queue {S : Nat → Prop} {w0 : World} {B ge gm be bl : Nat} {fv : Value} {D : DataW Unit} {kk : Nat} {F : Int → Int → Option Nat} {W : World} {gl n cap : Nat} {nd : List Nd} (h : T1 S w0 B ge gm be bl fv D kk F W (.slice (some ⟨gl, 0, none⟩) n cap) n nd) :
    TM (fun _ _ => False) S w0 B ge gm be bl W.heap.size fv D kk F gl cap n (W.alloc (.cells #[.slice none 0 0, F20] 71)) nd (.slice none 0 0) [] := by
  have h2 := h.go ((Below.refl _ _).alloc (Nat.le_refl _) (.cells #[.slice none 0 0, F20] 71))
  obtain ⟨v1, v2, v3, v4, v5, v6⟩ := h.vs gl rfl
  exact ⟨h2.kept, h2.eg, h2.eb, h2.lb, h2.no, ⟨Below.refl _ _, Blk.new W 71 [.slice none 0 0, F20], World.ownsRow_nil _ _ _ _, fun k o hp => hp.elim⟩, h.len, v1, h.kept.size, h.eg.box.lt, h.eg.map.lt, h.eb.lt, h.lb.lt, (h.no.lt gl rfl).2, h.eg.fl, v2, v3, v4, v5, v6, fun k o hp => hp.elim⟩
theorem TM.toT1 {P : Nat → Obj → Prop} {S : Nat → Prop} {w0 : World} {B ge gm be bl bq : Nat} {fv : Value} {D : DataW Unit} {kk : Nat} {F : Int → Int → Option Nat} {W W' : World} {gl n cap : Nat} {nd nd' : List Nd} {a : Value} {q : List Pr} (h : TM P S w0 B ge gm be bl bq fv D kk F gl cap n W nd a q)
    (h1 : T1 S w0 B ge gm be bl fv D kk F W' (.slice (some ⟨gl, 0, none⟩) n cap) n nd') : T1 S w0 B ge gm be bl fv D kk F W (.slice (some ⟨gl, 0, none⟩) n cap) n nd :=
  ⟨h.kept, h.eg, h.eb, h.lb, h.no, h.len, h1.hB, h1.wge, h1.wgm, h1.wfv, h1.wbe, h1.wbl, h1.nbb, h1.vs⟩
theorem small_of {F : Int → Int → Option Nat} (hF : FSmall F) {p : Pr} {n : Nat} (hn : n ≤ 262144) (h : 0 ≤ p.left ∧ p.left.toNat < n ∧ 0 ≤ p.first ∧ 0 ≤ p.second ∧ fget F p.first p.second = some (p.rank, p.id)) : SmallP p := by
  have := fget_bd hF h.2.2.2.2
  exact ⟨this.1, by omega, h.1, by have := h.2.1; omega⟩
theorem take_all (P : Nat → Obj → Prop) (g0 : Nat) (w0 w : World) (a : Value) (q : List Pr) (hn : q.length < 1000000) (hs : ∀ p ∈ q, SmallP p) (hh : HeapP q) (h : QB P g0 w0 w a q) :
    Calls Try.prog 24 #[.pointer (some ⟨g0, 0, none⟩)] w fun e w' => ∃ p is a' q', e = .returned (.tuple #[prV p, .bool is]) ∧ QB P g0 w0 w' a' q' ∧ HeapP q' ∧ ((is = false ∧ q = [] ∧ q' = []) ∨ (is = true ∧ q.Perm (p :: q') ∧ p = q.getD 0 pr0 ∧ 0 < q.length)) := by
  by_cases h0 : q.length = 0
  · obtain rfl : q = [] := List.length_eq_zero_iff.1 h0
    obtain ⟨A, c, rfl⟩ := own_sl h.own
    refine (take_none P g0 w0 w A c h).mono ?_
    rintro e w' ⟨rfl, hq⟩
    exact ⟨pr0, false, _, [], rfl, hq, hh, .inl ⟨rfl, rfl, rfl⟩⟩
  · obtain ⟨g, cap, rfl⟩ := h.form (by omega)
    obtain ⟨k, hk⟩ : ∃ k, q.length = k + 1 := ⟨q.length - 1, by omega⟩
    rw [hk] at h
    refine (take_any P g0 k g cap w0 w q hk (by omega) hs hh h).mono ?_
    rintro e w' ⟨rfl, a', q', hq, hh', hp⟩
    exact ⟨_, true, a', q', rfl, hq, hh', .inr ⟨rfl, hp, rfl, by omega⟩⟩
/-- Tokens' memory with the box of the pair that was taken -/
structure LS (S : Nat → Prop) (w0 : World) (B ge gm be bl bq : Nat) (fv : Value) (D : DataW Unit) (kk : Nat) (F : Int → Int → Option Nat) (gl cap n : Nat) (ids : List Int) (bp : Nat) (p : Pr) (is : Bool) (W : World) (nd : List Nd) (c : List Nat) (a : Value) (q qq : List Pr) : Prop where
  tm : TM (fun _ _ => False) S w0 B ge gm be bl bq fv D kk F gl cap n W nd a q
  bx : Blk W bp 66 (cellsOfEl 4 prF p)
  bpq : bq < bp
  bpa : a.ownBlock ≠ some bp
  mq : MQ (fget F) 1280 ids nd c qq
  hq : HeapP q
  st : (is = false ∧ qq = [] ∧ q = []) ∨ (is = true ∧ qq.Perm (p :: q) ∧ p = qq.getD 0 pr0 ∧ 0 < qq.length)
theorem TM.far {P : Nat → Obj → Prop} {S : Nat → Prop} {w0 : World} {B ge gm be bl bq : Nat} {fv : Value} {D : DataW Unit} {k : Nat} {F : Int → Int → Option Nat} {gl cap n : Nat} {W W' : World} {nd : List Nd} {a : Value} {q : List Pr} {x : Nat} (h : TM P S w0 B ge gm be bl bq fv D k F gl cap n W nd a q)
    (hg : W.grownBy W' (some x)) (hx : bq < x) (ha : a.ownBlock ≠ some x) : TM (fun _ _ => False) S w0 B ge gm be bl bq fv D k F gl cap n W' nd a q := by
  have hb := But.of_grown hg
  have l1 := h.oge
  have l2 := h.ogm
  have l3 := h.obe
  have l4 := h.obl
  have l5 := h.ogl
  have l6 := h.wq
  have e1 : ∀ k, k ≠ x → ¬ (some x = some k) := fun k hk e => hk (by injection e with e; exact e.symm)
  exact ⟨h.kept.trans hb (fun k hk e => by injection e with e; omega), h.eg.but hb (e1 _ (by omega)) (e1 _ (by omega)) (fun k hk => e1 _ (by have := h.ofv k hk; omega)) (fun k hk => by cases hk), hb.blk h.eb (e1 _ (by omega)), hb.blk h.lb (e1 _ (by omega)),
    hb.own h.no (fun k hk => e1 _ (by injection hk with hk; simp only at hk; omega)), ⟨Below.refl _ _, hb.blk h.qb.box (e1 _ (by omega)), hb.own h.qb.own (fun k hk => e1 _ (fun e => ha (by rw [hk, e]))), fun k o hp => hp.elim⟩, h.len, h.sgl, h.wq, l1, l2, l3, l4, l5, h.ofv, h.nge, h.ngm, h.nbe, h.nbl, h.nfv, fun k o hp => hp.elim⟩
/-- the box of a pair, watched -/
def Wch (bp : Nat) (p : Pr) (k : Nat) (o : Obj) : Prop := k = bp ∧ o = .cells (cellsOfEl 4 prF p).toArray 66 (0, 0)
/-- how much is left to do -/
def liveV : Option Value → Bool
  | some (.int _ x) => decide (0 ≤ x)
  | _ => false
def liveC (cs : List Value) : Nat := (List.range (cs.length / 3)).countP fun i => liveV cs[i * 3]?
def mM (n gl bq : Nat) (iv : Value) (W : World) : Nat :=
  (match W.cell? ⟨bq, 0, none⟩ with | some (.slice _ m _) => m | _ => 0) + 2 * (match W.heap[gl]? with | some (.cells cs _ _) => liveC (cs.toList.take (n * 3)) | _ => 0) + (match iv with | .bool true => 1 | _ => 0)
theorem liveC_flat (nd : List Nd) : liveC (nflat nd) = liveN nd := by
  unfold liveC liveN
  rw [length_flat, Nat.mul_div_cancel _ (by omega)]
  have : nd = (List.range nd.length).map (ndAt nd) := by
    apply List.ext_getElem (by simp)
    intro i h1 h2
    simp [ndAt, h1]
  conv => rhs; rw [this]
  rw [List.countP_map]
  refine List.countP_congr (fun i hi => ?_)
  have hi : i < nd.length := by simpa using hi
  have := flat_get (m := 3) (f := ndF) (d := nd0) hi (j := 0) (by omega)
  rw [Nat.add_zero] at this
  rw [this]
  rfl
theorem mM_eq {P : Nat → Obj → Prop} {S : Nat → Prop} {w0 : World} {B ge gm be bl bq : Nat} {fv : Value} {D : DataW Unit} {k : Nat} {F : Int → Int → Option Nat} {gl cap n : Nat} {W : World} {nd : List Nd} {a : Value} {q : List Pr} (h : TM P S w0 B ge gm be bl bq fv D k F gl cap n W nd a q) (iv : Bool) :
    mM n gl bq (.bool iv) W = q.length + 2 * liveN nd + (if iv = true then 1 else 0) := by
  obtain ⟨A, c, rfl⟩ := own_sl h.qb.own
  unfold mM
  rw [h.qb.c0]
  rcases h.no.2 with ⟨h', _⟩ | ⟨g', cap', cur, h', _, hg, _, _, _, htake⟩
  · simp at h'
  · simp only [Value.slice.injEq, Option.some.injEq, Addr.mk.injEq, and_true, true_and] at h'
    obtain ⟨rfl, rfl⟩ := h'
    rw [hg]
    simp only [htake, liveC_flat]
    cases iv <;> rfl
theorem LS.meas {S : Nat → Prop} {w0 : World} {B ge gm be bl bq : Nat} {fv : Value} {D : DataW Unit} {kk : Nat} {F : Int → Int → Option Nat} {gl cap n : Nat} {ids : List Int} {bp : Nat} {p : Pr} {is : Bool} {W : World} {nd : List Nd} {c : List Nat} {a : Value} {q qq : List Pr}
    (h : LS S w0 B ge gm be bl bq fv D kk F gl cap n ids bp p is W nd c a q qq) : mM n gl bq (.bool is) W = qq.length + 2 * c.length := by
  rw [mM_eq h.tm, live_count h.mq.ch]
  rcases h.st with ⟨rfl, h1, h2⟩ | ⟨rfl, h1, _, _⟩
  · rw [h1, h2]; simp
  · have := h1.length_eq
    simp at this
    simp
    omega
/-- the pair's box is laid behind a take -/
theorem LS.first {S : Nat → Prop} {w0 : World} {B ge gm be bl bq : Nat} {fv : Value} {D : DataW Unit} {kk : Nat} {F : Int → Int → Option Nat} {gl cap n : Nat} {ids : List Int} {p : Pr} {is : Bool} {W : World} {nd : List Nd} {c : List Nat} {a : Value} {q qq : List Pr}
    (h : TM (fun _ _ => False) S w0 B ge gm be bl bq fv D kk F gl cap n W nd a q) (hm : MQ (fget F) 1280 ids nd c qq) (hh : HeapP q) (hs : (is = false ∧ qq = [] ∧ q = []) ∨ (is = true ∧ qq.Perm (p :: q) ∧ p = qq.getD 0 pr0 ∧ 0 < qq.length)) :
    LS S w0 B ge gm be bl bq fv D kk F gl cap n ids W.heap.size p is (W.alloc (.cells (cellsOfEl 4 prF p).toArray 66)) nd c a q qq :=
  ⟨h.alloc _, Blk.new W 66 _, h.qb.lt, fun e => by have := (h.qb.own.lt _ e).2; omega, hm, hh, hs⟩
/-- the pair's box is written behind a take -/
theorem LS.next {S : Nat → Prop} {w0 : World} {B ge gm be bl bq : Nat} {fv : Value} {D : DataW Unit} {kk : Nat} {F : Int → Int → Option Nat} {gl cap n : Nat} {ids : List Int} {bp : Nat} {p0 p : Pr} {is : Bool} {W : World} {nd : List Nd} {c : List Nat} {a : Value} {q qq : List Pr}
    (h : TM (Wch bp p0) S w0 B ge gm be bl bq fv D kk F gl cap n W nd a q) (hb : bq < bp) (hm : MQ (fget F) 1280 ids nd c qq) (hh : HeapP q) (hs : (is = false ∧ qq = [] ∧ q = []) ∨ (is = true ∧ qq.Perm (p :: q) ∧ p = qq.getD 0 pr0 ∧ 0 < qq.length)) :
    (storePr (.pointer (some ⟨bp, 0, none⟩)) (prV p)).run Try.prog W = .ok () (W.setCells bp 0 (cellsOfEl 4 prF p)) ∧ LS S w0 B ge gm be bl bq fv D kk F gl cap n ids bp p is (W.setCells bp 0 (cellsOfEl 4 prF p)) nd c a q qq := by
  obtain ⟨h1, h2, h3⟩ := h.qb.pk bp _ ⟨rfl, rfl⟩
  have hbk : Blk W bp 66 (cellsOfEl 4 prF p0) := h3
  have hg := grownBy_setCells bp (cellsOfEl 4 prF p) W 0
  refine ⟨store_range (fun j hj => ⟨?_, hbk.frozen _⟩), h.far hg hb h2, ?_, hb, h2, hm, hh, hs⟩
  · rw [hbk.cell]
    rcases (by omega : j = 0 ∨ j = 1 ∨ j = 2 ∨ j = 3) with rfl | rfl | rfl | rfl <;> rfl
  · exact hbk.setCells (vs := cellsOfEl 4 prF p) (o := 0)
theorem TM.wch {S : Nat → Prop} {w0 : World} {B ge gm be bl bq : Nat} {fv : Value} {D : DataW Unit} {kk : Nat} {F : Int → Int → Option Nat} {gl cap n : Nat} {bp : Nat} {p : Pr} {W : World} {nd : List Nd} {a : Value} {q : List Pr}
    (h : TM (fun _ _ => False) S w0 B ge gm be bl bq fv D kk F gl cap n W nd a q) (hb : Blk W bp 66 (cellsOfEl 4 prF p)) (hq : bq < bp) (ha : a.ownBlock ≠ some bp) : TM (Wch bp p) S w0 B ge gm be bl bq fv D kk F gl cap n W nd a q :=
  h.watch (fun k o h9 => by obtain ⟨rfl, rfl⟩ := h9; exact ⟨hq, ha, hb⟩)
theorem TM.unw {S : Nat → Prop} {w0 : World} {B ge gm be bl bq : Nat} {fv : Value} {D : DataW Unit} {kk : Nat} {F : Int → Int → Option Nat} {gl cap n : Nat} {bp : Nat} {p : Pr} {W : World} {nd : List Nd} {a : Value} {q : List Pr}
    (h : TM (Wch bp p) S w0 B ge gm be bl bq fv D kk F gl cap n W nd a q) : TM (fun _ _ => False) S w0 B ge gm be bl bq fv D kk F gl cap n W nd a q ∧ Blk W bp 66 (cellsOfEl 4 prF p) ∧ a.ownBlock ≠ some bp :=
  ⟨h.watch (fun _ _ h9 => h9.elim), (h.qb.pk bp _ ⟨rfl, rfl⟩).2.2, (h.qb.pk bp _ ⟨rfl, rfl⟩).2.1⟩
theorem info64 : (Try.prog.info? 64).map (fun i => (i.size, i.bytes)) = some (3, 24) := by kernel_rfl
end Go.Proofs.Ytklklmaclaohaaa
