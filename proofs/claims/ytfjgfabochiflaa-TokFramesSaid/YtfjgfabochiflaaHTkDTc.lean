/- HTkD, HTkE of this seat, in one text. -/
import Derived.Test.YtfjgfabochiflaaHTkATc
import Derived.Deep.WholeRow
/- Tokens' memory in its loops. -/
namespace Go.Proofs.Ytfjgfabochiflaa.H14
open Go.RowKit Go.Maps Go.WideMaps
attribute [local go_sem ↓] load_pr store_pr
theorem run_store_fn {P : Program} {w : World} {a : Addr} {m : Mode} (f : Fn) (x y : Array Value) : (store a (.func f x y) m).run P w = stored P w a (.func f x y) m := run_store P w a _ m rfl
attribute [local go_sem] run_store_fn
def TS (ge : Nat) (fv bv : Value) (k : Nat) : Prop := k = ge ∨ fv.ownBlock = some k ∨ bv.ownBlock = some k
/-- what Tokens gives -/
def TRes (B ge gm : Nat) (fv bv : Value) (D : DataW Unit) (kk : Nat) (F : Int → Int → Option Nat) (l : List Int) (w : World) (e : Ending) (w' : World) : Prop :=
  ∃ o A c fv' bv', e = .returned (.tuple #[.slice A o.length c, .int .i64 0]) ∧ mergeF (fget F) 1280 l = some o ∧ w'.ownsRow w.heap.size 3 1 (.slice A o.length c) o.length (numsV .i64 o) ∧
    But (TS ge fv bv) w w' ∧ Eg w' B ge gm fv' bv' 1 D kk F ∧ (∀ k, k < w.heap.size → TS ge fv' bv' k → TS ge fv bv k) ∧ (∀ k, (Value.slice A o.length c).ownBlock = some k → ¬ TS ge fv' bv' k)
theorem T1.start {w w1 : World} {B ge gm m kk : Nat} {fv bv fv' lv : Value} {D : DataW Unit} {F : Int → Int → Option Nat} (h : Eg w B ge gm fv bv m D kk F) (hB : B ≤ w.heap.size)
    (hg : (w.alloc (.cells #[.pointer (some ⟨ge, 0, none⟩)] 122)).grownBy w1 (some ge)) (hl : w1.ownsRow B 176 3 lv 0 []) (hlb : ∀ k, lv.ownBlock = some k → bv.ownBlock = some k) (he : Eg w1 B ge gm fv' (.slice none 0 0) 0 D kk F) (hf : fv'.ownBlock = fv.ownBlock) :
    T1 (TS ge fv bv) w B ge gm w.heap.size w1.heap.size fv' D kk F (w1.alloc (.cells #[lv] 173)) lv 0 [] := by
  have hb := Below.refl w.heap.size w
  have hs1 := hg.size
  simp at hs1
  have l1 := h.box.lt
  have l2 := h.map.lt
  have hb2 := But.of_below ((Below.refl w1.heap.size w1).alloc (Nat.le_refl _) (.cells #[lv] 173))
  have he0 : Blk (w.alloc (.cells #[.pointer (some ⟨ge, 0, none⟩)] 122)) w.heap.size 122 [.pointer (some ⟨ge, 0, none⟩)] := Blk.new w 122 _
  have hb1 : But (TS ge fv bv) w (w.alloc (.cells #[.pointer (some ⟨ge, 0, none⟩)] 122)) := (But.of_below ((Below.refl w.heap.size w).alloc (Nat.le_refl _) _)).mono (fun k hk e => by omega)
  have hlk : ∀ k, lv.ownBlock = some k → k < w.heap.size := fun k hk => h.bl k (hlb k hk)
  refine ⟨(hb1.trans (But.of_grown hg) (fun k hk e => .inl (by injection e with e; exact e.symm))).trans hb2 (fun k hk e => by omega), he.go ((Below.refl _ _).alloc (Nat.le_refl _) _), hb2.blk ((But.of_grown hg).blk he0 (fun e => by injection e with e; omega)) (by omega), Blk.new w1 173 [lv], hl.alloc _, rfl, hB, l1, l2, fun k hk => h.fl k (by rw [← hf]; exact hk), by omega, by omega, by omega, fun g hg => ?_⟩
  have h1 := hlb g hg
  have h2 := h.dbe g h1
  have h3 := hlk g hg
  exact ⟨fun _ => .inr (.inr h1), h2.1, h2.2.1, by omega, by omega, by rw [hf]; exact h2.2.2⟩
theorem store_new {W : World} (p : Pr) : (storePr (.pointer (some ⟨W.heap.size, 0, none⟩)) (prV p)).run Try.prog (W.alloc (.cells zero4.toArray 178)) = .ok () (W.alloc (.cells (cellsOfEl 4 prF p).toArray 178)) := by
  rw [prV_cells]
  exact run_storeAt_new _ 178 _ _ info66 rfl (all_oneCell_toArray (cells_one p))
theorem mergeF_nil (get : Int → Int → Option (Int × Int)) (signs : Int) : mergeF get signs [] = some [] := mergeF_none (bestOf_none (fun j hj => by simp at hj))
/-- behind back: what Tokens gives -/
theorem T1.done {w W w' : World} {B ge gm be bl k kk : Nat} {fv fv' bv lv fv2 : Value} {D : DataW Unit} {F : Int → Int → Option Nat} {nd : List Nd} {l o : List Int} {A : Option Addr} {c : Nat} (h : T1 (TS ge fv bv) w B ge gm be bl fv' D kk F W lv k nd) (hf : fv'.ownBlock = fv.ownBlock)
    (hb : But (fun k => k = ge ∨ fv'.ownBlock = some k) W w') (he : Eg w' B ge gm fv2 lv 1 D kk F) (h2 : ∀ k, fv2.ownBlock = some k → fv'.ownBlock = some k ∨ W.heap.size ≤ k)
    (hm : mergeF (fget F) 1280 l = some o) (ho : W.ownsRow w.heap.size 3 1 (.slice A o.length c) o.length (numsV .i64 o)) (hn : lv.ownBlock ≠ (Value.slice A o.length c).ownBlock ∨ A = none) :
    TRes B ge gm fv bv D kk F l w (.returned (.tuple #[.slice A o.length c, .int .i64 0])) w' := by
  have hsz := h.kept.size
  have hlo : ∀ k, (Value.slice A o.length c).ownBlock = some k → w.heap.size ≤ k ∧ k < W.heap.size := fun k hk => ho.lt k hk
  refine ⟨o, A, c, fv2, lv, rfl, hm, hb.own ho (fun k hk e => ?_), h.kept.trans hb (fun k hk e => ?_), he, fun k hk e => ?_, fun k hk e => ?_⟩
  · have h9 := hlo k hk
    rcases e with e | e
    · have := h.wge; omega
    · have := h.wfv k e; omega
  · rcases e with e | e
    · exact .inl e
    · exact .inr (.inl (by rw [← hf]; exact e))
  · rcases e with e | e | e
    · exact .inl e
    · rcases h2 k e with e | e
      · exact .inr (.inl (by rw [← hf]; exact e))
      · omega
    · exact (h.vs k e).1 hk
  · have h9 := hlo k hk
    rcases e with e | e | e
    · have := h.wge; omega
    · rcases h2 k e with e | e
      · have := h.wfv k e; omega
      · omega
    · rcases hn with hn | hn
      · exact hn (by rw [e, hk])
      · rw [hn] at hk; cases hk
theorem T1.nodes {S : Nat → Prop} {w0 : World} {B ge gm be bl : Nat} {fv : Value} {D : DataW Unit} {kk : Nat} {F : Int → Int → Option Nat} {W W' : World} {gl n cap : Nat} {nd nd' : List Nd} (h : T1 S w0 B ge gm be bl fv D kk F W (.slice (some ⟨gl, 0, none⟩) n cap) n nd) (hg : W.grownBy W' (some gl))
    (hn : W'.ownsRow B 176 3 (.slice (some ⟨gl, 0, none⟩) n cap) n (nflat nd')) (hl : nd'.length = n) : T1 S w0 B ge gm be bl fv D kk F W' (.slice (some ⟨gl, 0, none⟩) n cap) n nd' := by
  have hb := But.of_grown hg
  obtain ⟨v1, v2, v3, v4, v5, v6⟩ := h.vs gl rfl
  have e1 : ∀ k, k ≠ gl → ¬ (some gl = some k) := fun k hk e => hk (by injection e with e; exact e.symm)
  exact ⟨h.kept.trans hb (fun k hk e => by injection e with e; subst e; exact v1 hk), h.eg.but hb (e1 _ (Ne.symm v2)) (e1 _ (Ne.symm v3)) (fun k hk => e1 _ (fun e => v6 (by rw [hk, e]))) (fun k hk => by cases hk), hb.blk h.eb (e1 _ (Ne.symm v4)), hb.blk h.lb (e1 _ (Ne.symm v5)),
    hn, hl, h.hB, h.wge, h.wgm, h.wfv, h.wbe, h.wbl, h.nbb, h.vs⟩
theorem T1.queue {S : Nat → Prop} {w0 : World} {B ge gm be bl : Nat} {fv : Value} {D : DataW Unit} {kk : Nat} {F : Int → Int → Option Nat} {W : World} {gl n cap : Nat} {nd : List Nd} (h : T1 S w0 B ge gm be bl fv D kk F W (.slice (some ⟨gl, 0, none⟩) n cap) n nd) :
    TM (fun _ _ => False) S w0 B ge gm be bl W.heap.size fv D kk F gl cap n (W.alloc (.cells #[.slice none 0 0, F20] 183)) nd (.slice none 0 0) [] := by
  have h2 := h.go ((Below.refl _ _).alloc (Nat.le_refl _) (.cells #[.slice none 0 0, F20] 183))
  obtain ⟨v1, v2, v3, v4, v5, v6⟩ := h.vs gl rfl
  exact ⟨h2.kept, h2.eg, h2.eb, h2.lb, h2.no, ⟨Below.refl _ _, Blk.new W 183 [.slice none 0 0, F20], World.ownsRow_nil _ _ _ _, fun k o hp => hp.elim⟩, h.len, v1, h.kept.size, h.eg.box.lt, h.eg.map.lt, h.eb.lt, h.lb.lt, (h.no.lt gl rfl).2, h.eg.fl, v2, v3, v4, v5, v6, fun k o hp => hp.elim⟩
theorem TM.toT1 {P : Nat → Obj → Prop} {S : Nat → Prop} {w0 : World} {B ge gm be bl bq : Nat} {fv : Value} {D : DataW Unit} {kk : Nat} {F : Int → Int → Option Nat} {W W' : World} {gl n cap : Nat} {nd nd' : List Nd} {a : Value} {q : List Pr} (h : TM P S w0 B ge gm be bl bq fv D kk F gl cap n W nd a q)
    (h1 : T1 S w0 B ge gm be bl fv D kk F W' (.slice (some ⟨gl, 0, none⟩) n cap) n nd') : T1 S w0 B ge gm be bl fv D kk F W (.slice (some ⟨gl, 0, none⟩) n cap) n nd :=
  ⟨h.kept, h.eg, h.eb, h.lb, h.no, h.len, h1.hB, h1.wge, h1.wgm, h1.wfv, h1.wbe, h1.wbl, h1.nbb, h1.vs⟩
theorem small_of {F : Int → Int → Option Nat} (hF : FSmall F) {p : Pr} {n : Nat} (hn : n ≤ 262144) (h : 0 ≤ p.left ∧ p.left.toNat < n ∧ 0 ≤ p.first ∧ 0 ≤ p.second ∧ fget F p.first p.second = some (p.rank, p.id)) : SmallP p := by
  have := fget_bd hF h.2.2.2.2
  exact ⟨this.1, by omega, h.1, by have := h.2.1; omega⟩
theorem take_all (P : Nat → Obj → Prop) (g0 : Nat) (w0 w : World) (a : Value) (q : List Pr) (hn : q.length < 1000000) (hs : ∀ p ∈ q, SmallP p) (hh : HeapP q) (h : QB P g0 w0 w a q) :
    Calls Try.prog 98 #[.pointer (some ⟨g0, 0, none⟩)] w fun e w' => ∃ p is a' q', e = .returned (.tuple #[prV p, .bool is]) ∧ QB P g0 w0 w' a' q' ∧ HeapP q' ∧ ((is = false ∧ q = [] ∧ q' = []) ∨ (is = true ∧ q.Perm (p :: q') ∧ p = q.getD 0 pr0 ∧ 0 < q.length)) := by
  by_cases h0 : q.length = 0
  · obtain rfl : q = [] := List.length_eq_zero_iff.1 h0
    obtain ⟨A, c, rfl⟩ := own_sl h.own
    refine (take_none P g0 w0 w A c h).mono ?_
    rintro e w' ⟨rfl, hq⟩
    exact ⟨pr0, false, _, [], rfl, hq, hh, .inl ⟨rfl, rfl, rfl⟩⟩
  · obtain ⟨g, cap, rfl⟩ := h.form (by omega)
    obtain ⟨k, hk⟩ : ∃ k, q.length = k + 1 := ⟨q.length - 1, by omega⟩
    rw [hk] at h
    refine (take_any P g0 k g cap w0 w q hk (by omega) hs hh h).mono ?_
    rintro e w' ⟨rfl, a', q', hq, hh', hp⟩
    exact ⟨_, true, a', q', rfl, hq, hh', .inr ⟨rfl, hp, rfl, by omega⟩⟩
/-- Tokens' memory with the box of the pair that was taken -/
structure LS (S : Nat → Prop) (w0 : World) (B ge gm be bl bq : Nat) (fv : Value) (D : DataW Unit) (kk : Nat) (F : Int → Int → Option Nat) (gl cap n : Nat) (ids : List Int) (bp : Nat) (p : Pr) (is : Bool) (W : World) (nd : List Nd) (c : List Nat) (a : Value) (q qq : List Pr) : Prop where
  tm : TM (fun _ _ => False) S w0 B ge gm be bl bq fv D kk F gl cap n W nd a q
  bx : Blk W bp 178 (cellsOfEl 4 prF p)
  bpq : bq < bp
  bpa : a.ownBlock ≠ some bp
  mq : MQ (fget F) 1280 ids nd c qq
  hq : HeapP q
  st : (is = false ∧ qq = [] ∧ q = []) ∨ (is = true ∧ qq.Perm (p :: q) ∧ p = qq.getD 0 pr0 ∧ 0 < qq.length)
theorem TM.far {P : Nat → Obj → Prop} {S : Nat → Prop} {w0 : World} {B ge gm be bl bq : Nat} {fv : Value} {D : DataW Unit} {k : Nat} {F : Int → Int → Option Nat} {gl cap n : Nat} {W W' : World} {nd : List Nd} {a : Value} {q : List Pr} {x : Nat} (h : TM P S w0 B ge gm be bl bq fv D k F gl cap n W nd a q)
    (hg : W.grownBy W' (some x)) (hx : bq < x) (ha : a.ownBlock ≠ some x) : TM (fun _ _ => False) S w0 B ge gm be bl bq fv D k F gl cap n W' nd a q := by
  have hb := But.of_grown hg
  have l1 := h.oge
  have l2 := h.ogm
  have l3 := h.obe
  have l4 := h.obl
  have l5 := h.ogl
  have l6 := h.wq
  have e1 : ∀ k, k ≠ x → ¬ (some x = some k) := fun k hk e => hk (by injection e with e; exact e.symm)
  exact ⟨h.kept.trans hb (fun k hk e => by injection e with e; omega), h.eg.but hb (e1 _ (by omega)) (e1 _ (by omega)) (fun k hk => e1 _ (by have := h.ofv k hk; omega)) (fun k hk => by cases hk), hb.blk h.eb (e1 _ (by omega)), hb.blk h.lb (e1 _ (by omega)),
    hb.own h.no (fun k hk => e1 _ (by injection hk with hk; simp only at hk; omega)), ⟨Below.refl _ _, hb.blk h.qb.box (e1 _ (by omega)), hb.own h.qb.own (fun k hk => e1 _ (fun e => ha (by rw [hk, e]))), fun k o hp => hp.elim⟩, h.len, h.sgl, h.wq, l1, l2, l3, l4, l5, h.ofv, h.nge, h.ngm, h.nbe, h.nbl, h.nfv, fun k o hp => hp.elim⟩
/-- the box of a pair, watched -/
def Wch (bp : Nat) (p : Pr) (k : Nat) (o : Obj) : Prop := k = bp ∧ o = .cells (cellsOfEl 4 prF p).toArray 178 (0, 0)
/-- how much is left to do -/
def liveV : Option Value → Bool
  | some (.int _ x) => decide (0 ≤ x)
  | _ => false
def liveC (cs : List Value) : Nat := (List.range (cs.length / 3)).countP fun i => liveV cs[i * 3]?
def mM (n gl bq : Nat) (iv : Value) (W : World) : Nat :=
  (match W.cell? ⟨bq, 0, none⟩ with | some (.slice _ m _) => m | _ => 0) + 2 * (match W.heap[gl]? with | some (.cells cs _ _) => liveC (cs.toList.take (n * 3)) | _ => 0) + (match iv with | .bool true => 1 | _ => 0)
theorem liveC_flat (nd : List Nd) : liveC (nflat nd) = liveN nd := by
  unfold liveC liveN
  rw [length_flat, Nat.mul_div_cancel _ (by omega)]
  have : nd = (List.range nd.length).map (ndAt nd) := by
    apply List.ext_getElem (by simp)
    intro i h1 h2
    simp [ndAt, h1]
  conv => rhs; rw [this]
  rw [List.countP_map]
  refine List.countP_congr (fun i hi => ?_)
  have hi : i < nd.length := by simpa using hi
  have := flat_get (m := 3) (f := ndF) (d := nd0) hi (j := 0) (by omega)
  rw [Nat.add_zero] at this
  rw [this]
  rfl
theorem mM_eq {P : Nat → Obj → Prop} {S : Nat → Prop} {w0 : World} {B ge gm be bl bq : Nat} {fv : Value} {D : DataW Unit} {k : Nat} {F : Int → Int → Option Nat} {gl cap n : Nat} {W : World} {nd : List Nd} {a : Value} {q : List Pr} (h : TM P S w0 B ge gm be bl bq fv D k F gl cap n W nd a q) (iv : Bool) :
    mM n gl bq (.bool iv) W = q.length + 2 * liveN nd + (if iv = true then 1 else 0) := by
  obtain ⟨A, c, rfl⟩ := own_sl h.qb.own
  unfold mM
  rw [h.qb.c0]
  rcases h.no.2 with ⟨h', _⟩ | ⟨g', cap', cur, h', _, hg, _, _, _, htake⟩
  · simp at h'
  · simp only [Value.slice.injEq, Option.some.injEq, Addr.mk.injEq, and_true, true_and] at h'
    obtain ⟨rfl, rfl⟩ := h'
    rw [hg]
    simp only [htake, liveC_flat]
    cases iv <;> rfl
theorem LS.meas {S : Nat → Prop} {w0 : World} {B ge gm be bl bq : Nat} {fv : Value} {D : DataW Unit} {kk : Nat} {F : Int → Int → Option Nat} {gl cap n : Nat} {ids : List Int} {bp : Nat} {p : Pr} {is : Bool} {W : World} {nd : List Nd} {c : List Nat} {a : Value} {q qq : List Pr}
    (h : LS S w0 B ge gm be bl bq fv D kk F gl cap n ids bp p is W nd c a q qq) : mM n gl bq (.bool is) W = qq.length + 2 * c.length := by
  rw [mM_eq h.tm, live_count h.mq.ch]
  rcases h.st with ⟨rfl, h1, h2⟩ | ⟨rfl, h1, _, _⟩
  · rw [h1, h2]; simp
  · have := h1.length_eq
    simp at this
    simp
    omega
/-- the pair's box is laid behind a take -/
theorem LS.first {S : Nat → Prop} {w0 : World} {B ge gm be bl bq : Nat} {fv : Value} {D : DataW Unit} {kk : Nat} {F : Int → Int → Option Nat} {gl cap n : Nat} {ids : List Int} {p : Pr} {is : Bool} {W : World} {nd : List Nd} {c : List Nat} {a : Value} {q qq : List Pr}
    (h : TM (fun _ _ => False) S w0 B ge gm be bl bq fv D kk F gl cap n W nd a q) (hm : MQ (fget F) 1280 ids nd c qq) (hh : HeapP q) (hs : (is = false ∧ qq = [] ∧ q = []) ∨ (is = true ∧ qq.Perm (p :: q) ∧ p = qq.getD 0 pr0 ∧ 0 < qq.length)) :
    LS S w0 B ge gm be bl bq fv D kk F gl cap n ids W.heap.size p is (W.alloc (.cells (cellsOfEl 4 prF p).toArray 178)) nd c a q qq :=
  ⟨h.alloc _, Blk.new W 178 _, h.qb.lt, fun e => by have := (h.qb.own.lt _ e).2; omega, hm, hh, hs⟩
/-- the pair's box is written behind a take -/
theorem LS.next {S : Nat → Prop} {w0 : World} {B ge gm be bl bq : Nat} {fv : Value} {D : DataW Unit} {kk : Nat} {F : Int → Int → Option Nat} {gl cap n : Nat} {ids : List Int} {bp : Nat} {p0 p : Pr} {is : Bool} {W : World} {nd : List Nd} {c : List Nat} {a : Value} {q qq : List Pr}
    (h : TM (Wch bp p0) S w0 B ge gm be bl bq fv D kk F gl cap n W nd a q) (hb : bq < bp) (hm : MQ (fget F) 1280 ids nd c qq) (hh : HeapP q) (hs : (is = false ∧ qq = [] ∧ q = []) ∨ (is = true ∧ qq.Perm (p :: q) ∧ p = qq.getD 0 pr0 ∧ 0 < qq.length)) :
    (storePr (.pointer (some ⟨bp, 0, none⟩)) (prV p)).run Try.prog W = .ok () (W.setCells bp 0 (cellsOfEl 4 prF p)) ∧ LS S w0 B ge gm be bl bq fv D kk F gl cap n ids bp p is (W.setCells bp 0 (cellsOfEl 4 prF p)) nd c a q qq := by
  obtain ⟨h1, h2, h3⟩ := h.qb.pk bp _ ⟨rfl, rfl⟩
  have hbk : Blk W bp 178 (cellsOfEl 4 prF p0) := h3
  have hg := grownBy_setCells bp (cellsOfEl 4 prF p) W 0
  refine ⟨store_range (fun j hj => ⟨?_, hbk.frozen _⟩), h.far hg hb h2, ?_, hb, h2, hm, hh, hs⟩
  · rw [hbk.cell]
    rcases (by omega : j = 0 ∨ j = 1 ∨ j = 2 ∨ j = 3) with rfl | rfl | rfl | rfl <;> rfl
  · exact hbk.setCells (vs := cellsOfEl 4 prF p) (o := 0)
theorem TM.wch {S : Nat → Prop} {w0 : World} {B ge gm be bl bq : Nat} {fv : Value} {D : DataW Unit} {kk : Nat} {F : Int → Int → Option Nat} {gl cap n : Nat} {bp : Nat} {p : Pr} {W : World} {nd : List Nd} {a : Value} {q : List Pr}
    (h : TM (fun _ _ => False) S w0 B ge gm be bl bq fv D kk F gl cap n W nd a q) (hb : Blk W bp 178 (cellsOfEl 4 prF p)) (hq : bq < bp) (ha : a.ownBlock ≠ some bp) : TM (Wch bp p) S w0 B ge gm be bl bq fv D kk F gl cap n W nd a q :=
  h.watch (fun k o h9 => by obtain ⟨rfl, rfl⟩ := h9; exact ⟨hq, ha, hb⟩)
theorem TM.unw {S : Nat → Prop} {w0 : World} {B ge gm be bl bq : Nat} {fv : Value} {D : DataW Unit} {kk : Nat} {F : Int → Int → Option Nat} {gl cap n : Nat} {bp : Nat} {p : Pr} {W : World} {nd : List Nd} {a : Value} {q : List Pr}
    (h : TM (Wch bp p) S w0 B ge gm be bl bq fv D kk F gl cap n W nd a q) : TM (fun _ _ => False) S w0 B ge gm be bl bq fv D kk F gl cap n W nd a q ∧ Blk W bp 178 (cellsOfEl 4 prF p) ∧ a.ownBlock ≠ some bp :=
  ⟨h.watch (fun _ _ h9 => h9.elim), (h.qb.pk bp _ ⟨rfl, rfl⟩).2.2, (h.qb.pk bp _ ⟨rfl, rfl⟩).2.1⟩
theorem info64 : (Try.prog.info? 176).map (fun i => (i.size, i.bytes)) = some (3, 24) := by kernel_rfl
end Go.Proofs.Ytfjgfabochiflaa.H14
/- Tokens: its walk. -/
namespace Go.Proofs.Ytfjgfabochiflaa.H14
open Go.RowKit Go.Maps Go.WideMaps
attribute [local go_sem ↓] load_pr store_pr
attribute [local go_sem] run_store_fn
theorem info3 : (Try.prog.info? 3).map (fun i => (i.zero, i.size, i.bytes)) = some (some (.int .i64 0), 1, 8) := by kernel_rfl
theorem getD_take (l : List Int) (k : Nat) (h : k < l.length) : l.take (k + 1) = l.take k ++ [l.getD k 0] := by
  rw [List.take_succ_eq_append_getElem h]; simp [h]
def lenOf : Value → Nat
  | .slice _ n _ => n
  | _ => 0
set_option maxRecDepth 100000 in
set_option maxHeartbeats 8000000 in
theorem tokens_walk (w : World) (B ge gm m kk : Nat) (fv bv : Value) (D : DataW Unit) (F : Int → Int → Option Nat) (h : Eg w B ge gm fv bv m D kk F) (hB : B ≤ w.heap.size) (s : ByteArray) (n : Nat) (hsn : s.size = n) (hn : n ≤ 262144) (hF : FSmall F) :
    Calls Try.prog 63 #[.pointer (some ⟨ge, 0, none⟩), .string s] w (TRes B ge gm fv bv D kk F (bytesI s) w) := by
  obtain ⟨i9, z9, hi9, hz9, hsz9, hbt9, hzc9⟩ : ∃ i z, Try.prog.info? 176 = some i ∧ i.zero = some z ∧ i.size = 3 ∧ i.bytes = 24 ∧ z.cells.size = 3 := ⟨_, _, rfl, rfl, rfl, rfl, rfl⟩
  have hA := h.go ((Below.refl _ _).alloc (Nat.le_refl _) (.cells #[.pointer (some ⟨ge, 0, none⟩)] 122))
  have HC := Lib.hid (buffer_any _ B ge gm kk m fv bv D F hA)
  have H := Lib.hid h
  have HF := Lib.hid hF
  have HSN := Lib.hid hsn
  have d1 : decide ((262144 : Int) < (n : Int)) = false := by simp; omega
  clear hA h hF
  go_enter Try.func63, Try.ntmps63
  go_wp2_with fail
  refine HC.out.mono ?_
  rintro e w2 ⟨lv, fv', rfl, hg, hl, hlb, he, hf⟩
  obtain ⟨Al, cl, rfl⟩ := own_form hl
  have hT := T1.start H.out hB hg hl hlb he hf
  have HF1 := Lib.hid hf
  clear hg hl hlb he hf HC
  go_upto_block 1 with (fail)
  obtain ⟨be, hbe⟩ : ∃ be, be = w.heap.size := ⟨_, rfl⟩
  have HBE := Lib.hid hbe
  rw [← hbe] at hT ⊢
  obtain ⟨bl, hbl⟩ : ∃ bl, bl = w2.heap.size := ⟨_, rfl⟩
  rw [← hbl] at hT ⊢
  generalize w2.alloc _ = w3 at hT ⊢
  have HT := Lib.hid hT
  clear hT hbl hbe d1 hsn
  go_cut [] from 7 (fun wx => ∃ lv, T1 (TS ge fv bv) w B ge gm be bl fv' D kk F wx lv n (ndT (bytesI s) n))
  case first =>
    go_wp2_with fail
    go_loopw [28] (fun i wr => ∃ (k : Nat) (lv : Value), k ≤ n ∧ i = .int .i64 k ∧ T1 (TS ge fv bv) w B ge gm be bl fv' D kk F wr lv k (ndT (bytesI s) k)) (fun i _ => n - (intOf i).toNat)
    case atStart => exact ⟨0, _, by omega, rfl, HT.out⟩
    case round =>
      obtain ⟨k, lv, hk, rfl, hT⟩ := hrel
      have H1 := Lib.hid hT
      obtain ⟨Ak, ck, rfl⟩ := own_form hT.no
      clear HT hT
      by_cases hlt : k < n
      · obtain ⟨hx0, hx1, hidx⟩ := index_bytes s k (by rw [HSN.out]; exact hlt)
        obtain ⟨x, hx⟩ : ∃ x, x = (bytesI s).getD k 0 := ⟨_, rfl⟩
        rw [← hx] at hidx hx0 hx1
        have HX := Lib.hid hx
        have q0 := H1.out.lb.cell 0
        have fz := H1.out.lb.frozen 0
        simp only [List.getElem?_cons_zero] at q0
        have w1 : IntKind.i64.wrap ((k : Int) + 1) = (k : Int) + 1 := IntWalk.i64_in _ (by omega)
        have w2' : IntKind.i64.wrap ((k : Int) - 1) = (k : Int) - 1 := IntWalk.i64_in _ (by omega)
        have w3' : IntKind.i64.wrap x = x := IntWalk.i64_in _ (by omega)
        have y1 : (0 : Nat) < 1 := by omega
        have y5 : (0 : Nat) < 3 := by omega
        have y2 : k + 1 ≤ maxLen := by unfold maxLen; omega
        have y3 : (k + 1) * 24 ≤ 140737488355328 := by omega
        have y4 : ∀ v ∈ [Value.int .i64 x, .int .i64 ((k : Int) + 1), .int .i64 ((k : Int) - 1)], v.oneCell' = true := by intro v hv; simp at hv; rcases hv with rfl | rfl | rfl <;> rfl
        have hbs := H1.out.kept.size
        have hlt1 := H1.out.lb.lt
        clear hx
        go_wp2_with fail
        go_region_law (first
          | (refine step_append_lies _ rfl (.tmp 31) (.tmp 41) 173 rfl B 176 i9 z9 3 24 Try.underlying173 hi9 hz9 hsz9 hbt9 hzc9 y5 (.slice Ak k ck) k (nflat (ndT (bytesI s) k)) (by rfl) ?_ ⟨_, 0, none⟩ 1 1 [.int .i64 x, .int .i64 ((k : Int) + 1), .int .i64 ((k : Int) - 1)] (by rfl) rfl (World.news_of_block (cs := #[.int .i64 x, .int .i64 ((k : Int) + 1), .int .i64 ((k : Int) - 1)]) (t := 176) (fr := (0, 0)) ?_) y4 y1 y2 y3 ?_ _ rfl ?_
             · exact H1.out.no.drew.alloc _
             · exact heap_alloc_new _ _
             · simp; omega
             intro g5 c9 w5 hown5 hgrow5 hat5 hlt5
             have hbx := (hgrow5.block bl (by simp; omega) (fun e => (H1.out.vs bl e.symm).2.2.2.2.1 rfl)).trans ((H1.out.lb.drewN 1).alloc _)
             have e1 := Blk.cell hbx 0
             have e2 := Blk.frozen hbx 0
             simp only [List.getElem?_cons_zero] at e1))
        all_goals
          go_wp2_with fail
          go_roundw
          case rel =>
            refine ⟨k + 1, _, by omega, by go_num, (H1.out.go ((Below.refl wr.heap.size wr).drew.alloc (by simp) (.cells #[.int .i64 x, .int .i64 ((k : Int) + 1), .int .i64 ((k : Int) - 1)] 176))).grow hgrow5 ?_ (length_ndT _ _) (fun g hg => ?_)⟩
            · rw [ndT_snoc, nflat, flat_snoc, ← HX.out]
              exact hown5
            · injection hg with hg
              simp only at hg
              subst hg
              rcases hat5 with e | e
              · exact .inl e
              · right; rw [e]; simp
          case measure => simp [intOf]; omega
      · obtain rfl : n = k := by omega
        go_wp2_with fail
        go_meet
        exact ⟨_, H1.out⟩
  case rest =>
    obtain ⟨lv, hT⟩ := hcut
    have H1 := Lib.hid hT
    obtain ⟨Ak, ck, rfl⟩ := own_form hT.no
    clear HT hT
    obtain ⟨wr, rfl⟩ : ∃ wr : World, wr = wc := ⟨_, rfl⟩
    have q0 := H1.out.lb.cell 0
    simp only [List.getElem?_cons_zero] at q0
    by_cases hn0 : n = 0
    · as_aux_lemma =>
        subst hn0
        have hbl1 := H1.out.lb.lt
        go_wp2_with fail
        refine wp_loop_rounds 1 ?_
        rw [rounds_succ]
        go_wp2_with fail
        obtain ⟨bq, hbq⟩ : ∃ bq, bq = wr.heap.size := ⟨_, rfl⟩
        have hQ : QB (fun _ _ => False) bq (wr.alloc (.cells #[.slice none 0 0, F20] 183)) (wr.alloc (.cells #[.slice none 0 0, F20] 183)) (.slice none 0 0) [] := by
          rw [hbq]; exact ⟨Below.refl _ _, Blk.new wr 183 [.slice none 0 0, F20], World.ownsRow_nil _ _ _ _, fun k o hp => hp.elim⟩
        rw [← hbq]
        refine (take_none _ bq _ _ none 0 hQ).mono ?_
        rintro e w4 ⟨rfl, hq4⟩
        have hb4 : Below wr.heap.size wr w4 := ((Below.refl wr.heap.size wr).alloc (Nat.le_refl _) _).trans (by rw [← hbq]; exact hq4.below)
        have hT5 := (H1.out.go hb4).go ((Below.refl w4.heap.size w4).alloc (Nat.le_refl _) (.cells (cellsOfEl 4 prF pr0).toArray 178))
        have HT5 := Lib.hid hT5
        have q5 := hT5.lb.cell 0
        have e5 := hT5.eb.cell 0
        have hs0 := store_new (W := w4) pr0
        simp only [List.getElem?_cons_zero] at q5 e5
        unfold zero4 prV at hs0
        unfold prV
        simp only [cellsOfEl, prF, pr0, List.range, List.range.loop, List.map_cons, List.map_nil] at hs0 HT5 q5 e5 ⊢
        clear hT5 hb4 hQ hq4 hbq q0 hbl1
        go_wp2_with fail
        refine wp_loop_rounds 1 ?_
        rw [rounds_succ]
        go_wp2_with fail
        generalize w4.alloc _ = w5 at HT5 q5 e5 ⊢
        refine (back_any w5 B ge gm kk 0 fv' (.slice Ak 0 ck) [] D F HT5.out.eg HT5.out.no (fun k hk => ⟨(HT5.out.vs k hk).2.1, (HT5.out.vs k hk).2.2.1, (HT5.out.vs k hk).2.2.2.2.2⟩) (by have := HT5.out.kept.size; omega)).mono ?_
        rintro e w6 ⟨fv2, rfl, hb6, he6, h26⟩
        have HB6 := Lib.hid (And.intro hb6 (And.intro he6 h26))
        clear hb6 he6 h26
        go_wp2_with fail
        go_returns
        have hl0 : bytesI s = [] := List.length_eq_zero_iff.1 (by rw [length_bytesI, HSN.out])
        rw [hl0]
        exact HT5.out.done (o := []) (A := none) (c := 0) HF1.out HB6.out.1 HB6.out.2.1 HB6.out.2.2 (mergeF_nil _ _) (World.ownsRow_nil _ _ _ _) (.inr rfl)
    · obtain ⟨gl, cap, hv, _⟩ := H1.out.no.form (by omega)
      simp only [Value.slice.injEq, true_and] at hv
      obtain ⟨rfl, rfl⟩ := hv
      obtain ⟨m2, hm⟩ : ∃ m2, m2 = n - 1 := ⟨_, rfl⟩
      have hnm : n = m2 + 1 := by omega
      have i0 : decide ((0 : Int) < (n : Int)) = true := by simp; omega
      have i0n : decide (0 < n) = true := by simp; omega
      have e1 : (n : Int) - 1 = (m2 : Int) := by omega
      have q1 := H1.out.no.cellAt (m2 * 3 + 1) (by omega)
      have q2 := H1.out.no.frozenAt (m2 * 3 + 1)
      have hlen := H1.out.len
      rw [flat_get (by rw [hlen]; omega) (by omega)] at q1
      unfold ndF at q1
      simp only at q1
      have hat := ndT_at (bytesI s) n m2 (by omega)
      have hn2 := nd_setNext H1.out.no (k := m2) (by rw [hlen]; omega) (-1)
      rw [hat] at hn2
      have hlast := ndT_last (bytesI s) (by rw [length_bytesI, HSN.out]; omega)
      rw [length_bytesI, HSN.out, ← hm] at hlast
      simp only at hn2
      rw [hlast] at hn2
      have hT2 := H1.out.nodes (grownBy_setCell wr gl (m2 * 3 + 1) (.int .i64 (-1))) hn2 (by rw [length_ndInit, length_bytesI, HSN.out])
      have HT2 := Lib.hid hT2
      have i1 : (m2 : Int) < (n : Int) := by omega
      have hHQ := hT2.queue
      have hsz : (wr.setCell ⟨gl, m2 * 3 + 1, none⟩ (.int .i64 (-1))).heap.size = wr.heap.size := by simp
      rw [hsz] at hHQ
      have HQ := Lib.hid hHQ
      have HNM := Lib.hid (And.intro hnm hn0)
      clear hat hn2 hlast hm hnm hT2 hHQ hsz hlen hn0
      have HPOS := Lib.hid (show ∀ j, j < (bytesI s).length → 0 ≤ (bytesI s).getD j 0 ∧ (bytesI s).getD j 0 < 256 from fun j hj => by
        rw [length_bytesI] at hj
        have := index_bytes s j hj
        exact ⟨this.1, this.2.1⟩)
      have hbl1 := H1.out.lb.lt
      go_upto_block 3 with (fail)
      obtain ⟨bq, hbq⟩ : ∃ bq, bq = wr.heap.size := ⟨_, rfl⟩
      rw [← hbq] at HQ ⊢
      generalize (wr.setCell _ _).alloc _ = w3 at HQ ⊢
      clear hbq q0 q1 q2 e1 hbl1 i1 i0 i0n H1
      go_cut [] from 10 (fun wx => ∃ a q, TM (fun _ _ => False) (TS ge fv bv) w B ge gm be bl bq fv' D kk F gl ck n wx (ndInit (bytesI s)) a q ∧ MQ (fget F) 1280 (bytesI s) (ndInit (bytesI s)) (List.range (bytesI s).length) q)
      case first =>
        as_aux_lemma =>
          have q0 := HQ.out.box
          go_wp2_with fail
          go_loopw [57] (fun i wq => ∃ k : Nat, k ≤ n ∧ i = .int .i64 k ∧ ∃ a q, TM (fun _ _ => False) (TS ge fv bv) w B ge gm be bl bq fv' D kk F gl ck n wq (ndInit (bytesI s)) a q ∧ QTo (fget F) (bytesI s) q k) (fun i _ => n - (intOf i).toNat)
          case atStart => exact ⟨0, by omega, rfl, _, _, HQ.out, QTo.start⟩
          case round =>
            obtain ⟨k, hk, rfl, a, q, hMM, hTo⟩ := hrel
            have H := Lib.hid hMM
            have HT := Lib.hid hTo
            have hbn : (bytesI s).length = n := by rw [length_bytesI, HSN.out]
            have HBN := Lib.hid hbn
            have hn1 := HNM.out.2
            clear hMM hTo
            by_cases hlt : k < n
            · have hci := chain_init (ids := bytesI s) (by omega) (fun j hj => (HPOS.out j hj).1)
              have hin : ∀ i, i < (ndInit (bytesI s)).length → (ndAt (ndInit (bytesI s)) i).id < 65536 := fun i hi => by
                rw [length_ndInit] at hi
                rw [ndInit_at hi]
                have := (HPOS.out i hi).2
                show (bytesI s).getD i 0 < 65536
                omega
              have hsm : ∀ p ∈ q, SmallP p := fun p hp => small_of HF.out (n := (ndInit (bytesI s)).length) (by rw [length_ndInit]; omega) (HT.out.ok p hp)
              have hql := HT.out.len
              have HC := Lib.hid (look_all (fun _ _ => False) (TS ge fv bv) w B ge gm be bl bq fv' D kk F gl ck n wr (ndInit (bytesI s)) a q H.out HF.out hn (List.range (bytesI s).length) hci.1 hin k (.inr ⟨k, by simp; omega, by simp [show k < (bytesI s).length by omega]⟩) (by omega) hsm HT.out.hp)
              clear hci hin hsm hql hbn
              go_wp2_with fail
              refine HC.out.mono ?_
              rintro e w4 ⟨rfl, a2, q2, hM2, hh2, hp2⟩
              have HM4 := Lib.hid hM2
              have HT4 := Lib.hid (HT.out.next (by rw [HBN.out]; omega) (fun j hj => (HPOS.out j hj).1) (by rw [HBN.out]; omega) hp2 hh2)
              clear hM2 hh2 hp2 HC
              go_wp2_with fail
              go_roundw
              case rel =>
                exact ⟨k + 1, by omega, by go_num, a2, q2, HM4.out, HT4.out⟩
              case measure => simp [intOf]; omega
            · obtain rfl : n = k := by omega
              go_wp2_with fail
              go_meet
              exact ⟨a, q, H.out, QTo.all_in (by rw [hbn]; exact HT.out) (by omega) (fun j hj => (HPOS.out j hj).1) (fun j hj => by have := (HPOS.out j hj).2; omega)⟩
      case rest =>
        obtain ⟨a0, qi0, hMM0, hMQ0⟩ := hcut
        have HMM0 := Lib.hid hMM0
        have HMQ0 := Lib.hid hMQ0
        clear hMM0 hMQ0 HQ
        have hbn : (bytesI s).length = n := by rw [length_bytesI, HSN.out]
        have HBN := Lib.hid hbn
        have hpos2 : ∀ j, j < (bytesI s).length → 0 ≤ (bytesI s).getD j 0 := fun j hj => (HPOS.out j hj).1
        have hsm0 : ∀ p ∈ qi0, SmallP p := fun p hp => small_of HF.out (n := (ndInit (bytesI s)).length) (by rw [length_ndInit]; omega) (HMQ0.out.qi.ok p hp)
        have hb0 := HMQ0.out.bnd
        have HTK := Lib.hid (take_all (fun _ _ => False) bq wc wc a0 qi0 (by omega) hsm0 HMQ0.out.hp HMM0.out.qb)
        clear hbn hpos2 hsm0 hb0
        go_upto_region 20 with (fail)
        go_wp2_with fail
        refine HTK.out.mono ?_
        rintro e w4 ⟨p, is, a1, q1, rfl, hq1, hh1, hst1⟩
        have hLS := LS.first (HMM0.out.put hq1) HMQ0.out hh1 hst1
        have hs0 := store_new (W := w4) p
        have HLS := Lib.hid hLS
        clear hq1 hh1 hst1 HTK hLS
        unfold zero4 prV at hs0
        unfold prV
        simp only [cellsOfEl, prF, List.range, List.range.loop, List.map_cons, List.map_nil] at hs0 ⊢
        go_upto_block 5 with (fail)
        obtain ⟨bp, hbp⟩ : ∃ bp, bp = w4.heap.size := ⟨_, rfl⟩
        rw [← hbp] at HLS ⊢
        obtain ⟨w5, hw5⟩ : ∃ w5, w5 = w4.alloc (.cells (cellsOfEl 4 prF p).toArray 178) := ⟨_, rfl⟩
        have e5 : (w4.alloc (.cells #[Value.int .i64 p.rank, .int .i64 p.left, .int .i64 p.first, .int .i64 p.second] 178)) = w5 := by rw [hw5]; rfl
        rw [← hw5] at HLS
        rw [e5]
        clear hs0 hbp hw5 e5
        go_cut [] from 11 (fun wx => ∃ nd c a, TM (fun _ _ => False) (TS ge fv bv) w B ge gm be bl bq fv' D kk F gl ck n wx nd a [] ∧ MQ (fget F) 1280 (bytesI s) nd c [])
        case first =>
          as_aux_lemma =>
            go_wp2_with fail
            go_loopw [11, 12] (fun pv iv wq => ∃ (bp : Nat) (p : Pr) (is : Bool) (nd : List Nd) (c : List Nat) (a : Value) (q qq : List Pr), pv = .pointer (some ⟨bp, 0, none⟩) ∧ iv = .bool is ∧ LS (TS ge fv bv) w B ge gm be bl bq fv' D kk F gl ck n (bytesI s) bp p is wq nd c a q qq) (fun _ iv wq => mM n gl bq iv wq)
            case atStart => exact ⟨_, _, _, _, _, _, _, _, rfl, rfl, HLS.out⟩
            case round =>
              obtain ⟨bp2, p2, is2, nd, c, a, q, qq, rfl, rfl, hL⟩ := hrel
              have HL := Lib.hid hL
              clear hL HLS
              cases is2 with
              | false =>
                as_aux_lemma =>
                  go_wp2_with fail
                  go_meet
                  have hst := HL.out.st
                  simp at hst
                  obtain ⟨h1, h2⟩ := hst
                  exact ⟨nd, c, a, by rw [← h2]; exact HL.out.tm, by rw [← h1]; exact HL.out.mq⟩
              | true =>
                have hst := HL.out.st
                simp only [Bool.true_eq_false, false_and, false_or, true_and] at hst
                obtain ⟨hp4, hp0, hqk⟩ := hst
                have HP4 := Lib.hid hp4
                have HP0 := Lib.hid hp0
                have HQK := Lib.hid hqk
                have hok := HL.out.mq.qi.ok p2 (hp4.mem_iff.mpr (by simp))
                have HOK := Lib.hid hok
                clear hp4 hp0 hqk hok
                obtain ⟨rk, lf, fi, se, pid⟩ := p2
                obtain ⟨pl, hpl⟩ := Int.eq_ofNat_of_zero_le HOK.out.1
                simp only at hpl
                subst hpl
                have hpln : pl < n := by have := HOK.out.2.1; rw [HL.out.tm.len] at this; simpa using this
                have i2 : (pl : Int) < (n : Int) := by omega
                go_upto_block 6 with (fail)
                go_cut [13, 14] from 68 to 150 (fun _u _v wx => ∃ nd' c' a' q', TM (Wch bp2 ⟨rk, pl, fi, se, pid⟩) (TS ge fv bv) w B ge gm be bl bq fv' D kk F gl ck n wx nd' a' q' ∧ MQ (fget F) 1280 (bytesI s) nd' c' q' ∧ q'.length + 2 * c'.length < qq.length + 2 * c.length)
                case first =>
                  have HW := Lib.hid (HL.out.tm.wch HL.out.bx HL.out.bpq HL.out.bpa)
                  have hx1 := HW.out.box
                  have hx2 := HW.out.cell hpln (j := 0) (by omega)
                  have hx3 := HW.out.cell hpln (j := 1) (by omega)
                  unfold ndF at hx2 hx3
                  simp only [Nat.add_zero] at hx2 hx3
                  have hbx := HL.out.bx
                  simp only [cellsOfEl, prF, List.range, List.range.loop, List.map_cons, List.map_nil] at hbx
                  have hy0 := hbx.cell 1
                  have hy1 := hbx.cell 2
                  have hy2 := hbx.cell 3
                  simp only [List.getElem?_cons_zero, List.getElem?_cons_succ] at hy0 hy1 hy2
                  clear hbx
                  obtain ⟨id0, hid0⟩ : ∃ x, x = (ndAt nd pl).id := ⟨_, rfl⟩
                  obtain ⟨nx, hnx⟩ : ∃ x, x = (ndAt nd pl).next := ⟨_, rfl⟩
                  rw [← hid0] at hx2
                  rw [← hnx] at hx3
                  have HID := Lib.hid (And.intro hid0 hnx)
                  clear hid0 hnx
                  go_upto_region 24 with (fail)
                  by_cases hA : id0 = fi
                  · have b1 : (id0 != fi) = false := by simpa using hA
                    have HA := Lib.hid hA
                    have hlive := HL.out.mq.ch.live (i := pl) (by rw [HL.out.tm.len]; exact hpln) (by rw [← HID.out.1, hA]; exact HOK.out.2.2.1)
                    obtain ⟨j, hj, hje⟩ := hlive
                    by_cases hB2 : nx < 0
                    · as_aux_lemma =>
                        have b2 : decide (nx < 0) = true := by simpa using hB2
                        have hnc : ¬ isCur nd ⟨rk, pl, fi, se, pid⟩ := fun h9 => by
                          have h8 : 0 ≤ (ndAt nd pl).next := h9.2.1
                          rw [← HID.out.2] at h8
                          omega
                        have hst := HL.out.mq.stale HP4.out HL.out.hq hnc
                        have HST := Lib.hid hst
                        clear hA hB2 hnc hst hj hje
                        go_wp2_with fail
                        go_quiet (fail)
                        go_wp2_with fail
                        go_meet
                        exact ⟨nd, c, a, q, HW.out.drewN _, HST.out, by have := HP4.out.length_eq; simp at this; omega⟩
                    · have b2 : decide (nx < 0) = false := by simpa using hB2
                      have hj1 : j + 1 < c.length := by
                        apply Classical.byContradiction
                        intro h9
                        have := HL.out.mq.ch.nextEnd j (by omega)
                        rw [hje, ← HID.out.2] at this
                        omega
                      have hnx := HL.out.mq.ch.next j hj1
                      have hnl := HL.out.mq.ch.lt (j + 1) hj1
                      rw [hje, ← HID.out.2] at hnx
                      rw [HL.out.tm.len] at hnl
                      obtain ⟨gn, hgn⟩ : ∃ gn, gn = c.getD (j + 1) 0 := ⟨_, rfl⟩
                      rw [← hgn] at hnx hnl
                      subst hnx
                      have hx4 := HW.out.cell hnl (j := 0) (by omega)
                      unfold ndF at hx4
                      simp only [Nat.add_zero] at hx4
                      obtain ⟨id2, hid2⟩ : ∃ x, x = (ndAt nd gn).id := ⟨_, rfl⟩
                      rw [← hid2] at hx4
                      have i3 : (gn : Int) < (n : Int) := by omega
                      by_cases hC : id2 = se
                      · have b3 : (id2 != se) = false := by simpa using hC
                        have hcur : isCur nd ⟨rk, pl, fi, se, pid⟩ := ⟨by show (ndAt nd pl).id = fi; rw [← HID.out.1]; exact hA, by show 0 ≤ (ndAt nd pl).next; rw [← HID.out.2]; omega, by show (ndAt nd (ndAt nd pl).next.toNat).id = se; rw [← HID.out.2, Int.toNat_natCast, ← hid2]; exact hC⟩
                        have HCUR := Lib.hid (And.intro hcur (And.intro hj1 (And.intro hje (And.intro hgn hid2))))
                        clear hA hB2 hC hcur hj hj1 hje hgn hid2
                        go_wp2_with fail
                        go_quiet (fail)
                        have H6 := Lib.hid (HW.out.drewN nq)
                        generalize wr.drewN nq = w6 at H6 ⊢
                        clear hx1 hx2 hx3 hx4 hy0 hy1 hy2 b1 b2 b3
                        obtain ⟨ix, hix, hxl, hxn, hbest⟩ := HL.out.mq.top (by have := HBN.out; omega) HQK.out (by rw [← HP0.out]; exact HCUR.out.1)
                        rw [← HP0.out] at hxl hbest
                        simp only at hxl hbest
                        have hpc : pl = c.getD ix 0 := by omega
                        have HTOP := Lib.hid (And.intro hix (And.intro hpc hbest))
                        have hpid := fget_bd HF.out HOK.out.2.2.2.2
                        (try simp only at hpid)
                        have hgx : gn = c.getD (ix + 1) 0 := by
                          rw [← hpc, ← HID.out.2] at hxn
                          omega
                        have HGX := Lib.hid hgx
                        clear hix hxl hxn hbest hpc hgx
                        as_aux_lemma =>
                          have hbx := H6.out.unw.2.1
                          simp only [cellsOfEl, prF, List.range, List.range.loop, List.map_cons, List.map_nil] at hbx
                          have hy0 := hbx.cell 0
                          simp only [List.getElem?_cons_zero] at hy0
                          clear hbx
                          have hx1 := H6.out.box
                          have hx2 := H6.out.cell hpln (j := 0) (by omega)
                          have hx3 := H6.out.cell hpln (j := 1) (by omega)
                          have hx5 := H6.out.cell hnl (j := 1) (by omega)
                          have hx6 := H6.out.cell hnl (j := 0) (by omega)
                          unfold ndF at hx2 hx3 hx5 hx6
                          simp only [Nat.add_zero] at hx2 hx3 hx5 hx6
                          rw [← HID.out.2] at hx3
                          obtain ⟨nx2, hnx2⟩ : ∃ x, x = (ndAt nd gn).next := ⟨_, rfl⟩
                          rw [← hnx2] at hx5
                          have f0 := H6.out.fz (pl * 3)
                          have f1 := H6.out.fz (pl * 3 + 1)
                          have f2 := H6.out.fz (gn * 3)
                          have HNX2 := Lib.hid hnx2
                          clear hnx2
                          have hne : pl ≠ gn := by
                            rw [HGX.out, HTOP.out.2.1]
                            have := HL.out.mq.ch.mono ix (ix + 1) (by omega) HTOP.out.1
                            omega
                          obtain ⟨nd1, hnd1⟩ : ∃ x, x = nd.set pl ⟨pid, nx2, (ndAt nd pl).last⟩ := ⟨_, rfl⟩
                          obtain ⟨nd2, hnd2⟩ : ∃ x, x = nd1.set gn ⟨-1, (ndAt nd1 gn).next, (ndAt nd1 gn).last⟩ := ⟨_, rfl⟩
                          have hl1 : nd1.length = n := by rw [hnd1, List.length_set]; exact H6.out.len
                          have hl2 : nd2.length = n := by rw [hnd2, List.length_set]; exact hl1
                          have hnb1 := nd_setNext (nd_setId H6.out.no (k := pl) (by rw [H6.out.len]; exact hpln) pid) (k := pl) (by rw [List.length_set, H6.out.len]; exact hpln) nx2
                          rw [ndAt_set (by rw [H6.out.len]; exact hpln), if_pos rfl, List.set_set] at hnb1
                          simp only at hnb1
                          rw [← hnd1] at hnb1
                          have hg1 : w6.grownBy ((w6.setCell ⟨gl, pl * 3, none⟩ (.int .i64 pid)).setCell ⟨gl, pl * 3 + 1, none⟩ (.int .i64 nx2)) (some gl) := by
                            have := grownBy_setCells gl [.int .i64 pid, .int .i64 nx2] w6 (pl * 3)
                            exact this
                          have H7 := Lib.hid (H6.out.nodes hg1 hnb1 hl1).drew
                          have HND := Lib.hid (And.intro hnd1 (And.intro hnd2 (And.intro hl1 (And.intro hl2 hne))))
                          have HPID := Lib.hid hpid
                          have k1 : IntKind.i64.wrap (256 + rk) = pid := by rw [IntWalk.i64_in _ (by omega)]; omega
                          have k2 : wrap64 (256 + rk) = pid := by rw [IntWalk.wrap64_in _ (by omega)]; omega
                          clear hnd1 hnd2 hl1 hl2 hnb1 hg1 hne hpid
                          go_wp2_with fail
                          go_region
                          generalize ((w6.setCell _ _).setCell _ _).drew = w7 at H7 ⊢
                          clear hx1 hx2 hx3 hx5 hx6 f0 f1 f2 hy0 k1 k2
                          have hx1 := H7.out.box
                          have hx6 := H7.out.cell hnl (j := 0) (by omega)
                          have f2 := H7.out.fz (gn * 3)
                          unfold ndF at hx6
                          simp only [Nat.add_zero] at hx6
                          have hnb2 := nd_setId H7.out.no (k := gn) (by rw [HND.out.2.2.1]; exact hnl) (-1)
                          rw [← HND.out.2.1] at hnb2
                          have H8 := Lib.hid (H7.out.nodes (grownBy_setCell _ _ _ _) hnb2 HND.out.2.2.2.1)
                          clear hnb2
                          go_upto_region 28 with (fail)
                          generalize w7.setCell _ _ = w8 at H8 ⊢
                          clear hx1 hx6 f2
                          have hat2 : ndAt nd2 pl = ⟨pid, nx2, (ndAt nd pl).last⟩ := by
                            rw [HND.out.2.1, ndAt_set (by rw [HND.out.2.2.1]; exact hnl), if_neg HND.out.2.2.2.2, HND.out.1, ndAt_set (by rw [H6.out.len]; exact hpln), if_pos rfl]
                          have hmg : mergeNd nd pl pid = if 0 ≤ nx2 then nd2.set nx2.toNat ⟨(ndAt nd2 nx2.toNat).id, (ndAt nd2 nx2.toNat).next, (pl : Int)⟩ else nd2 := by
                            unfold mergeNd
                            simp only [← HID.out.2, Int.toNat_natCast, ← HNX2.out]
                            rw [← HND.out.1, ← HND.out.2.1]
                          have HMG := Lib.hid hmg
                          have hx1 := H8.out.box
                          have hx3 := H8.out.cell hpln (j := 1) (by omega)
                          unfold ndF at hx3
                          rw [hat2] at hx3
                          simp only at hx3
                          clear hat2 hmg
                          go_upto_if 130 with (fail)
                          go_cut [130] from 131 to 139 (fun _v wx => TM (Wch bp2 ⟨rk, pl, fi, se, pid⟩) (TS ge fv bv) w B ge gm be bl bq fv' D kk F gl ck n wx (mergeNd nd pl pid) a q)
                          case first =>
                            as_aux_lemma =>
                              by_cases hD : 0 ≤ nx2
                              · have b5 : decide (0 ≤ nx2) = true := by simpa using hD
                                have hix2 : ix + 2 < c.length := by
                                  apply Classical.byContradiction
                                  intro h9
                                  have h8 := HL.out.mq.ch.nextEnd (ix + 1) (by have := HTOP.out.1; omega)
                                  rw [← HGX.out, ← HNX2.out] at h8
                                  omega
                                have hn3 := HL.out.mq.ch.next (ix + 1) hix2
                                have hl3 := HL.out.mq.ch.lt (ix + 2) hix2
                                rw [← HGX.out, ← HNX2.out] at hn3
                                rw [HL.out.tm.len] at hl3
                                obtain ⟨m3, hm3⟩ : ∃ x, x = c.getD (ix + 2) 0 := ⟨_, rfl⟩
                                rw [show ix + 1 + 1 = ix + 2 from rfl, ← hm3] at hn3
                                rw [← hm3] at hl3
                                subst hn3
                                have hx7 := H8.out.cell hl3 (j := 2) (by omega)
                                unfold ndF at hx7
                                have f3 := H8.out.fz (m3 * 3 + 2)
                                have hnb3 := nd_setLast H8.out.no (k := m3) (by rw [HND.out.2.2.2.1]; exact hl3) (pl : Int)
                                have hmg := HMG.out
                                rw [if_pos hD, Int.toNat_natCast] at hmg
                                rw [← hmg] at hnb3
                                have H9 := Lib.hid (H8.out.nodes (grownBy_setCell _ _ _ _) hnb3 (by rw [length_mergeNd]; exact HL.out.tm.len)).drew
                                have hbx := H8.out.unw.2.1
                                simp only [cellsOfEl, prF, List.range, List.range.loop, List.map_cons, List.map_nil] at hbx
                                have hy0 := hbx.cell 1
                                simp only [List.getElem?_cons_zero, List.getElem?_cons_succ] at hy0
                                have i5 : (m3 : Int) < (n : Int) := by omega
                                clear hnb3 hmg hm3 hD hbx
                                go_wp2_with fail
                                go_region
                                go_wp2_with fail
                                go_meet
                                exact H9.out
                              · have b5 : decide (0 ≤ nx2) = false := by simpa using hD
                                have hmg := HMG.out
                                rw [if_neg hD] at hmg
                                have H9 := Lib.hid H8.out
                                rw [← hmg] at H9
                                have hD2 : nx2 < 0 := by omega
                                clear hmg
                                go_wp2_with fail
                                go_meet
                                exact H9.out
                          case rest =>
                            have hM9 := hcut
                            have H9 := Lib.hid hM9
                            have hbx := hM9.unw.2.1
                            simp only [cellsOfEl, prF, List.range, List.range.loop, List.map_cons, List.map_nil] at hbx
                            have hy0 := hbx.cell 1
                            simp only [List.getElem?_cons_zero, List.getElem?_cons_succ] at hy0
                            have hpos : 0 ≤ pid := by have := HPID.out; omega
                            have hix1 := HTOP.out.1
                            have hch := HL.out.mq.ch.merge HTOP.out.1 hpos
                            rw [← HTOP.out.2.1] at hch
                            have hlenC : (c.eraseIdx (ix + 1)).length + 1 = c.length := by
                              have := HTOP.out.1
                              rw [List.length_eraseIdx]; split <;> omega
                            have hsmq : ∀ p ∈ q, SmallP p := fun p hp => small_of HF.out (n := nd.length) (by rw [HL.out.tm.len]; exact hn) (HL.out.mq.qi.ok p (HP4.out.mem_iff.mpr (by simp [hp])))
                            have hql := HP4.out.length_eq
                            have hbn := HL.out.mq.bnd
                            rw [HBN.out] at hbn
                            simp only [List.length_cons] at hql
                            have hid3 : ∀ i, i < (mergeNd nd pl pid).length → (ndAt (mergeNd nd pl pid) i).id < 65536 := fun i hi => by
                              rw [length_mergeNd] at hi
                              have h1 := HL.out.mq.hi i hi
                              have h2 := HL.out.mq.hi _ (HL.out.mq.ch.lt (ix + 1) HTOP.out.1)
                              rw [HTOP.out.2.1, mergeNd_at HL.out.mq.ch HTOP.out.1]
                              have := HPID.out
                              split
                              · show pid < 65536; omega
                              · split
                                · show (-1 : Int) < 65536; omega
                                · split
                                  · show (ndAt nd i).id < 65536; omega
                                  · omega
                            have HC1 := Lib.hid (look_all (Wch bp2 ⟨rk, pl, fi, se, pid⟩) (TS ge fv bv) w B ge gm be bl bq fv' D kk F gl ck n wc (mergeNd nd pl pid) a q H9.out HF.out hn (c.eraseIdx (ix + 1)) hch.1 hid3 (pl : Int) (.inr ⟨ix, by omega, by rw [er_lt (by omega), ← HTOP.out.2.1]⟩) (by omega) hsmq HL.out.hq)
                            have HCH := Lib.hid hch
                            have HID3 := Lib.hid hid3
                            clear hM9 hbx hch hsmq hql hbn hid3 hpos hix1 hcut
                            go_wp2_with fail
                            refine HC1.out.mono ?_
                            rintro e w10 ⟨rfl, a10, q10, hM10, hh10, hp10⟩
                            have H10 := Lib.hid hM10
                            have HP10 := Lib.hid (And.intro hh10 hp10)
                            clear hM10 hh10 hp10 HC1 hy0
                            have hxl := H10.out.cell hpln (j := 2) (by omega)
                            unfold ndF at hxl
                            obtain ⟨la, hla⟩ : ∃ x, x = (ndAt (mergeNd nd pl pid) pl).last := ⟨_, rfl⟩
                            have hla2 : la = -1 ∨ ∃ j, j < (c.eraseIdx (ix + 1)).length ∧ la = ((c.eraseIdx (ix + 1)).getD j 0 : Nat) := by
                              have hix1 := HTOP.out.1
                              by_cases hi0 : ix = 0
                              · left
                                have h0 := HCH.out.1.last0
                                have hf := HL.out.mq.ch.first
                                rw [hla, HTOP.out.2.1, hi0, hf]
                                rw [HTOP.out.2.1, hi0, hf] at h0
                                exact h0
                              · right
                                have h0 := HCH.out.1.last (ix - 1) (by omega)
                                rw [show ix - 1 + 1 = ix by omega, er_lt (by omega : ix < ix + 1), ← HTOP.out.2.1, ← hla] at h0
                                exact ⟨ix - 1, by omega, h0⟩
                            have HLA := Lib.hid hla
                            have hsmq : ∀ p ∈ q10, SmallP p := fun p hp => by
                              rcases List.mem_append.mp (HP10.out.2.mem_iff.mp hp) with h9 | h9
                              · exact small_of HF.out (n := nd.length) (by rw [HL.out.tm.len]; exact hn) (HL.out.mq.qi.ok p (HP4.out.mem_iff.mpr (by simp [h9])))
                              · exact small_of HF.out (n := (mergeNd nd pl pid).length) (by rw [length_mergeNd, HL.out.tm.len]; exact hn) (lookP_ok HCH.out.1 (Option.mem_toList.mp h9) ⟨ix, by have := HTOP.out.1; omega, by rw [er_lt (by omega), ← HTOP.out.2.1]⟩)
                            have hq10l : q10.length < 999999 := by
                              have h1 := HP10.out.2.length_eq
                              have h2 := HP4.out.length_eq
                              have h3 := HL.out.mq.bnd
                              rw [HBN.out] at h3
                              have h4 : ∀ o : Option Pr, o.toList.length ≤ 1 := fun o => by cases o <;> simp
                              have h5 := h4 (lookP (fget F) (mergeNd nd pl pid) (pl : Int))
                              simp only [List.length_append, List.length_cons] at h1 h2
                              omega
                            have HC2 := Lib.hid (look_all (Wch bp2 ⟨rk, pl, fi, se, pid⟩) (TS ge fv bv) w B ge gm be bl bq fv' D kk F gl ck n w10 (mergeNd nd pl pid) a10 q10 H10.out HF.out hn (c.eraseIdx (ix + 1)) HCH.out.1 HID3.out la hla2 hq10l hsmq HP10.out.1)
                            rw [← hla] at hxl
                            clear hla hla2 hsmq hq10l
                            go_wp2_with fail
                            refine HC2.out.mono ?_
                            rintro e w11 ⟨rfl, a11, q11, hM11, hh11, hp11⟩
                            have H11 := Lib.hid hM11
                            have HP11 := Lib.hid (And.intro hh11 hp11)
                            clear hM11 hh11 hp11 HC2 hxl
                            go_wp2_with fail
                            have hfin : MQ (fget F) 1280 (bytesI s) (mergeNd nd pl pid) (c.eraseIdx (ix + 1)) q11 ∧ q11.length + 2 * (c.eraseIdx (ix + 1)).length < qq.length + 2 * c.length := by
                              have hpd := HPID.out
                              have h9 := HL.out.mq.merge (p := ⟨rk, pl, fi, se, pid⟩) (q2 := q11) HP4.out HTOP.out.1 (by show (pl : Int) = _; rw [← HTOP.out.2.1]) HTOP.out.2.2 (by show 0 ≤ pid; omega) (by show pid < 1280; omega) ?_ HP11.out.1
                              · rw [← HTOP.out.2.1] at h9
                                exact h9
                              · rw [← HTOP.out.2.1]
                                show q11.Perm (q ++ ((lookP (fget F) (mergeNd nd pl pid) (pl : Int)).toList ++ (lookP (fget F) (mergeNd nd pl pid) (ndAt (mergeNd nd pl pid) pl).last).toList))
                                rw [← HLA.out, ← List.append_assoc]
                                exact HP11.out.2.trans (HP10.out.2.append_right _)
                            have HFIN := Lib.hid hfin
                            clear hfin
                            go_meet
                            exact ⟨_, _, a11, q11, H11.out, HFIN.out.1, HFIN.out.2⟩
                      · as_aux_lemma =>
                          have b3 : (id2 != se) = true := by simpa using hC
                          have hnc : ¬ isCur nd ⟨rk, pl, fi, se, pid⟩ := fun h9 => by
                            have h8 : (ndAt nd (ndAt nd pl).next.toNat).id = se := h9.2.2
                            rw [← HID.out.2, Int.toNat_natCast, ← hid2] at h8
                            exact hC h8
                          have hst := HL.out.mq.stale HP4.out HL.out.hq hnc
                          have HST := Lib.hid hst
                          clear hA hB2 hC hnc hst hj hj1 hje hgn hid2
                          go_wp2_with fail
                          go_quiet (fail)
                          go_wp2_with fail
                          go_meet
                          exact ⟨nd, c, a, q, HW.out.drewN _, HST.out, by have := HP4.out.length_eq; simp at this; omega⟩
                  · as_aux_lemma =>
                      have b1 : (id0 != fi) = true := by simpa using hA
                      have hnc : ¬ isCur nd ⟨rk, pl, fi, se, pid⟩ := fun h9 => hA (by rw [HID.out.1]; exact h9.1)
                      have hst := HL.out.mq.stale HP4.out HL.out.hq hnc
                      have HST := Lib.hid hst
                      clear hA hnc hst
                      go_wp2_with fail
                      go_quiet (fail)
                      go_wp2_with fail
                      go_meet
                      exact ⟨nd, c, a, q, HW.out.drewN _, HST.out, by have := HP4.out.length_eq; simp at this; omega⟩
                case rest =>
                  obtain ⟨nd2, c2, a2, q2, hT2, hM2, hlt2⟩ := hcut
                  have HT3 := Lib.hid hT2
                  have HM3 := Lib.hid hM2
                  have HLT := Lib.hid hlt2
                  have hbq := HL.out.bpq
                  obtain ⟨hT4, hbx4, hba4⟩ := hT2.unw
                  have hLd : (loadPr (.pointer (some ⟨bp2, 0, none⟩))).run Try.prog wc = .ok (prV ⟨rk, pl, fi, se, pid⟩) wc := load_range (fun j v hv => by rw [Nat.zero_add, hbx4.cell]; exact hv)
                  have hs0 := store_new (W := wc) ⟨rk, pl, fi, se, pid⟩
                  have hwl := hT2.qb.lt
                  have hT5 := (hT4.alloc (.cells (cellsOfEl 4 prF ⟨rk, (pl : Int), fi, se, pid⟩).toArray 178)).wch (Blk.new wc 178 (cellsOfEl 4 prF ⟨rk, (pl : Int), fi, se, pid⟩)) hwl (fun e => by have := (hT4.qb.own.lt _ e).2; omega)
                  have hsm2 : ∀ p ∈ q2, SmallP p := fun p hp => small_of HF.out (n := nd2.length) (by rw [hT2.len]; exact hn) (hM2.qi.ok p hp)
                  have hq2l : q2.length < 1000000 := by
                    have h1 := hM2.bnd
                    have h2 := HBN.out
                    omega
                  obtain ⟨bp3, hbp3⟩ : ∃ bp, bp = wc.heap.size := ⟨_, rfl⟩
                  have HBQ := Lib.hid (show bq < bp3 by omega)
                  rw [← hbp3] at hT5
                  have HTK := Lib.hid (take_all (Wch bp3 ⟨rk, (pl : Int), fi, se, pid⟩) bq _ _ a2 q2 hq2l hsm2 hM2.hp hT5.qb)
                  have HT5 := Lib.hid hT5
                  have HBP := Lib.hid hbp3
                  unfold zero4 prV at hs0
                  unfold prV at hLd
                  simp only [cellsOfEl, prF, List.range, List.range.loop, List.map_cons, List.map_nil] at hs0 HTK HT5
                  clear hT2 hM2 hlt2 hT4 hbx4 hba4 hT5 hsm2 hq2l hbq hwl hbp3
                  go_wp2_with fail
                  rw [← HBP.out]
                  refine HTK.out.mono ?_
                  rintro e w9 ⟨p3, is3, a3, q3, rfl, hq3, hh3, hst3⟩
                  obtain ⟨hs9, hL9⟩ := LS.next (p := p3) (is := is3) (HT5.out.put hq3) HBQ.out HM3.out hh3 hst3
                  have HL9 := Lib.hid hL9
                  clear hq3 hh3 hst3 HTK hL9 hs0 hLd
                  unfold prV at hs9 ⊢
                  simp only [cellsOfEl, prF, List.range, List.range.loop, List.map_cons, List.map_nil] at hs9 HL9
                  go_wp2_with fail
                  go_roundw
                  case rel => exact ⟨bp3, p3, is3, nd2, c2, a3, q3, q2, rfl, rfl, HL9.out⟩
                  case measure =>
                    rw [HL9.out.meas, HL.out.meas]
                    exact HLT.out
        case rest =>
          obtain ⟨nd, c, a, hM, hQ⟩ := hcut
          have hr : mergeF (fget F) 1280 (bytesI s) = some (idsC nd c) := hQ.done
          have HR := Lib.hid hr
          have H := Lib.hid hM
          have HC := Lib.hid hQ.ch
          have hcn : c.length ≤ 400000 := by have := hQ.bnd; have := HBN.out; omega
          obtain ⟨i3, hi3, hz3, hsz3, hbt3⟩ := info_parts info3
          obtain ⟨cn, hcn'⟩ : ∃ x, x = c.length := ⟨_, rfl⟩
          rw [← hcn'] at hcn
          have HCN := Lib.hid hcn'
          have hids : (idsC nd c).length = cn := by rw [length_idsC, hcn']
          have HIDS := Lib.hid hids
          clear hM hQ hcn' hids HMM0 HMQ0 hr
          have hx0 := H.out.box
          have i0 : decide ((0 : Int) < (n : Int)) = true := by have := HNM.out; simp; omega
          have i0n : decide (0 < n) = true := by have := HNM.out; simp; omega
          as_aux_lemma =>
            go_upto_block 7 with (fail)
            go_wp2_with fail
            go_loopw [15, 16] (fun v i wq => ∃ (j : Nat) (x : Int), j ≤ cn ∧ i = .int .i64 x ∧ (j < cn ∧ x = (c.getD j 0 : Nat) ∨ j = cn ∧ x = -1) ∧ wq.ownsRow wc.heap.size 3 1 v j (numsV .i64 ((idsC nd c).take j)) ∧ Below wc.heap.size wc wq) (fun v _ _ => cn - lenOf v)
            case atStart => exact ⟨0, 0, by omega, rfl, .inl ⟨by rw [HCN.out]; exact HC.out.pos, by rw [HC.out.first]; rfl⟩, World.ownsRow_nil _ _ _ _, Below.refl _ _⟩
            case round =>
              obtain ⟨j, x, hj, rfl, hjx, hown, hbel⟩ := hrel
              have HO := Lib.hid hown
              have HBL := Lib.hid hbel
              obtain ⟨A, cp, rfl⟩ := own_sl hown
              have hsz := hbel.size
              rcases hjx with ⟨hjl, rfl⟩ | ⟨rfl, rfl⟩
              · obtain ⟨cj, hcj⟩ : ∃ x, x = c.getD j 0 := ⟨_, rfl⟩
                rw [← hcj]
                have hcl := HC.out.lt j (by rw [← HCN.out]; exact hjl)
                rw [H.out.len, ← hcj] at hcl
                have H2 := Lib.hid (H.out.go hbel)
                have hx1 := H2.out.box
                have hx2 := H2.out.cell hcl (j := 0) (by omega)
                unfold ndF at hx2
                simp only [Nat.add_zero] at hx2
                obtain ⟨u, hu⟩ : ∃ u, u = (ndAt nd cj).id := ⟨_, rfl⟩
                obtain ⟨nx, hnx⟩ : ∃ u, u = (ndAt nd cj).next := ⟨_, rfl⟩
                rw [← hu] at hx2
                have hnj : j + 1 < cn ∧ nx = (c.getD (j + 1) 0 : Nat) ∨ j + 1 = cn ∧ nx = -1 := by
                  by_cases h9 : j + 1 < cn
                  · exact .inl ⟨h9, by rw [hnx, hcj]; exact HC.out.next j (by rw [← HCN.out]; exact h9)⟩
                  · exact .inr ⟨by omega, by rw [hnx, hcj]; exact HC.out.nextEnd j (by rw [← HCN.out]; omega)⟩
                have HNJ := Lib.hid hnj
                have HU := Lib.hid (And.intro hu (And.intro hnx hcj))
                have i1 : (cj : Int) < (n : Int) := by omega
                clear hnj hu hnx hcj
                go_wp2_with (first
                  | (at_builtin; refine wpList_app1 wc _ rfl (.tmp 161) (.tmp 167) 32 rfl wc.heap.size 3 i3 _ 8 Try.underlying32 hi3 hz3 hsz3 hbt3 rfl _ j (numsV .i64 ((idsC nd c).take j)) rfl (HO.out.alloc _) (HBL.out.alloc hsz _) (.int .i64 u) _ rfl (by go_simp) rfl (by omega) (by unfold maxLen; omega) (by have := hsz; simp; omega) ?_; intro v1 w11 hown1 hb1 hg1
                     have H3 := Lib.hid (H.out.go hb1)
                     have e1 := H3.out.box
                     have e2 := H3.out.cell hcl (j := 1) (by omega)
                     unfold ndF at e2
                     simp only [← HU.out.2.1] at e2))
                obtain ⟨A1, cp1, rfl⟩ := own_sl hown1
                go_roundw
                case rel =>
                  refine ⟨j + 1, nx, by omega, rfl, HNJ.out, ?_, hb1⟩
                  rw [getD_take _ _ (by rw [HIDS.out]; exact hjl), numsV_snoc, idsC_getD (by rw [← HCN.out]; exact hjl), ← HU.out.2.2, ← HU.out.1]
                  exact hown1
                case measure => simp [lenOf]; omega
              · have hfull : wr.ownsRow wc.heap.size 3 1 (.slice A j cp) j (numsV .i64 (idsC nd c)) := by
                  rw [List.take_of_length_le (by rw [HIDS.out]; exact Nat.le_refl _)] at hown
                  exact hown
                have hH7 := H.out.go hbel
                have hT7 := hH7.toT1 HT2.out
                have HT7 := Lib.hid hT7
                have q5 := hT7.lb.cell 0
                have e5 := hT7.eb.cell 0
                simp only [List.getElem?_cons_zero] at q5 e5
                have HF7 := Lib.hid (own_base hfull (show w.heap.size ≤ wc.heap.size from H.out.kept.size))
                have HNB := Lib.hid (show (Value.slice (some ⟨gl, 0, none⟩) n ck).ownBlock ≠ (Value.slice A j cp).ownBlock from fun e9 => by
                  have h1 := (hfull.lt gl e9.symm).1
                  have h2 := (H.out.no.lt gl rfl).2
                  omega)
                clear hfull hown hbel hH7 hT7
                go_wp2_with fail
                refine (back_any wr B ge gm kk n fv' (.slice (some ⟨gl, 0, none⟩) n ck) _ D F HT7.out.eg HT7.out.no (fun k hk => ⟨(HT7.out.vs k hk).2.1, (HT7.out.vs k hk).2.2.1, (HT7.out.vs k hk).2.2.2.2.2⟩) (by have := HT7.out.kept.size; omega)).mono ?_
                rintro e w6 ⟨fv2, rfl, hb6, he6, h26⟩
                have HB6 := Lib.hid (And.intro hb6 (And.intro he6 h26))
                clear hb6 he6 h26
                go_wp2_with fail
                go_returns
                have hd := HT7.out.done (o := idsC nd c) (A := A) (c := cp) HF1.out HB6.out.1 HB6.out.2.1 HB6.out.2.2 HR.out (by rw [HIDS.out]; exact HF7.out) (.inl (by rw [HIDS.out]; exact HNB.out))
                rw [HIDS.out] at hd
                exact hd
end Go.Proofs.Ytfjgfabochiflaa.H14
