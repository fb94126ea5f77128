/- A tree of an expression, laid open. -/
import Derived.Test.YtfjgfabochiflaaRows
import Derived.Test.YtfjgfabochiflaaRow
import Derived.Test.YtfjgfabochiflaaNfaTc
import Derived.Lib.SmallJoins
import Derived.Deep.Strs
namespace Go.Proofs.Ytfjgfabochiflaa
open Go.RowKit Go.ChangeShapes Go.WideShapes Go.ChangeAt Go.Deep Go.Joins

theorem u64w_of {x : Int} (h : (Lit.int .u64 x).wf = true) : U64w x := by
  have h1 : IntKind.u64.min = 0 := by decide
  have h2 : IntKind.u64.max = 18446744073709551615 := by decide
  simp only [Lit.wf, Bool.and_eq_true, decide_eq_true_eq, h1, h2] at h
  unfold U64w
  omega
theorem Try.own : ownKnob Try.prog.godebug = none := by kernel_rfl
theorem Try.laidOut : laidOutB Try.prog = true := by kernel_rfl
theorem cells3 : Try.prog.cellsOf 3 = 1 := by kernel_rfl
theorem cells22 : Try.prog.cellsOf 23 = 1 := by kernel_rfl
theorem cells23 : Try.prog.cellsOf 24 = 4 := by kernel_rfl
theorem cells25 : Try.prog.cellsOf 26 = 4 := by kernel_rfl
theorem cells26 : Try.prog.cellsOf 27 = 1 := by kernel_rfl
theorem cells28 : Try.prog.cellsOf 29 = 8 := by kernel_rfl
theorem bytes28 : Try.prog.bytesOf 29 = 80 := by kernel_rfl
theorem under28 : ∃ f0 f1 f2 f3 f4 : Field, Try.prog.underlying 29 = some (.struct #[f0, f1, f2, f3, f4]) ∧ (f0.type = 3 ∧ f1.type = 26 ∧ f2.type = 3 ∧ f3.type = 3 ∧ f4.type = 27) ∧ f0.offset = 0 ∧ f1.offset = 1 ∧ f2.offset = 5 ∧ f3.offset = 6 ∧ f4.offset = 7 := ⟨_, _, _, _, _, Try.underlying29, ⟨rfl, rfl, rfl, rfl, rfl⟩, rfl, rfl, rfl, rfl, rfl⟩
theorem under25 : ∃ f0 : Field, Try.prog.underlying 26 = some (.struct #[f0]) ∧ f0.type = 24 ∧ f0.offset = 0 := ⟨_, Try.underlying26, rfl, rfl⟩
theorem list5 {α : Type} {l : List α} (h : l.length = 5) : ∃ a b c d e, l = [a, b, c, d, e] := by
  match l, h with
  | [a, b, c, d, e], _ => exact ⟨a, b, c, d, e, rfl⟩
theorem list8 {α : Type} {l : List α} (h : l.length = 8) : ∃ a b c d e f g i, l = [a, b, c, d, e, f, g, i] := by
  match l, h with
  | [a, b, c, d, e, f, g, i], _ => exact ⟨a, b, c, d, e, f, g, i, rfl⟩

section
variable {H : Type} {enc : TypeId × Value → H} {w : World} {base : Nat} {spare : Nat → Bool} {held : Bool}
set_option maxRecDepth 100000 in
set_option maxRecDepth 100000 in
set_option maxRecDepth 100000 in
/-- as open_sl, but only smaller fuel is asked of the elements -/
theorem open_slF {t e : TypeId} {size : Nat} {α : Type} {R : World → List Value → α → Prop} (ht : Try.prog.underlying t = some (.slice e)) (hC : Try.prog.cellsOf e = size) (hpos : 0 < size)
    {fuel : Nat} {cs : List Value} {x : DataW H × List MemPlace}
    (he : ∀ (n : Nat), n < fuel → ∀ (cs : List Value) (x : DataW H × List MemPlace), DataW.trod enc Try.prog w base spare held n e cs = some x → Wt Try.prog e x.1 → ∃ a, R w cs a)
    (h : DataW.trod enc Try.prog w base spare held fuel t cs = some x) (hw : Wt Try.prog t x.1) :
    ∃ A n c xs, cs = [.slice A n c] ∧ SlR w R size A n xs ∧ n * Try.prog.bytesOf e ≤ reachBytes := by
  rcases DataW.trod_slice ht h with ⟨rfl, rfl⟩ | ⟨a, len, cap, elems, rest, n, hf, rfl, rfl, _, hl, hm, hlen, hel, _, _⟩
  · exact ⟨none, 0, 0, [], rfl, ⟨rfl, fun h => absurd h (by omega)⟩, by simp⟩
  · rw [hC] at hel
    obtain ⟨hw1, hw2⟩ := hw.slice ht
    obtain ⟨xs, hxl, hx⟩ := list_of_all (Q := fun i (b : α) => ∃ cs', cs'.length = size ∧ (∀ j, j < size → w.cell? ((a.add (i * size)).add j) = cs'[j]?) ∧ R w cs' b) len (fun i hi' => by
      have h1 := hel i hi'
      rw [List.getElem?_eq_getElem (by omega)] at h1
      cases hc : w.cells? base (a.add (i * size)) size with
      | none => rw [hc] at h1; cases h1
      | some cs' =>
        rw [hc] at h1
        obtain ⟨a', ha'⟩ := he n (by omega) cs' _ h1 (hw2 _ (List.mem_map.2 ⟨elems[i], List.getElem_mem _, rfl⟩))
        obtain ⟨_, h2, h3⟩ := World.cells?_some hc
        exact ⟨a', cs', h2, h3, ha'⟩)
    refine ⟨some a, len, cap, xs, rfl, ⟨hxl, fun hn => ?_⟩, Nat.le_trans (Nat.mul_le_mul_right _ (by simp; omega)) hw1⟩
    obtain ⟨b, off, spot⟩ := a
    have hspot : spot = none := by
      obtain ⟨cs', h1, h2, _⟩ := hx 0 (by omega)
      have h3 := h2 0 hpos
      have h4 : cs'[0]? = some cs'[0] := List.getElem?_eq_getElem (by omega)
      rw [h4] at h3
      simpa [Addr.add] using World.cell?_spot h3
    subst hspot
    refine ⟨b, off, rfl, fun k hk => ?_⟩
    obtain ⟨cs', h1, h2, h3⟩ := hx k hk
    refine ⟨cs', h1, fun j hj => ?_, h3⟩
    rw [← h2 j hj, add_of_add]
    congr 1
    unfold Addr.add
    split <;> simp_all

/-- a node's cells -/
def ReR (w : World) (cs : List Value) (t : Tr) : Prop := ∃ A n c, cs = reV t A n c ∧ TrIn w t A n ∧ TrWf t
theorem tr_of_kids {k s0 s1 s2 s3 lo hi : Int} {A : Option Addr} {n : Nat} {xs : List Tr} (hs : SlR w ReR 8 A n xs) (hn : n ≤ 140737488355328) (h0 : U64w s0) (h1 : U64w s1) (h2 : U64w s2) (h3 : U64w s3) :
    TrIn w (.mk k s0 s1 s2 s3 lo hi xs) A n ∧ TrWf (.mk k s0 s1 s2 s3 lo hi xs) := by
  have hlen : xs.length = n := hs.1
  have key : ∀ i, i < xs.length → ∃ q : Option Addr × Nat × Nat, TrIn w (xs.getD i noTr) q.1 q.2.1 ∧ TrWf (xs.getD i noTr) ∧ ∀ b off, A = some ⟨b, off, none⟩ → ∀ j, j < 8 → w.cell? ⟨b, off + (i * 8 + j), none⟩ = (reV (xs.getD i noTr) q.1 q.2.1 q.2.2)[j]? := fun i hi => by
    obtain ⟨b, off, hA, hx⟩ := hs.2 (by omega)
    obtain ⟨cs, hcl, hc, A', n', c', hcs, ht, hwf⟩ := hx i hi
    have e : xs.getD i noTr = xs[i] := by simp [hi]
    refine ⟨(A', n', c'), by rw [e]; exact ht, by rw [e]; exact hwf, fun b' off' hA' j hj => ?_⟩
    rw [hA] at hA'
    cases hA'
    rw [hc j hj, hcs, e]
  obtain ⟨qs, hql, hq⟩ := list_of_all xs.length key
  have hqd : ∀ i, i < xs.length → TrIn w (xs.getD i noTr) (qs.getD i (none, 0, 0)).1 (qs.getD i (none, 0, 0)).2.1 ∧ TrWf (xs.getD i noTr) ∧ ∀ b off, A = some ⟨b, off, none⟩ → ∀ j, j < 8 → w.cell? ⟨b, off + (i * 8 + j), none⟩ = (reV (xs.getD i noTr) (qs.getD i (none, 0, 0)).1 (qs.getD i (none, 0, 0)).2.1 (qs.getD i (none, 0, 0)).2.2)[j]? := fun i hi => by
    have := hq i (by omega)
    have e : qs.getD i (none, 0, 0) = qs[i]'(by omega) := by simp [show i < qs.length by omega]
    rw [e]
    exact this
  refine ⟨.mk (fun i => (qs.getD i (none, 0, 0)).1) (fun i => (qs.getD i (none, 0, 0)).2.1) (fun i => (qs.getD i (none, 0, 0)).2.2) hlen hn ?_ (fun i hi => (hqd i (by omega)).1), .mk h0 h1 h2 h3 (fun x hx => ?_)⟩
  · intro hn0
    obtain ⟨b, off, hA, hx⟩ := hs.2 hn0
    have hcell : ∀ i j, i < n → j < 8 → w.cell? ⟨b, off + (i * 8 + j), none⟩ = some (ReC xs (fun i => (qs.getD i (none, 0, 0)).1) (fun i => (qs.getD i (none, 0, 0)).2.1) (fun i => (qs.getD i (none, 0, 0)).2.2) i j) := fun i j hi hj => by
      rw [(hqd i (by omega)).2.2 b off hA j hj]
      unfold ReC
      rw [List.getD_eq_getElem?_getD (l := reV _ _ _ _), List.getElem?_eq_getElem (show j < (reV (xs.getD i noTr) (qs.getD i (none, 0, 0)).1 (qs.getD i (none, 0, 0)).2.1 (qs.getD i (none, 0, 0)).2.2).length from hj)]
      simp
    exact ⟨b, off, hA, by have := World.block_lt_of_cell? _ _ (hcell 0 0 hn0 (by omega)); simpa using this, hcell⟩
  · obtain ⟨i, hi, rfl⟩ := List.getElem_of_mem hx
    have hi : i < xs.length := hi
    have := (hqd i hi).2.1
    have e : xs.getD i noTr = xs[i] := by simp [hi]
    rwa [e] at this
theorem open_i64 {n : Nat} {c : Value} {y : DataW H × List MemPlace} (h : DataW.trod enc Try.prog w base spare held n 3 [c] = some y) : ∃ a, c = .int .i64 a := by
  obtain ⟨a, e, _, _⟩ := DataW.trod_int Try.underlying3 h
  simp only [List.cons.injEq, and_true] at e
  exact ⟨a, e⟩
theorem open_u64 {n : Nat} {c : Value} {y : DataW H × List MemPlace} (h : DataW.trod enc Try.prog w base spare held n 23 [c] = some y) : ∃ a, c = .int .u64 a ∧ U64w a := by
  obtain ⟨a, e, _, hw⟩ := DataW.trod_int Try.underlying23 h
  simp only [List.cons.injEq, and_true] at e
  exact ⟨a, e, u64w_of hw⟩
theorem open_set {n : Nat} {c0 c1 c2 c3 : Value} {y : DataW H × List MemPlace} (h : DataW.trod enc Try.prog w base spare held n 26 [c0, c1, c2, c3] = some y) :
    ∃ a b c d, c0 = .int .u64 a ∧ c1 = .int .u64 b ∧ c2 = .int .u64 c ∧ c3 = .int .u64 d ∧ U64w a ∧ U64w b ∧ U64w c ∧ U64w d := by
  obtain ⟨f0, hu, t0, o0⟩ := under25
  obtain ⟨xs, m, _, rfl, hl, hlen, hf⟩ := DataW.trod_struct hu h
  have h0 := hf 0 f0 rfl
  rw [t0, o0, cells23] at h0
  match xs, hlen with
  | [y0], _ =>
    obtain ⟨ys, m2, _, _, _, hyl, hi⟩ := DataW.trod_array Try.underlying24 (show DataW.trod enc Try.prog w base spare held m 24 [c0, c1, c2, c3] = some y0 by simpa using h0)
    rw [cells22] at hi
    have i0 := hi 0 (by omega)
    have i1 := hi 1 (by omega)
    have i2 := hi 2 (by omega)
    have i3 := hi 3 (by omega)
    rw [List.getElem?_eq_getElem (by omega)] at i0 i1 i2 i3
    obtain ⟨s0, d0, w0⟩ := open_u64 (c := c0) (by simpa using i0)
    obtain ⟨s1, d1, w1⟩ := open_u64 (c := c1) (by simpa using i1)
    obtain ⟨s2, d2, w2⟩ := open_u64 (c := c2) (by simpa using i2)
    obtain ⟨s3, d3, w3⟩ := open_u64 (c := c3) (by simpa using i3)
    exact ⟨s0, s1, s2, s3, d0, d1, d2, d3, w0, w1, w2, w3⟩
set_option maxRecDepth 100000 in
theorem open_re : ∀ (fuel : Nat) (cs : List Value) (x : DataW H × List MemPlace), DataW.trod enc Try.prog w base spare held fuel 29 cs = some x → Wt Try.prog 29 x.1 → ∃ t, ReR w cs t := fun fuel => by
  induction fuel using Nat.strongRecOn with
  | ind fuel ih =>
    intro cs x h hw
    obtain ⟨f0, f1, f2, f3, f4, hu, ⟨t0, t1, t2, t3, t4⟩, o0, o1, o2, o3, o4⟩ := under28
    obtain ⟨xs, m, hfu, rfl, hl, hlen, hf⟩ := DataW.trod_struct hu h
    rw [cells28] at hl
    obtain ⟨c0, c1, c2, c3, c4, c5, c6, c7, rfl⟩ := list8 hl
    obtain ⟨y0, y1, y2, y3, y4, rfl⟩ := list5 hlen
    have h0 := hf 0 f0 rfl
    have h1 := hf 1 f1 rfl
    have h2 := hf 2 f2 rfl
    have h3 := hf 3 f3 rfl
    have h4 := hf 4 f4 rfl
    have w4 := hw.struct hu (j := 4) (f := f4) (d := y4.1) rfl rfl
    rw [t0, o0, cells3] at h0
    rw [t1, o1, cells25] at h1
    rw [t2, o2, cells3] at h2
    rw [t3, o3, cells3] at h3
    rw [t4, o4, cells26] at h4
    rw [t4] at w4
    obtain ⟨a0, rfl⟩ := open_i64 (c := c0) (y := y0) (by simpa using h0)
    obtain ⟨s0, s1, s2, s3, rfl, rfl, rfl, rfl, u0, u1, u2, u3⟩ := open_set (c0 := c1) (c1 := c2) (c2 := c3) (c3 := c4) (y := y1) (by simpa using h1)
    obtain ⟨a2, rfl⟩ := open_i64 (c := c5) (y := y2) (by simpa using h2)
    obtain ⟨a3, rfl⟩ := open_i64 (c := c6) (y := y3) (by simpa using h3)
    obtain ⟨A, n, c, ts, e4, hsl, hr⟩ := open_slF (R := ReR) (fuel := m) Try.underlying27 cells28 (by omega) (fun n hn cs x => ih n (by omega) cs x) (show DataW.trod enc Try.prog w base spare held m 27 [c7] = some y4 by simpa using h4) w4
    simp only [List.cons.injEq, and_true] at e4
    subst e4
    rw [bytes28] at hr
    simp only [reachBytes] at hr
    obtain ⟨h8, h9⟩ := tr_of_kids (k := a0) (lo := a2) (hi := a3) hsl (by omega) u0 u1 u2 u3
    exact ⟨.mk a0 s0 s1 s2 s3 a2 a3 ts, A, n, c, rfl, h8, h9⟩
set_option maxRecDepth 100000 in
theorem open_tree {r : Reach} {b0 : Nat} {v : Value} {d : DataW H} {p : List MemPlace}
    (hv : Value.okWide Try.prog w r b0 29 v) (h : DataW.Trod enc Try.prog w base spare held 29 v d p) (hw : Wt Try.prog 29 d) :
    ∃ (t : Tr) (A : Option Addr) (n c : Nat), v = .agg #[.int .i64 t.kind, .int .u64 t.s0, .int .u64 t.s1, .int .u64 t.s2, .int .u64 t.s3, .int .i64 t.lo, .int .i64 t.hi, .slice A n c] ∧ TrIn w t A n ∧ TrWf t := by
  obtain ⟨f0, f1, f2, f3, f4, hu, _⟩ := under28
  obtain ⟨cs, rfl, hsz⟩ := okWide_struct hu hv
  obtain ⟨fuel, hf⟩ := h
  obtain ⟨t, A, n, c, hcs, h1, h2⟩ := open_re fuel _ _ hf hw
  refine ⟨t, A, n, c, ?_, h1, h2⟩
  have hcs : cs.toList = reV t A n c := by simpa [Value.cells] using hcs
  have : cs = (reV t A n c).toArray := by rw [← hcs]
  rw [this]
  rfl
end
end Go.Proofs.Ytfjgfabochiflaa
