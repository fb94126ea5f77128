/- Open3 of this seat, in one text. -/
import Derived.Test.YtgejpggbmgiocaaM3
import Derived.Test.YtgejpggbmgiocaaM4
import Derived.Test.YtgejpggbmgiocaaM19
import Derived.Test.YtgejpggbmgiocaaM8
import Derived.Test.YtgejpggbmgiocaaM20
/- A program, laid open. -/
namespace Go.Proofs.Ytgejpggbmgiocaa
open Go.RowKit Go.ChangeShapes Go.WideShapes Go.ChangeAt Go.Deep Go.Joins

theorem getD_out {α : Type} (l : List α) (k : Nat) (d : α) (h : l.length ≤ k) : l.getD k d = d := by simp [List.getD, List.getElem?_eq_none h]
theorem cells40 : Try.prog.cellsOf 40 = 5 := by kernel_rfl
theorem cells89 : Try.prog.cellsOf 89 = 2 := by kernel_rfl
theorem cells9 : Try.prog.cellsOf 9 = 1 := by kernel_rfl
theorem cells35 : Try.prog.cellsOf 35 = 10 := by kernel_rfl
theorem cells26 : Try.prog.cellsOf 26 = 1 := by kernel_rfl
theorem cells31 : Try.prog.cellsOf 31 = 1 := by kernel_rfl
theorem cells32 : Try.prog.cellsOf 32 = 1 := by kernel_rfl
theorem cells33 : Try.prog.cellsOf 33 = 1 := by kernel_rfl
theorem bytes40 : Try.prog.bytesOf 40 = 40 := by kernel_rfl
theorem bytes89 : Try.prog.bytesOf 89 = 32 := by kernel_rfl
theorem bytes9 : Try.prog.bytesOf 9 = 16 := by kernel_rfl
def i64b (a : Int) : Prop := -9223372036854775808 ≤ a ∧ a ≤ 9223372036854775807
theorem wf_i64 (a : Int) (h : (Lit.int .i64 a).wf = true) : i64b a := by
  have h1 : IntKind.i64.min = -9223372036854775808 := rfl
  have h2 : IntKind.i64.max = 9223372036854775807 := rfl
  simp only [Lit.wf, Bool.and_eq_true, decide_eq_true_eq, h1, h2] at h
  exact ⟨by omega, by omega⟩
theorem under40 : ∃ f0 f1 f2 f3 f4 : Field, Try.prog.underlying 40 = some (.struct #[f0, f1, f2, f3, f4]) ∧ (f0.type = 3 ∧ f1.type = 3 ∧ f2.type = 3 ∧ f3.type = 3 ∧ f4.type = 3) ∧ (f0.offset = 0 ∧ f1.offset = 1 ∧ f2.offset = 2 ∧ f3.offset = 3 ∧ f4.offset = 4) :=
  ⟨_, _, _, _, _, Try.underlying40, ⟨rfl, rfl, rfl, rfl, rfl⟩, ⟨rfl, rfl, rfl, rfl, rfl⟩⟩
theorem under89 : ∃ f0 f1 : Field, Try.prog.underlying 89 = some (.struct #[f0, f1]) ∧ f0.type = 3 ∧ f1.type = 26 ∧ f0.offset = 0 ∧ f1.offset = 1 :=
  ⟨_, _, Try.underlying89, rfl, rfl, rfl, rfl⟩
theorem under35 : ∃ f0 f1 f2 f3 f4 f5 f6 f7 : Field, Try.prog.underlying 35 = some (.struct #[f0, f1, f2, f3, f4, f5, f6, f7]) ∧ (f0.type = 3 ∧ f1.type = 3 ∧ f2.type = 3 ∧ f3.type = 3 ∧ f4.type = 31 ∧ f5.type = 32 ∧ f6.type = 33 ∧ f7.type = 25) ∧
    (f0.offset = 0 ∧ f1.offset = 1 ∧ f2.offset = 2 ∧ f3.offset = 3 ∧ f4.offset = 4 ∧ f5.offset = 5 ∧ f6.offset = 6 ∧ f7.offset = 7) :=
  ⟨_, _, _, _, _, _, _, _, Try.underlying35, ⟨rfl, rfl, rfl, rfl, rfl, rfl, rfl, rfl⟩, ⟨rfl, rfl, rfl, rfl, rfl, rfl, rfl, rfl⟩⟩
def IntR (_ : World) (cs : List Value) (a : Int) : Prop := cs = [.int .i64 a] ∧ (Lit.int .i64 a).wf = true
def InsR (_ : World) (cs : List Value) (i : Ins) : Prop := cs = [.int .i64 i.op, .int .i64 i.a, .int .i64 i.b, .int .i64 i.c, .int .i64 i.d] ∧ i64b i.b
def TabR (w : World) (cs : List Value) (a : Tbl × Option Addr × Nat) : Prop := cs = [.int .i64 a.1.cols, .slice a.2.1 a.1.data.length a.2.2] ∧ SlR w IntR 1 a.2.1 a.1.data.length a.1.data ∧ a.1.data.length ≤ 140737488355328
def StrR (_ : World) (cs : List Value) (a : ByteArray) : Prop := cs = [.string a] ∧ a.size ≤ 140737488351232
theorem list5 {α : Type} {l : List α} (h : l.length = 5) : ∃ a b c d e, l = [a, b, c, d, e] := by
  match l, h with
  | [a, b, c, d, e], _ => exact ⟨a, b, c, d, e, rfl⟩
theorem list2 {α : Type} {l : List α} (h : l.length = 2) : ∃ a b, l = [a, b] := by
  match l, h with
  | [a, b], _ => exact ⟨a, b, rfl⟩
theorem list8 {α : Type} {l : List α} (h : l.length = 8) : ∃ a b c d e f g i, l = [a, b, c, d, e, f, g, i] := by
  match l, h with
  | [a, b, c, d, e, f, g, i], _ => exact ⟨a, b, c, d, e, f, g, i, rfl⟩
theorem list10 {α : Type} {l : List α} (h : l.length = 10) : ∃ a b c d e f g i j k, l = [a, b, c, d, e, f, g, i, j, k] := by
  match l, h with
  | [a, b, c, d, e, f, g, i, j, k], _ => exact ⟨a, b, c, d, e, f, g, i, j, k, rfl⟩
theorem ints_arr {w : World} {A : Option Addr} {n : Nat} {xs : List Int} (h : SlR w IntR 1 A n xs) : Arr w w.heap.size 1 A n (IntC xs) :=
  h.arr (by omega) _ (fun k hk cs hr _ j hj => by
    obtain ⟨rfl, _⟩ := hr
    obtain rfl : j = 0 := by omega
    simp [IntC, hk])
theorem ints_b {w : World} {A : Option Addr} {n : Nat} {xs : List Int} (h : SlR w IntR 1 A n xs) (k : Nat) : i64b (xs.getD k 0) := by
  by_cases hk : k < xs.length
  · obtain ⟨_, _, _, hx⟩ := h.2 (by rw [← h.1]; omega)
    obtain ⟨cs, _, _, _, hwf⟩ := hx k hk
    simpa [hk] using wf_i64 _ hwf
  · rw [getD_out _ _ _ (by omega)]
    exact ⟨by omega, by omega⟩
section
variable {H : Type} {enc : TypeId × Value → H} {w : World} {base : Nat} {spare : Nat → Bool} {held : Bool}
theorem open_i64 {n : Nat} {c : Value} {y : DataW H × List MemPlace} (h : DataW.trod enc Try.prog w base spare held n 3 [c] = some y) : ∃ a, c = .int .i64 a ∧ (Lit.int .i64 a).wf = true := by
  obtain ⟨a, e, _, hw⟩ := DataW.trod_int Try.underlying3 h
  simp only [List.cons.injEq, and_true] at e
  exact ⟨a, e, hw⟩
theorem open_ins (n : Nat) (cs : List Value) (x : DataW H × List MemPlace) (h : DataW.trod enc Try.prog w base spare held n 40 cs = some x) (_ : Wt Try.prog 40 x.1) : ∃ a, InsR w cs a := by
  obtain ⟨f0, f1, f2, f3, f4, hu, ⟨t0, t1, t2, t3, t4⟩, o0, o1, o2, o3, o4⟩ := under40
  obtain ⟨xs, m, _, rfl, hl, hlen, hf⟩ := DataW.trod_struct hu h
  rw [cells40] at hl
  obtain ⟨c0, c1, c2, c3, c4, rfl⟩ := list5 hl
  obtain ⟨y0, y1, y2, y3, y4, rfl⟩ := list5 hlen
  have h0 := hf 0 f0 rfl
  have h1 := hf 1 f1 rfl
  have h2 := hf 2 f2 rfl
  have h3 := hf 3 f3 rfl
  have h4 := hf 4 f4 rfl
  rw [t0, o0, cells3] at h0
  rw [t1, o1, cells3] at h1
  rw [t2, o2, cells3] at h2
  rw [t3, o3, cells3] at h3
  rw [t4, o4, cells3] at h4
  obtain ⟨a0, rfl, _⟩ := open_i64 (c := c0) (y := y0) (by simpa using h0)
  obtain ⟨a1, rfl, _⟩ := open_i64 (c := c1) (y := y1) (by simpa using h1)
  obtain ⟨a2, rfl, w2⟩ := open_i64 (c := c2) (y := y2) (by simpa using h2)
  obtain ⟨a3, rfl, _⟩ := open_i64 (c := c3) (y := y3) (by simpa using h3)
  obtain ⟨a4, rfl, _⟩ := open_i64 (c := c4) (y := y4) (by simpa using h4)
  exact ⟨⟨a0, a1, a2, a3, a4⟩, rfl, wf_i64 _ w2⟩
theorem open_str (n : Nat) (cs : List Value) (x : DataW H × List MemPlace) (h : DataW.trod enc Try.prog w base spare held n 9 cs = some x) (hw : Wt Try.prog 9 x.1) : ∃ a, StrR w cs a := by
  obtain ⟨s, e, hx, _⟩ := DataW.trod_string Try.underlying9 h
  refine ⟨s, e, ?_⟩
  rw [hx] at hw
  have := hw s.data.toList.length (by simp [DataW.weights])
  simp only [Array.length_toList, reachBytes] at this
  show s.data.size ≤ _
  omega
theorem open_tab (n : Nat) (cs : List Value) (x : DataW H × List MemPlace) (h : DataW.trod enc Try.prog w base spare held n 89 cs = some x) (hw : Wt Try.prog 89 x.1) : ∃ a, TabR w cs a := by
  obtain ⟨f0, f1, hu, t0, t1, o0, o1⟩ := under89
  obtain ⟨xs, m, _, rfl, hl, hlen, hf⟩ := DataW.trod_struct hu h
  rw [cells89] at hl
  obtain ⟨c0, c1, rfl⟩ := list2 hl
  obtain ⟨y0, y1, rfl⟩ := list2 hlen
  have h0 := hf 0 f0 rfl
  have h1 := hf 1 f1 rfl
  have w1 := hw.struct hu (j := 1) (f := f1) (d := y1.1) rfl rfl
  rw [t0, o0, cells3] at h0
  rw [t1, o1, cells26] at h1
  rw [t1] at w1
  obtain ⟨a0, rfl, _⟩ := open_i64 (c := c0) (y := y0) (by simpa using h0)
  obtain ⟨A, n1, c, ys, e1, hsl, _, _, hr⟩ := open_sl (R := IntR) Try.underlying26 cells3 (by omega) (open_num Try.underlying3) (show DataW.trod enc Try.prog w base spare held m 26 [c1] = some y1 by simpa using h1) w1
  simp only [List.cons.injEq, and_true] at e1
  subst e1
  rw [bytes3] at hr
  simp only [reachBytes] at hr
  have hyl : ys.length = n1 := hsl.1
  subst hyl
  exact ⟨(⟨a0, ys⟩, A, c), rfl, hsl, by show ys.length ≤ _; omega⟩
theorem open_hashc {m : Nat} {v0 v1 v2 : Value} {y : DataW H × List MemPlace}
    (h : DataW.trod enc Try.prog w base spare held m 25 [v0, v1, v2] = some y) (hw : Wt Try.prog 25 y.1) :
    ∃ A0 n0 c0 A1 n1 c1 A2 n2 c2 S K V, [v0, v1, v2] = [.slice A0 n0 c0, .slice A1 n1 c1, .slice A2 n2 c2] ∧ HashIn w A0 A1 A2 n0 n1 n2 S K V ∧ Under 18446744073709551616 V := by
  obtain ⟨f0, f1, f2, hu, ht0, ht1, ht2, hone⟩ := under25
  obtain ⟨y0, y1, y2, n, rfl, _, h0, h1, h2⟩ := trod_struct3 hu h
  obtain ⟨o0, k0⟩ := hone_of hone 0 f0 rfl
  obtain ⟨o1, k1⟩ := hone_of hone 1 f1 rfl
  obtain ⟨o2, k2⟩ := hone_of hone 2 f2 rfl
  rw [o0, k0] at h0
  rw [o1, k1] at h1
  rw [o2, k2] at h2
  have w0 := hw.struct hu (j := 0) (f := f0) (d := y0.1) rfl rfl
  have w1 := hw.struct hu (j := 1) (f := f1) (d := y1.1) rfl rfl
  have w2 := hw.struct hu (j := 2) (f := f2) (d := y2.1) rfl rfl
  rw [ht0] at h0 w0
  rw [ht1] at h1 w1
  rw [ht2] at h2 w2
  obtain ⟨A0, n0, c0, S, e0, s0, _, _, r0⟩ := open_sl (R := fun _ cs a => cs = [.int .u32 a] ∧ (Lit.int .u32 a).wf = true) Try.underlying22 cells84 (by omega) (open_num Try.underlying84) h0 w0
  obtain ⟨A1, n1, c1, K, e1, s1, _, _, r1⟩ := open_sl (R := fun _ cs a => cs = [.int .u64 a] ∧ (Lit.int .u64 a).wf = true) Try.underlying23 cells51 (by omega) (open_num Try.underlying51) h1 w1
  obtain ⟨A2, n2, c2, V, e2, s2, _, _, r2⟩ := open_sl (R := fun _ cs a => cs = [.int .u64 a] ∧ (Lit.int .u64 a).wf = true) Try.underlying23 cells51 (by omega) (open_num Try.underlying51) h2 w2
  simp at e0 e1 e2
  subst e0 e1 e2
  rw [bytes84] at r0
  rw [bytes51] at r1 r2
  simp only [reachBytes] at r0 r1 r2
  exact ⟨A0, n0, c0, A1, n1, c1, A2, n2, c2, S, K, V, rfl, ⟨s0.1, s1.1, s2.1, by omega, by omega, by omega, num_under s0 _ (by omega) wf_u32, num_arr s0, num_arr s1, num_arr s2⟩, num_under s2 _ (by omega) wf_u64⟩
/-- a program in memory, its fields and its parts -/
structure ProgIn (w : World) (v : Value) (p : Prog) (S K V : List Int) (prg : List Value) : Prop where
  val : v = .agg prg.toArray
  ex : ∃ v4 v5 v6 v7 v8 v9, prg = [.int .i64 p.grow, .int .i64 p.rest, .int .i64 p.extra, .int .i64 p.signs, v4, v5, v6, v7, v8, v9]
  code : CodeIn w w.heap.size prg p.code
  tabs : TabsIn w w.heap.size prg p.tabs
  texts : TextsIn w w.heap.size prg p.texts
  pairs : PairsIn w w.heap.size prg p.signs S K V
  cb : ∀ k, i64b (p.code.getD k noIns).b
  db : ∀ k j, i64b ((p.tabs.getD k noTbl).data.getD j 0)
  tl : ∀ k, (p.texts.getD k ⟨#[]⟩).size ≤ 140737488351232
theorem code_of {A : Option Addr} {n c : Nat} {xs : List Ins} {prg : List Value} (h : SlR w InsR 5 A n xs) (hn : n ≤ 140737488355328) (h4 : prg[4]? = some (.slice A n c)) : CodeIn w w.heap.size prg xs ∧ ∀ k, i64b (xs.getD k noIns).b := by
  have hl : xs.length = n := h.1
  subst hl
  refine ⟨⟨⟨A, c, h4, h.arr (by omega) _ (fun k hk cs hr _ j hj => ?_)⟩, hn⟩, fun k => ?_⟩
  · obtain ⟨rfl, _⟩ := hr
    have hg : xs.getD k noIns = xs[k] := by simp [hk]
    unfold InsC
    rw [hg]
    have : j = 0 ∨ j = 1 ∨ j = 2 ∨ j = 3 ∨ j = 4 := by omega
    rcases this with rfl | rfl | rfl | rfl | rfl <;> rfl
  · by_cases hk : k < xs.length
    · obtain ⟨_, _, _, hx⟩ := h.2 (by omega)
      obtain ⟨cs, _, _, _, hb⟩ := hx k hk
      simpa [hk] using hb
    · rw [getD_out _ _ _ (by omega)]
      exact ⟨by decide, by decide⟩
theorem tabs_of {A : Option Addr} {n c : Nat} {xs : List (Tbl × Option Addr × Nat)} {prg : List Value} (h : SlR w TabR 2 A n xs) (hn : n ≤ 140737488355328) (h5 : prg[5]? = some (.slice A n c)) :
    TabsIn w w.heap.size prg (xs.map (·.1)) ∧ ∀ k j, i64b (((xs.map (·.1)).getD k noTbl).data.getD j 0) := by
  have hl : xs.length = n := h.1
  subst hl
  have hg : ∀ k, k < xs.length → (xs.map (·.1)).getD k noTbl = (xs.getD k (noTbl, none, 0)).1 := fun k hk => by simp [hk]
  have hx : ∀ k, k < xs.length → ∃ cs, TabR w cs (xs.getD k (noTbl, none, 0)) := fun k hk => by
    obtain ⟨_, _, _, h2⟩ := h.2 (by omega)
    obtain ⟨cs, _, _, h3⟩ := h2 k (by omega)
    exact ⟨cs, by simpa [hk] using h3⟩
  refine ⟨⟨⟨A, c, fun k => (xs.getD k (noTbl, none, 0)).2.1, fun k => (xs.getD k (noTbl, none, 0)).2.2, by simpa using h5, ?_, fun k hk => ?_⟩, by simpa using hn, fun k hk => ?_⟩, fun k j => ?_⟩
  · rw [List.length_map]
    refine h.arr (by omega) _ (fun k hk cs hr _ j hj => ?_)
    obtain ⟨rfl, _⟩ := hr
    unfold TabC
    rw [hg k hk]
    have : j = 0 ∨ j = 1 := by omega
    rcases this with rfl | rfl <;> simp [hk]
  · rw [List.length_map] at hk
    obtain ⟨cs, _, h3, _⟩ := hx k hk
    rw [hg k hk]
    exact ints_arr h3
  · rw [List.length_map] at hk
    obtain ⟨cs, _, _, h3⟩ := hx k hk
    rw [hg k hk]
    exact h3
  · by_cases hk : k < xs.length
    · obtain ⟨cs, _, h3, _⟩ := hx k hk
      rw [hg k hk]
      exact ints_b h3 j
    · rw [getD_out (xs.map (·.1)) k noTbl (by rw [List.length_map]; omega)]
      show i64b (([] : List Int).getD j 0)
      simp [i64b]
theorem texts_of {A : Option Addr} {n c : Nat} {xs : List ByteArray} {prg : List Value} (h : SlR w StrR 1 A n xs) (hn : n ≤ 140737488355328) (h6 : prg[6]? = some (.slice A n c)) : TextsIn w w.heap.size prg xs ∧ ∀ k, (xs.getD k ⟨#[]⟩).size ≤ 140737488351232 := by
  have hl : xs.length = n := h.1
  subst hl
  have htl : ∀ k, (xs.getD k ⟨#[]⟩).size ≤ 140737488351232 := fun k => by
    by_cases hk : k < xs.length
    · obtain ⟨_, _, _, hx⟩ := h.2 (by omega)
      obtain ⟨cs, _, _, _, hb⟩ := hx k hk
      simpa [hk] using hb
    · rw [getD_out _ _ _ (by omega)]
      decide
  refine ⟨⟨⟨A, c, h6, h.arr (by omega) _ (fun k hk cs hr _ j hj => ?_)⟩, hn, fun k => Nat.le_trans (htl k) (by decide)⟩, htl⟩
  · obtain ⟨rfl, _⟩ := hr
    obtain rfl : j = 0 := by omega
    simp [TxtC, hk]
set_option maxRecDepth 100000 in
theorem open_prog {r : Reach} {b0 : Nat} {v : Value} {d : DataW H} {p : List MemPlace}
    (hv : Value.okWide Try.prog w r b0 35 v) (h : DataW.Trod enc Try.prog w base spare held 35 v d p) (hw : Wt Try.prog 35 d) : ∃ (q : Prog) (S K V : List Int) (prg : List Value), ProgIn w v q S K V prg := by
  obtain ⟨f0, f1, f2, f3, f4, f5, f6, f7, hu, ⟨t0, t1, t2, t3, t4, t5, t6, t7⟩, o0, o1, o2, o3, o4, o5, o6, o7⟩ := under35
  obtain ⟨cs, rfl, hsz⟩ := okWide_struct hu hv
  obtain ⟨fuel, hf0⟩ := h
  obtain ⟨xs, m, _, hx, hl, hlen, hf⟩ := DataW.trod_struct hu hf0
  obtain ⟨cl⟩ := cs
  obtain ⟨c0, c1, c2, c3, c4, c5, c6, c7, c8, c9, rfl⟩ := list10 (hsz.trans cells35)
  obtain ⟨y0, y1, y2, y3, y4, y5, y6, y7, rfl⟩ := list8 hlen
  simp only [Prod.mk.injEq] at hx
  obtain ⟨rfl, _⟩ := hx
  have h0 := hf 0 f0 rfl
  have h1 := hf 1 f1 rfl
  have h2 := hf 2 f2 rfl
  have h3 := hf 3 f3 rfl
  have h4 := hf 4 f4 rfl
  have h5 := hf 5 f5 rfl
  have h6 := hf 6 f6 rfl
  have h7 := hf 7 f7 rfl
  have w4 := hw.struct hu (j := 4) (f := f4) (d := y4.1) rfl rfl
  have w5 := hw.struct hu (j := 5) (f := f5) (d := y5.1) rfl rfl
  have w6 := hw.struct hu (j := 6) (f := f6) (d := y6.1) rfl rfl
  have w7 := hw.struct hu (j := 7) (f := f7) (d := y7.1) rfl rfl
  rw [t0, o0, cells3] at h0
  rw [t1, o1, cells3] at h1
  rw [t2, o2, cells3] at h2
  rw [t3, o3, cells3] at h3
  rw [t4, o4, cells31] at h4
  rw [t5, o5, cells32] at h5
  rw [t6, o6, cells33] at h6
  rw [t7, o7, cells25] at h7
  rw [t4] at w4
  rw [t5] at w5
  rw [t6] at w6
  rw [t7] at w7
  obtain ⟨a0, rfl, _⟩ := open_i64 (c := c0) (y := y0) (by simpa [Value.cells] using h0)
  obtain ⟨a1, rfl, _⟩ := open_i64 (c := c1) (y := y1) (by simpa [Value.cells] using h1)
  obtain ⟨a2, rfl, _⟩ := open_i64 (c := c2) (y := y2) (by simpa [Value.cells] using h2)
  obtain ⟨a3, rfl, _⟩ := open_i64 (c := c3) (y := y3) (by simpa [Value.cells] using h3)
  obtain ⟨A4, n4, k4, code, e4, s4, _, _, r4⟩ := open_sl (R := InsR) Try.underlying31 cells40 (by omega) open_ins (show DataW.trod enc Try.prog w base spare held m 31 [c4] = some y4 by simpa [Value.cells] using h4) w4
  obtain ⟨A5, n5, k5, tabs, e5, s5, _, _, r5⟩ := open_sl (R := TabR) Try.underlying32 cells89 (by omega) open_tab (show DataW.trod enc Try.prog w base spare held m 32 [c5] = some y5 by simpa [Value.cells] using h5) w5
  obtain ⟨A6, n6, k6, texts, e6, s6, _, _, r6⟩ := open_sl (R := StrR) Try.underlying33 cells9 (by omega) open_str (show DataW.trod enc Try.prog w base spare held m 33 [c6] = some y6 by simpa [Value.cells] using h6) w6
  obtain ⟨A0, n0, k0, A1, n1, k1, A2, n2, k2, S, K, V, e7, hh, hvv⟩ := open_hashc (show DataW.trod enc Try.prog w base spare held m 25 [c7, c8, c9] = some y7 by simpa [Value.cells] using h7) w7
  simp only [List.cons.injEq, and_true] at e4 e5 e6 e7
  obtain ⟨rfl, rfl, rfl⟩ := e7
  subst e4 e5 e6
  rw [bytes40] at r4
  rw [bytes89] at r5
  rw [bytes9] at r6
  simp only [reachBytes] at r4 r5 r6
  have hc := code_of (prg := [.int .i64 a0, .int .i64 a1, .int .i64 a2, .int .i64 a3, .slice A4 n4 k4, .slice A5 n5 k5, .slice A6 n6 k6, .slice A0 n0 k0, .slice A1 n1 k1, .slice A2 n2 k2]) s4 (by omega) rfl
  have ht := tabs_of (prg := [.int .i64 a0, .int .i64 a1, .int .i64 a2, .int .i64 a3, .slice A4 n4 k4, .slice A5 n5 k5, .slice A6 n6 k6, .slice A0 n0 k0, .slice A1 n1 k1, .slice A2 n2 k2]) s5 (by omega) rfl
  exact ⟨⟨a0, a1, a2, a3, code, tabs.map (·.1), texts⟩, S, K, V, _, rfl, ⟨_, _, _, _, _, _, rfl⟩, hc.1, ht.1, (texts_of (prg := [.int .i64 a0, .int .i64 a1, .int .i64 a2, .int .i64 a3, .slice A4 n4 k4, .slice A5 n5 k5, .slice A6 n6 k6, .slice A0 n0 k0, .slice A1 n1 k1, .slice A2 n2 k2]) s6 (by omega) rfl).1, ⟨rfl, rfl, ⟨A0, A1, A2, n0, n1, n2, k0, k1, k2, rfl, rfl, rfl, hh⟩, hvv⟩, hc.2, ht.2, (texts_of (prg := [.int .i64 a0, .int .i64 a1, .int .i64 a2, .int .i64 a3, .slice A4 n4 k4, .slice A5 n5 k5, .slice A6 n6 k6, .slice A0 n0 k0, .slice A1 n1 k1, .slice A2 n2 k2]) s6 (by omega) rfl).2⟩
end
end Go.Proofs.Ytgejpggbmgiocaa
