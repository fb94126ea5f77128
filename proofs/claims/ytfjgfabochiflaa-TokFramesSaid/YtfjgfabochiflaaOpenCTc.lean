/- A configuration, laid open. -/
import Derived.Test.YtfjgfabochiflaaOpenRTc
import Derived.Test.YtfjgfabochiflaaCfgTc
namespace Go.Proofs.Ytfjgfabochiflaa
open Go.RowKit Go.ChangeShapes Go.WideShapes Go.ChangeAt Go.Deep Go.Joins

theorem cells9 : Try.prog.cellsOf 9 = 1 := by kernel_rfl
theorem cells30 : Try.prog.cellsOf 30 = 1 := by kernel_rfl
theorem cells31 : Try.prog.cellsOf 31 = 1 := by kernel_rfl
theorem cells32 : Try.prog.cellsOf 32 = 1 := by kernel_rfl
theorem cells34 : Try.prog.cellsOf 34 = 13 := by kernel_rfl
theorem cells67 : Try.prog.cellsOf 67 = 1 := by kernel_rfl
theorem cells94 : Try.prog.cellsOf 94 = 2 := by kernel_rfl
theorem cells114 : Try.prog.cellsOf 114 = 2 := by kernel_rfl
theorem cells22' : Try.prog.cellsOf 22 = 1 := by kernel_rfl
theorem cells29' : Try.prog.cellsOf 29 = 8 := by kernel_rfl
theorem cells3' : Try.prog.cellsOf 3 = 1 := by kernel_rfl
theorem bytes3 : Try.prog.bytesOf 3 = 8 := by kernel_rfl
theorem bytes9 : Try.prog.bytesOf 9 = 16 := by kernel_rfl
theorem bytes67 : Try.prog.bytesOf 67 = 24 := by kernel_rfl
theorem bytes94 : Try.prog.bytesOf 94 = 16 := by kernel_rfl
theorem bytes114 : Try.prog.bytesOf 114 = 32 := by kernel_rfl
theorem under114 : ∃ f0 f1 : Field, Try.prog.underlying 114 = some (.struct #[f0, f1]) ∧ f0.offset = 0 ∧ f1.offset = 1 ∧ f0.type = 9 ∧ f1.type = 9 := ⟨_, _, Try.underlying114, rfl, rfl, rfl, rfl⟩
theorem under94 : ∃ f0 f1 : Field, Try.prog.underlying 94 = some (.struct #[f0, f1]) ∧ f0.offset = 0 ∧ f1.offset = 1 ∧ f0.type = 3 ∧ f1.type = 3 := ⟨_, _, Try.underlying94, rfl, rfl, rfl, rfl⟩
theorem under34 : ∃ f0 f1 f2 f3 f4 f5 : Field, Try.prog.underlying 34 = some (.struct #[f0, f1, f2, f3, f4, f5]) ∧ (f0.type = 22 ∧ f1.type = 29 ∧ f2.type = 30 ∧ f3.type = 31 ∧ f4.type = 32 ∧ f5.type = 32) ∧
    (f0.offset = 0 ∧ f1.offset = 1 ∧ f2.offset = 9 ∧ f3.offset = 10 ∧ f4.offset = 11 ∧ f5.offset = 12) :=
  ⟨_, _, _, _, _, _, Try.underlying34, ⟨rfl, rfl, rfl, rfl, rfl, rfl⟩, ⟨rfl, rfl, rfl, rfl, rfl, rfl⟩⟩
theorem list6 {α : Type} {l : List α} (h : l.length = 6) : ∃ a b c d e f, l = [a, b, c, d, e, f] := by
  match l, h with
  | [a, b, c, d, e, f], _ => exact ⟨a, b, c, d, e, f, rfl⟩
theorem list13 {α : Type} {l : List α} (h : l.length = 13) : ∃ a b c d e f g i j k m n o, l = [a, b, c, d, e, f, g, i, j, k, m, n, o] := by
  match l, h with
  | [a, b, c, d, e, f, g, i, j, k, m, n, o], _ => exact ⟨a, b, c, d, e, f, g, i, j, k, m, n, o, rfl⟩
def IntR (_ : World) (cs : List Value) (a : Int) : Prop := cs = [.int .i64 a] ∧ (Lit.int .i64 a).wf = true
def StrR (_ : World) (cs : List Value) (a : ByteArray) : Prop := cs = [.string a]
def RuleR (_ : World) (cs : List Value) (a : T12.SR) : Prop := cs = [.string a.1, .string a.2] ∧ a.1.size ≤ maxLen ∧ a.2.size ≤ maxLen
def PassR (w : World) (cs : List Value) (a : List T12.SR × Option Addr × Nat) : Prop := cs = [.slice a.2.1 a.1.length a.2.2] ∧ SlR w RuleR 2 a.2.1 a.1.length a.1 ∧ a.1.length ≤ 140737488355328
theorem ints_arr {w : World} {A : Option Addr} {n : Nat} {xs : List Int} (h : SlR w IntR 1 A n xs) : Arr w w.heap.size 1 A n (T12.NumC .i64 xs) :=
  h.arr (by omega) _ (fun k hk cs hr _ j hj => by
    obtain ⟨rfl, _⟩ := hr
    obtain rfl : j = 0 := by omega
    simp [T12.NumC, hk])
theorem strs_arr {w : World} {A : Option Addr} {n : Nat} {xs : List ByteArray} (h : SlR w StrR 1 A n xs) : Arr w w.heap.size 1 A n (T12.StrC xs) :=
  h.arr (by omega) _ (fun k hk cs hr _ j hj => by
    obtain rfl := hr
    obtain rfl : j = 0 := by omega
    simp [T12.StrC, hk])
theorem rules_arr {w : World} {A : Option Addr} {n : Nat} {xs : List T12.SR} (h : SlR w RuleR 2 A n xs) : Arr w w.heap.size 2 A n (T12.RuleC xs) ∧ ∀ j, j < n → (xs.getD j T12.noRule).1.size ≤ maxLen ∧ (xs.getD j T12.noRule).2.size ≤ maxLen := by
  refine ⟨h.arr (by omega) _ (fun k hk cs hr _ j hj => ?_), fun k hk => ?_⟩
  · obtain ⟨rfl, _⟩ := hr
    match j, hj with
    | 0, _ => simp [T12.RuleC, hk]
    | 1, _ => simp [T12.RuleC, hk]
  · have hkl : k < xs.length := by rw [h.1]; exact hk
    obtain ⟨_, _, _, hx⟩ := h.2 (by omega)
    obtain ⟨cs, _, _, _, h1, h2⟩ := hx k hkl
    simpa [hkl] using And.intro h1 h2
theorem merges_arr {w : World} {A : Option Addr} {n : Nat} {xs : List (Int × Int)} (h : SlR w (fun _ cs (a : Int × Int) => cs = [.int .i64 a.1, .int .i64 a.2]) 2 A n xs) : Arr w w.heap.size 2 A n (H14.PairC xs) :=
  h.arr (by omega) _ (fun k hk cs hr _ j hj => by
    subst hr
    match j, hj with
    | 0, _ => simp [H14.PairC, hk]
    | 1, _ => simp [H14.PairC, hk])
section
variable {H : Type} {enc : TypeId × Value → H} {w : World} {base : Nat} {spare : Nat → Bool} {held : Bool}
set_option maxRecDepth 100000 in
theorem open_rule (n : Nat) (cs : List Value) (x : DataW H × List MemPlace) (h : DataW.trod enc Try.prog w base spare held n 114 cs = some x) (_ : Wt Try.prog 114 x.1) : ∃ a, RuleR w cs a := by
  obtain ⟨f0, f1, hu, ho0, ho1, ht0, ht1⟩ := under114
  obtain ⟨xs, m, _, _, hlen, hxl, hf⟩ := DataW.trod_struct hu h
  rw [cells114] at hlen
  match cs, hlen with
  | [c0, c1], _ =>
    have h0 := hf 0 f0 rfl
    have h1 := hf 1 f1 rfl
    rw [ho0, ht0, cells9] at h0
    rw [ho1, ht1, cells9] at h1
    match xs, hxl with
    | [y0, y1], _ =>
      obtain ⟨a, e0, _, ha⟩ := DataW.trod_string Try.underlying9 h0
      obtain ⟨b, e1, _, hb⟩ := DataW.trod_string Try.underlying9 h1
      simp at e0 e1
      exact ⟨(a, b), by rw [e0, e1], ha, hb⟩
set_option maxRecDepth 100000 in
theorem open_pass (n : Nat) (cs : List Value) (x : DataW H × List MemPlace) (h : DataW.trod enc Try.prog w base spare held n 67 cs = some x) (hw : Wt Try.prog 67 x.1) : ∃ a, PassR w cs a := by
  obtain ⟨A, n, c, xs, hcs, hsl, _, _, hr⟩ := open_sl (R := RuleR) Try.underlying67 cells114 (by omega) open_rule h hw
  rw [bytes114] at hr
  simp only [reachBytes] at hr
  have hl : xs.length = n := hsl.1
  subst hl
  exact ⟨(xs, A, c), hcs, hsl, by show xs.length ≤ _; omega⟩
set_option maxRecDepth 100000 in
theorem open_strC (n : Nat) (cs : List Value) (x : DataW H × List MemPlace) (h : DataW.trod enc Try.prog w base spare held n 9 cs = some x) (_ : Wt Try.prog 9 x.1) : ∃ a, StrR w cs a := by
  obtain ⟨s, e, _, _⟩ := DataW.trod_string Try.underlying9 h
  exact ⟨s, e⟩
set_option maxRecDepth 100000 in
theorem passes_in {A : Option Addr} {n : Nat} {xs : List (List T12.SR × Option Addr × Nat)} (h : SlR w PassR 1 A n xs) :
    Arr w w.heap.size 1 A n (fun k _ => .slice ((xs.getD k ([], none, 0)).2.1) ((xs.map (·.1)).getD k []).length ((xs.getD k ([], none, 0)).2.2)) ∧
    ∀ k, k < n → SlR w RuleR 2 ((xs.getD k ([], none, 0)).2.1) ((xs.map (·.1)).getD k []).length ((xs.map (·.1)).getD k []) ∧ ((xs.map (·.1)).getD k []).length ≤ 140737488355328 := by
  have hl : xs.length = n := h.1
  have hg : ∀ k, k < n → (xs.map (·.1)).getD k [] = (xs.getD k ([], none, 0)).1 := fun k hk => by
    have : k < xs.length := by omega
    simp [this]
  refine ⟨h.arr (by omega) _ (fun k hk cs hr _ j hj => ?_), fun k hk => ?_⟩
  · obtain ⟨rfl, _⟩ := hr
    obtain rfl : j = 0 := by omega
    simp [hk]
  · obtain ⟨_, _, _, h2⟩ := h.2 (by omega)
    obtain ⟨cs, _, _, h3⟩ := h2 k (by omega)
    rw [hg k hk]
    have : xs.getD k ([], none, 0) = xs[k] := by simp [show k < xs.length by omega]
    rw [this]
    exact ⟨h3.2.1, h3.2.2⟩
set_option maxRecDepth 100000 in
theorem open_cfg {r : Reach} {b0 : Nat} {v : Value} {d : DataW H} {p : List MemPlace}
    (hv : Value.okWide Try.prog w r b0 34 v) (h : DataW.Trod enc Try.prog w base spare held 34 v d p) (hw : Wt Try.prog 34 d) :
    ∃ (c : Cfg) (a : CfgAd), v = .agg #[.slice a.P a.np a.cp, .int .i64 c.split.kind, .int .u64 c.split.s0, .int .u64 c.split.s1, .int .u64 c.split.s2, .int .u64 c.split.s3, .int .i64 c.split.lo, .int .i64 c.split.hi, .slice a.T a.nt a.ct, .slice a.M a.nm a.cm, .slice a.N a.nn a.cn, .slice a.B a.nb a.cb, .slice a.A a.na a.ca] ∧ CfgIn w c a := by
  obtain ⟨f0, f1, f2, f3, f4, f5, hu, ⟨t0, t1, t2, t3, t4, t5⟩, o0, o1, o2, o3, o4, o5⟩ := under34
  obtain ⟨cs, rfl, hsz⟩ := okWide_struct hu hv
  obtain ⟨fuel, hf0⟩ := h
  obtain ⟨xs, m, _, hx, hl, hlen, hf⟩ := DataW.trod_struct hu hf0
  obtain ⟨cl⟩ := cs
  obtain ⟨c0, c1, c2, c3, c4, c5, c6, c7, c8, c9, c10, c11, c12, rfl⟩ := list13 (hsz.trans cells34)
  obtain ⟨y0, y1, y2, y3, y4, y5, rfl⟩ := list6 hlen
  simp only [Prod.mk.injEq] at hx
  obtain ⟨rfl, _⟩ := hx
  have h0 := hf 0 f0 rfl
  have h1 := hf 1 f1 rfl
  have h2 := hf 2 f2 rfl
  have h3 := hf 3 f3 rfl
  have h4 := hf 4 f4 rfl
  have h5 := hf 5 f5 rfl
  have w0 := hw.struct hu (j := 0) (f := f0) (d := y0.1) rfl rfl
  have w1 := hw.struct hu (j := 1) (f := f1) (d := y1.1) rfl rfl
  have w2 := hw.struct hu (j := 2) (f := f2) (d := y2.1) rfl rfl
  have w3 := hw.struct hu (j := 3) (f := f3) (d := y3.1) rfl rfl
  have w4 := hw.struct hu (j := 4) (f := f4) (d := y4.1) rfl rfl
  have w5 := hw.struct hu (j := 5) (f := f5) (d := y5.1) rfl rfl
  rw [t0, o0, cells22'] at h0
  rw [t1, o1, cells29'] at h1
  rw [t2, o2, cells30] at h2
  rw [t3, o3, cells31] at h3
  rw [t4, o4, cells32] at h4
  rw [t5, o5, cells32] at h5
  rw [t0] at w0
  rw [t1] at w1
  rw [t2] at w2
  rw [t3] at w3
  rw [t4] at w4
  rw [t5] at w5
  obtain ⟨P, np, cp, ps, e0, s0, _, _, r0⟩ := open_sl (R := PassR) Try.underlying22 cells67 (by omega) open_pass (show DataW.trod enc Try.prog w base spare held m 22 [c0] = some y0 by simpa [Value.cells] using h0) w0
  obtain ⟨t, T, nt, ct, e1, htr, hwf⟩ := open_re m [c1, c2, c3, c4, c5, c6, c7, c8] y1 (by simpa [Value.cells] using h1) w1
  obtain ⟨under94f0, under94f1, hu94, ho0, ho1, ht0, ht1⟩ := under94
  obtain ⟨M, nm, cm, ms, e2, s2, _, _, r2⟩ := open_sl (α := Int × Int) (R := fun _ cs a => cs = [.int .i64 a.1, .int .i64 a.2]) Try.underlying30 cells94 (by omega)
    (fun m cs x hx => open_pair hu94 ho0 ho1 ht0 ht1 Try.underlying3 cells3' cells94 m cs x hx) (show DataW.trod enc Try.prog w base spare held m 30 [c9] = some y2 by simpa [Value.cells] using h2) w2
  obtain ⟨Nn, nn, cn, ns, e3, s3, hcap, _, r3⟩ := open_sl (R := StrR) Try.underlying31 cells9 (by omega) open_strC (show DataW.trod enc Try.prog w base spare held m 31 [c10] = some y3 by simpa [Value.cells] using h3) w3
  obtain ⟨B, nb, cb, bs, e4, s4, _, _, r4⟩ := open_sl (R := IntR) Try.underlying32 cells3' (by omega) (open_num Try.underlying3) (show DataW.trod enc Try.prog w base spare held m 32 [c11] = some y4 by simpa [Value.cells] using h4) w4
  obtain ⟨A, na, ca, af, e5, s5, _, _, r5⟩ := open_sl (R := IntR) Try.underlying32 cells3' (by omega) (open_num Try.underlying3) (show DataW.trod enc Try.prog w base spare held m 32 [c12] = some y5 by simpa [Value.cells] using h5) w5
  unfold reV at e1
  simp only [List.cons.injEq, and_true] at e0 e1 e2 e3 e4 e5
  obtain ⟨rfl, rfl, rfl, rfl, rfl, rfl, rfl, rfl⟩ := e1
  subst e0 e2 e3 e4 e5
  rw [bytes67] at r0
  rw [bytes94] at r2
  rw [bytes9] at r3
  rw [bytes3] at r4 r5
  simp only [reachBytes] at r0 r2 r3 r4 r5
  have hp := passes_in s0
  refine ⟨⟨ps.map (·.1), t, ms, ns, bs, af⟩, ⟨P, np, cp, T, nt, ct, M, nm, cm, Nn, nn, cn, B, nb, cb, A, na, ca, fun k => (ps.getD k ([], none, 0)).2.1, fun k => (ps.getD k ([], none, 0)).2.2⟩, rfl, ?_⟩
  exact ⟨by simpa using s0.1, by show np ≤ _; omega, hp.1, fun k hk => (rules_arr (hp.2 k hk).1).1, fun k hk => (hp.2 k hk).2, fun k hk => (rules_arr (hp.2 k hk).1).2, htr, hwf, s2.1, by show nm ≤ _; omega, merges_arr s2,
    s3.1, by show nn ≤ _; omega, hcap, strs_arr s3, s4.1, by show nb ≤ _; omega, ints_arr s4, s5.1, by show na ≤ _; omega, ints_arr s5⟩
end
end Go.Proofs.Ytfjgfabochiflaa
