/- An automaton with choices, laid open. -/
import Derived.Test.YtfjhcoeehjephaaRows
import Derived.Test.YtfjhcoeehjephaaRow
import Derived.Test.YtfjhcoeehjephaaNfaMd
import Derived.Lib.SmallJoins
import Derived.Deep.Strs
namespace Go.Proofs.Ytfjhcoeehjephaa.N7
open Go.RowKit Go.ChangeShapes Go.WideShapes Go.ChangeAt Go.Deep Go.Joins

theorem Try.own : ownKnob Try.prog.godebug = none := by kernel_rfl
theorem Try.laidOut : laidOutB Try.prog = true := by kernel_rfl
theorem cells3 : Try.prog.cellsOf 3 = 1 := by kernel_rfl
theorem cells4 : Try.prog.cellsOf 4 = 1 := by kernel_rfl
theorem cells24 : Try.prog.cellsOf 24 = 4 := by kernel_rfl
theorem cells39 : Try.prog.cellsOf 43 = 1 := by kernel_rfl
theorem cells40 : Try.prog.cellsOf 44 = 4 := by kernel_rfl
theorem cells42 : Try.prog.cellsOf 46 = 4 := by kernel_rfl
theorem cells44 : Try.prog.cellsOf 70 = 7 := by kernel_rfl
theorem bytes3 : Try.prog.bytesOf 3 = 8 := by kernel_rfl
theorem bytes44 : Try.prog.bytesOf 70 = 56 := by kernel_rfl
theorem under24 : ∃ f0 f1 f2 f3 : Field, Try.prog.underlying 24 = some (.struct #[f0, f1, f2, f3]) ∧ f0.type = 3 ∧ f1.type = 3 ∧ f2.type = 3 ∧ f3.type = 22 ∧ oneCellFields Try.prog #[f0, f1, f2, f3] = true := ⟨_, _, _, _, Try.underlying24, rfl, rfl, rfl, rfl, by kernel_rfl⟩
theorem under44 : ∃ f0 f1 f2 f3 : Field, Try.prog.underlying 70 = some (.struct #[f0, f1, f2, f3]) ∧ f0.type = 3 ∧ f1.type = 3 ∧ f2.type = 4 ∧ f3.type = 46 ∧ f0.offset = 0 ∧ f1.offset = 1 ∧ f2.offset = 2 ∧ f3.offset = 3 := ⟨_, _, _, _, Try.underlying70, rfl, rfl, rfl, rfl, rfl, rfl, rfl, rfl⟩
theorem under42 : ∃ f0 : Field, Try.prog.underlying 46 = some (.struct #[f0]) ∧ f0.type = 44 ∧ f0.offset = 0 := ⟨_, Try.underlying46, rfl, rfl⟩

def U64 (e : Ed) : Prop := (Lit.int .u64 e.s0).wf = true ∧ (Lit.int .u64 e.s1).wf = true ∧ (Lit.int .u64 e.s2).wf = true ∧ (Lit.int .u64 e.s3).wf = true
def IntR (_ : World) (cs : List Value) (a : Int) : Prop := cs = [.int .i64 a] ∧ (Lit.int .i64 a).wf = true
def EdR (_ : World) (cs : List Value) (e : Ed) : Prop := cs = edV e ∧ U64 e
theorem ints_arr {w : World} {A : Option Addr} {n : Nat} {xs : List Int} (h : SlR w IntR 1 A n xs) : Arr w w.heap.size 1 A n (NumC .i64 xs) :=
  h.arr (by omega) _ (fun k hk cs hr _ j hj => by
    obtain ⟨rfl, _⟩ := hr
    obtain rfl : j = 0 := by omega
    simp [NumC, hk])
section
variable {H : Type} {enc : TypeId × Value → H} {w : World} {base : Nat} {spare : Nat → Bool} {held : Bool}
set_option maxRecDepth 100000 in
theorem open_ed (n : Nat) (cs : List Value) (x : DataW H × List MemPlace) (h : DataW.trod enc Try.prog w base spare held n 70 cs = some x) (_ : Wt Try.prog 70 x.1) : ∃ a, EdR w cs a := by
  obtain ⟨f0, f1, f2, f3, hu, ht0, ht1, ht2, ht3, ho0, ho1, ho2, ho3⟩ := under44
  obtain ⟨y0, y1, y2, y3, m, _, hl, h0, h1, h2, h3⟩ := trod_struct4 hu h
  rw [ht0, ho0, cells3] at h0
  rw [ht1, ho1, cells3] at h1
  rw [ht2, ho2, cells4] at h2
  rw [ht3, ho3, cells42] at h3
  rw [cells44] at hl
  obtain ⟨g0, hu2, ht4, ho4⟩ := under42
  obtain ⟨y4, m2, _, _, h4⟩ := trod_struct1 hu2 h3
  rw [ht4, ho4, cells40] at h4
  obtain ⟨xs, m3, _, _, _, hxl, hi⟩ := DataW.trod_array Try.underlying44 h4
  rw [cells39] at hi
  match cs, hl with
  | [c0, c1, c2, c3, c4, c5, c6], _ =>
    obtain ⟨a0, e0, _⟩ := DataW.trod_int Try.underlying3 h0
    obtain ⟨a1, e1, _⟩ := DataW.trod_int Try.underlying3 h1
    obtain ⟨b, e2, _⟩ := DataW.trod_bool Try.underlying4 h2
    have i0 := hi 0 (by omega)
    have i1 := hi 1 (by omega)
    have i2 := hi 2 (by omega)
    have i3 := hi 3 (by omega)
    rw [List.getElem?_eq_getElem (by omega)] at i0 i1 i2 i3
    obtain ⟨s0, d0, _, w0⟩ := DataW.trod_int Try.underlying43 i0
    obtain ⟨s1, d1, _, w1⟩ := DataW.trod_int Try.underlying43 i1
    obtain ⟨s2, d2, _, w2⟩ := DataW.trod_int Try.underlying43 i2
    obtain ⟨s3, d3, _, w3⟩ := DataW.trod_int Try.underlying43 i3
    simp at e0 e1 e2 d0 d1 d2 d3
    subst e0 e1 e2 d0 d1 d2 d3
    exact ⟨⟨a0, a1, b, s0, s1, s2, s3⟩, rfl, w0, w1, w2, w3⟩
set_option maxRecDepth 100000 in
theorem open_nfa {r : Reach} {b0 : Nat} {v : Value} {d : DataW H} {p : List MemPlace}
    (hv : Value.okWide Try.prog w r b0 24 v) (h : DataW.Trod enc Try.prog w base spare held 24 v d p) (hw : Wt Try.prog 24 d) :
    ∃ A n c S a z E, v = .agg #[.int .i64 S, .int .i64 a, .int .i64 z, .slice A n c] ∧ NfaIn w A n ⟨S, a, z, E⟩ ∧ ∀ e ∈ E, U64 e := by
  obtain ⟨f0, f1, f2, f3, hu, ht0, ht1, ht2, ht3, hone⟩ := under24
  obtain ⟨v0, v1, v2, v3, y0, y1, y2, y3, n, rfl, rfl, _, h0, h1, h2, h3⟩ := open_agg4 hu hone cells24 hv h
  have w3 := hw.struct hu (j := 3) (f := f3) (d := y3.1) rfl rfl
  rw [ht0] at h0
  rw [ht1] at h1
  rw [ht2] at h2
  rw [ht3] at h3 w3
  obtain ⟨S, e0, _⟩ := DataW.trod_int Try.underlying3 h0
  obtain ⟨a, e1, _⟩ := DataW.trod_int Try.underlying3 h1
  obtain ⟨z, e2, _⟩ := DataW.trod_int Try.underlying3 h2
  obtain ⟨A, m, c, E, e3, s3, _, _, r3⟩ := open_sl (R := EdR) Try.underlying22 cells44 (by omega) open_ed h3 w3
  simp only [List.cons.injEq, and_true] at e0 e1 e2 e3
  subst e0 e1 e2 e3
  rw [bytes44] at r3
  simp only [reachBytes] at r3
  have hlen : E.length = m := s3.1
  refine ⟨A, m, c, S, a, z, E, rfl, ⟨hlen, by omega, s3.arr (by omega) _ (fun k hk cs hr _ j hj => ?_)⟩, fun e he => ?_⟩
  · obtain ⟨rfl, _⟩ := hr
    have : E.getD k noEd = E[k]'(by omega) := by simp [show k < E.length by omega]
    simp only [EdC, this, List.getD_eq_getElem?_getD]
    rw [List.getElem?_eq_getElem (show j < (edV (E[k]'(by omega))).length from hj)]
    simp
  · obtain ⟨k, hk, rfl⟩ := List.getElem_of_mem he
    obtain ⟨_, _, _, hx⟩ := s3.2 (by omega)
    obtain ⟨cs, _, _, h9⟩ := hx k (by omega)
    exact h9.2
set_option maxRecDepth 100000 in
theorem open_list {r : Reach} {b0 : Nat} {v : Value} {d : DataW H} {p : List MemPlace}
    (hv : Value.okWide Try.prog w r b0 36 v) (h : DataW.Trod enc Try.prog w base spare held 36 v d p) (hw : Wt Try.prog 36 d) :
    ∃ A n c L, v = .slice A n c ∧ L.length = n ∧ n ≤ 140737488355328 ∧ Arr w w.heap.size 1 A n (NumC .i64 L) := by
  obtain ⟨fuel, hf⟩ := h
  obtain ⟨A, n, c, xs, hcs, hsl, hnc, _, hr⟩ := open_sl (R := IntR) Try.underlying36 cells3 (by omega) (open_num Try.underlying3) hf hw
  rw [bytes3] at hr
  simp only [reachBytes] at hr
  obtain ⟨A', n', c', rfl⟩ := okWide_slice Try.underlying36 hv
  simp only [Value.cells, List.cons.injEq, and_true] at hcs
  cases hcs
  exact ⟨_, _, _, xs, rfl, hsl.1, by omega, ints_arr hsl⟩
end
end Go.Proofs.Ytfjhcoeehjephaa.N7
