/- An automaton, laid open. -/
import Derived.Test.YtiaigdedkdeeoaaRows
import Derived.Test.YtiaigdedkdeeoaaRow
import Derived.Test.YtiaigdedkdeeoaaDfa
import Derived.Lib.SmallJoins
import Derived.Deep.Strs
namespace Go.Proofs.Ytiaigdedkdeeoaa
open Go.RowKit Go.ChangeShapes Go.WideShapes Go.ChangeAt Go.Deep Go.Joins

theorem Try.own : ownKnob Try.prog.godebug = none := by kernel_rfl
theorem Try.laidOut : laidOutB Try.prog = true := by kernel_rfl
theorem cells3 : Try.prog.cellsOf 3 = 1 := by kernel_rfl
theorem cells4 : Try.prog.cellsOf 4 = 1 := by kernel_rfl
theorem cells5 : Try.prog.cellsOf 5 = 1 := by kernel_rfl
theorem cells22 : Try.prog.cellsOf 22 = 256 := by kernel_rfl
theorem cells23 : Try.prog.cellsOf 23 = 1 := by kernel_rfl
theorem cells24 : Try.prog.cellsOf 24 = 1 := by kernel_rfl
theorem cells26 : Try.prog.cellsOf 26 = 258 := by kernel_rfl
theorem cells34 : Try.prog.cellsOf 34 = 1 := by kernel_rfl
theorem bytes3 : Try.prog.bytesOf 3 = 8 := by kernel_rfl
theorem bytes4 : Try.prog.bytesOf 4 = 1 := by kernel_rfl
theorem bytes34 : Try.prog.bytesOf 34 = 24 := by kernel_rfl
theorem under26 : ∃ f0 f1 f2 : Field, Try.prog.underlying 26 = some (.struct #[f0, f1, f2]) ∧ f0.type = 22 ∧ f1.type = 23 ∧ f2.type = 24 ∧ f0.offset = 0 ∧ f1.offset = 256 ∧ f2.offset = 257 := ⟨_, _, _, Try.underlying26, rfl, rfl, rfl, rfl, rfl, rfl⟩

def IntR (_ : World) (cs : List Value) (a : Int) : Prop := cs = [.int .i64 a] ∧ (Lit.int .i64 a).wf = true
def RowR (w : World) (cs : List Value) (a : List Int × Option Addr × Nat) : Prop := cs = [.slice a.2.1 a.1.length a.2.2] ∧ SlR w IntR 1 a.2.1 a.1.length a.1 ∧ a.1.length ≤ 140737488355328
def BoolR (_ : World) (cs : List Value) (a : Bool) : Prop := cs = [.bool a]
theorem ints_arr {w : World} {A : Option Addr} {n : Nat} {xs : List Int} (h : SlR w IntR 1 A n xs) : Arr w w.heap.size 1 A n (NumC .i64 xs) :=
  h.arr (by omega) _ (fun k hk cs hr _ j hj => by
    obtain ⟨rfl, _⟩ := hr
    obtain rfl : j = 0 := by omega
    simp [NumC, hk])

section
variable {H : Type} {enc : TypeId × Value → H} {w : World} {base : Nat} {spare : Nat → Bool} {held : Bool}
set_option maxRecDepth 100000 in
theorem open_row (n : Nat) (cs : List Value) (x : DataW H × List MemPlace) (h : DataW.trod enc Try.prog w base spare held n 34 cs = some x) (hw : Wt Try.prog 34 x.1) : ∃ a, RowR w cs a := by
  obtain ⟨A, n, c, xs, hcs, hsl, _, _, hr⟩ := open_sl (R := IntR) Try.underlying34 cells3 (by omega) (open_num Try.underlying3) h hw
  rw [bytes3] at hr
  simp only [reachBytes] at hr
  have hl : xs.length = n := hsl.1
  subst hl
  exact ⟨(xs, A, c), hcs, hsl, by show xs.length ≤ _; omega⟩
theorem open_bool' (n : Nat) (cs : List Value) (x : DataW H × List MemPlace) (h : DataW.trod enc Try.prog w base spare held n 4 cs = some x) (_ : Wt Try.prog 4 x.1) : ∃ a, BoolR w cs a := by
  obtain ⟨b, e, _⟩ := DataW.trod_bool Try.underlying4 h
  exact ⟨b, e⟩
theorem rows_in {A : Option Addr} {n : Nat} {xs : List (List Int × Option Addr × Nat)} (h : SlR w RowR 1 A n xs) (hn : n ≤ 140737488355328) :
    RowsIn w A n (xs.map (·.1)) (fun k => (xs.getD k ([], none, 0)).2.1) (fun k => (xs.getD k ([], none, 0)).2.2) := by
  have hl : xs.length = n := h.1
  have hg : ∀ k, k < n → (xs.map (·.1)).getD k [] = (xs.getD k ([], none, 0)).1 := fun k hk => by
    have : k < xs.length := by omega
    simp [this]
  have hx : ∀ k, k < n → ∃ cs, RowR w cs (xs.getD k ([], none, 0)) := fun k hk => by
    obtain ⟨_, _, _, h2⟩ := h.2 (by omega)
    obtain ⟨cs, _, _, h3⟩ := h2 k (by omega)
    exact ⟨cs, by simpa [(by omega : k < xs.length)] using h3⟩
  refine ⟨by simp [hl], hn, h.arr (by omega) _ (fun k hk cs hr _ j hj => ?_), fun k hk => ?_, fun k hk => ?_⟩
  · obtain ⟨rfl, _⟩ := hr
    obtain rfl : j = 0 := by omega
    simp [RowC, hk]
  · obtain ⟨cs, _, h3, _⟩ := hx k hk
    rw [hg k hk]
    exact ints_arr h3
  · obtain ⟨cs, _, _, h3⟩ := hx k hk
    rw [hg k hk]
    exact h3
/-- the classes of an array of 256 bytes -/
theorem open_cls {n : Nat} {cs : List Value} {x : DataW H × List MemPlace} (h : DataW.trod enc Try.prog w base spare held n 22 cs = some x) : ∃ cls : Nat → Nat, ∀ b, b < 256 → cs[b]? = some (.int .u8 (cls b)) ∧ cls b < 256 := by
  obtain ⟨xs, m, _, _, _, hxl, hi⟩ := DataW.trod_array Try.underlying22 h
  rw [cells5] at hi
  refine Classical.axiomOfChoice (r := fun b c => b < 256 → cs[b]? = some (.int .u8 ((c : Nat) : Int)) ∧ c < 256) (fun b => ?_)
  by_cases hb : b < 256
  · have h1 := hi b hb
    rw [Nat.mul_one, List.getElem?_eq_getElem (by omega)] at h1
    obtain ⟨a, e, _, hw⟩ := DataW.trod_int Try.underlying5 h1
    have hbd := bounds_u8 hw
    obtain ⟨c, rfl⟩ := Int.eq_ofNat_of_zero_le hbd.1
    refine ⟨c, fun _ => ⟨?_, by omega⟩⟩
    have := congrArg (·[0]?) e
    simpa [List.getElem?_take, List.getElem?_drop] using this
  · exact ⟨0, fun h9 => absurd h9 hb⟩
theorem one_of {l : List Value} {k : Nat} {v : Value} (h : (l.drop k).take 1 = [v]) : l[k]? = some v := by
  have := congrArg (·[0]?) h
  simpa [List.getElem?_take, List.getElem?_drop] using this
set_option maxRecDepth 100000 in
theorem open_dfa {r : Reach} {b0 : Nat} {v : Value} {d : DataW H} {p : List MemPlace}
    (hv : Value.okWide Try.prog w r b0 26 v) (h : DataW.Trod enc Try.prog w base spare held 26 v d p) (hw : Wt Try.prog 26 d) :
    ∃ ds A1 A2 n1 n2 c1 c2 D RA rc, v = .agg ds ∧ DfaIn w ds A1 A2 n1 n2 c1 c2 D RA rc := by
  obtain ⟨f0, f1, f2, hu, ht0, ht1, ht2, ho0, ho1, ho2⟩ := under26
  obtain ⟨ds, rfl, hsz⟩ := okWide_struct hu hv
  rw [cells26] at hsz
  obtain ⟨fuel, hf⟩ := h
  obtain ⟨y0, y1, y2, n, hx, _, h0, h1, h2⟩ := trod_struct3 hu hf
  simp only [Prod.mk.injEq] at hx
  obtain ⟨rfl, _⟩ := hx
  have w1 := hw.struct hu (j := 1) (f := f1) (d := y1.1) rfl rfl
  have w2 := hw.struct hu (j := 2) (f := f2) (d := y2.1) rfl rfl
  rw [ht0, ho0, cells22, List.drop_zero] at h0
  rw [ht1, ho1, cells23] at h1
  rw [ht1] at w1
  rw [ht2, ho2, cells24] at h2
  rw [ht2] at w2
  obtain ⟨cls, hcls⟩ := open_cls h0
  obtain ⟨A1, n1, c1, xs, e1, s1, _, _, r1⟩ := open_sl (R := RowR) Try.underlying23 cells34 (by omega) open_row h1 w1
  obtain ⟨A2, n2, c2, bs, e2, s2, _, _, r2⟩ := open_sl (R := BoolR) Try.underlying24 cells4 (by omega) open_bool' h2 w2
  rw [bytes34] at r1
  rw [bytes4] at r2
  simp only [reachBytes] at r1 r2
  have g1 := one_of e1
  have g2 := one_of e2
  refine ⟨ds, A1, A2, n1, n2, c1, c2, ⟨cls, xs.map (·.1), bs⟩, _, _, rfl, ⟨hsz, fun b hb => ?_, by simpa [Value.cells] using g1, by simpa [Value.cells] using g2, fun b hb => (hcls b hb).2⟩, rows_in s1 (by omega), s2.1, by omega, s2.arr (by omega) _ (fun k hk cs hr _ j hj => ?_)⟩
  · have h9 := (hcls b hb).1
    rw [List.getElem?_take, if_pos hb] at h9
    simpa [Value.cells] using h9
  · obtain rfl := hr
    obtain rfl : j = 0 := by omega
    simp [BoolC, hk]
end
end Go.Proofs.Ytiaigdedkdeeoaa
