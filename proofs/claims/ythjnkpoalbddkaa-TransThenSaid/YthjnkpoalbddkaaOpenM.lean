/- A machine, laid open. -/
import Derived.Test.YthjnkpoalbddkaaOpen
import Derived.Test.YthjnkpoalbddkaaMach
namespace Go.Proofs.Ythjnkpoalbddkaa
open Go.RowKit Go.ChangeShapes Go.WideShapes Go.ChangeAt Go.Deep Go.Joins

theorem cells3 : Try.prog.cellsOf 3 = 1 := by kernel_rfl
theorem cells39 : Try.prog.cellsOf 39 = 1 := by kernel_rfl
theorem cells42 : Try.prog.cellsOf 42 = 4 := by kernel_rfl
theorem bytes3 : Try.prog.bytesOf 3 = 8 := by kernel_rfl
theorem bytes39 : Try.prog.bytesOf 39 = 24 := by kernel_rfl
theorem bytes9 : Try.prog.bytesOf 9 = 16 := by kernel_rfl
theorem under42 : ∃ f0 f1 f2 f3 : Field, Try.prog.underlying 42 = some (.struct #[f0, f1, f2, f3]) ∧ f0.type = 38 ∧ f1.type = 38 ∧ f2.type = 39 ∧ f3.type = 40 ∧ oneCellFields Try.prog #[f0, f1, f2, f3] = true := ⟨_, _, _, _, Try.underlying42, rfl, rfl, rfl, rfl, by kernel_rfl⟩

def IntR (_ : World) (cs : List Value) (a : Int) : Prop := cs = [.int .i64 a] ∧ (Lit.int .i64 a).wf = true
def RowR (w : World) (cs : List Value) (a : List Int × Option Addr × Nat) : Prop := cs = [.slice a.2.1 a.1.length a.2.2] ∧ SlR w IntR 1 a.2.1 a.1.length a.1 ∧ a.1.length ≤ 140737488355328
def StrR (_ : World) (cs : List Value) (a : ByteArray) : Prop := cs = [.string a]

theorem ints_arr {w : World} {A : Option Addr} {n : Nat} {xs : List Int} (h : SlR w IntR 1 A n xs) : Arr w w.heap.size 1 A n (NumC .i64 xs) :=
  h.arr (by omega) _ (fun k hk cs hr _ j hj => by
    obtain ⟨rfl, _⟩ := hr
    obtain rfl : j = 0 := by omega
    simp [NumC, hk])

section
variable {H : Type} {enc : TypeId × Value → H} {w : World} {base : Nat} {spare : Nat → Bool} {held : Bool}
set_option maxRecDepth 100000 in
theorem open_row (n : Nat) (cs : List Value) (x : DataW H × List MemPlace) (h : DataW.trod enc Try.prog w base spare held n 39 cs = some x) (hw : Wt Try.prog 39 x.1) : ∃ a, RowR w cs a := by
  obtain ⟨A, n, c, xs, hcs, hsl, _, _, hr⟩ := open_sl (R := IntR) Try.underlying39 cells3 (by omega) (open_num Try.underlying3) h hw
  rw [bytes3] at hr
  simp only [reachBytes] at hr
  have hl : xs.length = n := hsl.1
  subst hl
  exact ⟨(xs, A, c), hcs, hsl, by show xs.length ≤ _; omega⟩
theorem open_str (n : Nat) (cs : List Value) (x : DataW H × List MemPlace) (h : DataW.trod enc Try.prog w base spare held n 9 cs = some x) (_ : Wt Try.prog 9 x.1) : ∃ a, StrR w cs a := by
  obtain ⟨s, e, _, _⟩ := DataW.trod_string Try.underlying9 h
  exact ⟨s, e⟩
theorem rows_in {A : Option Addr} {n : Nat} {xs : List (List Int × Option Addr × Nat)} (h : SlR w RowR 1 A n xs) (hn : n ≤ 140737488355328) :
    RowsIn w A n (xs.map (·.1)) (fun k => (xs.getD k ([], none, 0)).2.1) (fun k => (xs.getD k ([], none, 0)).2.2) := by
  have hl : xs.length = n := h.1
  have hg : ∀ k, k < n → (xs.map (·.1)).getD k [] = (xs.getD k ([], none, 0)).1 := fun k hk => by
    have : k < xs.length := by omega
    simp [this]
  have hx : ∀ k, k < n → ∃ cs, RowR w cs (xs.getD k ([], none, 0)) := fun k hk => by
    obtain ⟨_, _, _, h2⟩ := h.2 (by omega)
    obtain ⟨cs, _, _, h3⟩ := h2 k (by omega)
    exact ⟨cs, by simpa [(by omega : k < xs.length)] using h3⟩
  refine ⟨by simp [hl], hn, h.arr (by omega) _ (fun k hk cs hr _ j hj => ?_), fun k hk => ?_, fun k hk => ?_⟩
  · obtain ⟨rfl, _⟩ := hr
    obtain rfl : j = 0 := by omega
    simp [RowC, hk]
  · obtain ⟨cs, _, h3, _⟩ := hx k hk
    rw [hg k hk]
    exact ints_arr h3
  · obtain ⟨cs, _, _, h3⟩ := hx k hk
    rw [hg k hk]
    exact h3
set_option maxRecDepth 100000 in
theorem open_mach {r : Reach} {b0 : Nat} {v : Value} {d : DataW H} {p : List MemPlace}
    (hv : Value.okWide Try.prog w r b0 42 v) (h : DataW.Trod enc Try.prog w base spare held 42 v d p) (hw : Wt Try.prog 42 d) :
    ∃ A0 A1 A2 A3 n0 n1 n2 n3 c0 c1 c2 c3 m RA rc PA pc, v = .agg #[.slice A0 n0 c0, .slice A1 n1 c1, .slice A2 n2 c2, .slice A3 n3 c3] ∧ MachIn w A0 A1 A2 A3 n0 n1 n2 n3 m RA rc PA pc := by
  obtain ⟨f0, f1, f2, f3, hu, ht0, ht1, ht2, ht3, hone⟩ := under42
  obtain ⟨v0, v1, v2, v3, y0, y1, y2, y3, n, rfl, rfl, _, h0, h1, h2, h3⟩ := open_agg4 hu hone cells42 hv h
  have w0 := hw.struct hu (j := 0) (f := f0) (d := y0.1) rfl rfl
  have w1 := hw.struct hu (j := 1) (f := f1) (d := y1.1) rfl rfl
  have w2 := hw.struct hu (j := 2) (f := f2) (d := y2.1) rfl rfl
  have w3 := hw.struct hu (j := 3) (f := f3) (d := y3.1) rfl rfl
  rw [ht0] at h0 w0
  rw [ht1] at h1 w1
  rw [ht2] at h2 w2
  rw [ht3] at h3 w3
  obtain ⟨A0, n0, c0, xs, e0, s0, _, _, r0⟩ := open_sl (R := RowR) Try.underlying38 cells39 (by omega) open_row h0 w0
  obtain ⟨A1, n1, c1, ys, e1, s1, _, _, r1⟩ := open_sl (R := RowR) Try.underlying38 cells39 (by omega) open_row h1 w1
  obtain ⟨A2, n2, c2, es, e2, s2, _, _, r2⟩ := open_sl (R := IntR) Try.underlying39 cells3 (by omega) (open_num Try.underlying3) h2 w2
  obtain ⟨A3, n3, c3, ts, e3, s3, _, _, r3⟩ := open_sl (R := StrR) Try.underlying40 cells9 (by omega) open_str h3 w3
  simp only [List.cons.injEq, and_true] at e0 e1 e2 e3
  subst e0 e1 e2 e3
  rw [bytes39] at r0 r1
  rw [bytes3] at r2
  rw [bytes9] at r3
  simp only [reachBytes] at r0 r1 r2 r3
  exact ⟨A0, A1, A2, A3, n0, n1, n2, n3, c0, c1, c2, c3, ⟨xs.map (·.1), ys.map (·.1), es, ts⟩, _, _, _, _, rfl, rows_in s0 (by omega), rows_in s1 (by omega), s2.1, by omega, ints_arr s2, s3.1, by omega,
    s3.arr (by omega) _ (fun k hk cs hr _ j hj => by
      obtain rfl := hr
      obtain rfl : j = 0 := by omega
      simp [StrC, hk])⟩
end
end Go.Proofs.Ythjnkpoalbddkaa
