/- The arguments of the laws on rules, laid open. -/
import Derived.Test.YthjnkpoalbddkaaRows
import Derived.Test.YthjnkpoalbddkaaRow
import Derived.Test.YthjnkpoalbddkaaLGrowsY
import Derived.Lib.SmallJoins
namespace Go.Proofs.Ythjnkpoalbddkaa
open Go.RowKit Go.ChangeShapes Go.WideShapes Go.ChangeAt Go.Deep Go.Joins

theorem Try.own : ownKnob Try.prog.godebug = none := by kernel_rfl
theorem Try.laidOut : laidOutB Try.prog = true := by kernel_rfl
theorem cells9 : Try.prog.cellsOf 9 = 1 := by kernel_rfl
theorem cells34 : Try.prog.cellsOf 34 = 2 := by kernel_rfl
theorem bytes34 : Try.prog.bytesOf 34 = 32 := by kernel_rfl
theorem under34 : ∃ f0 f1 : Field, Try.prog.underlying 34 = some (.struct #[f0, f1]) ∧ f0.offset = 0 ∧ f1.offset = 1 ∧ f0.type = 9 ∧ f1.type = 9 := ⟨_, _, Try.underlying34, rfl, rfl, rfl, rfl⟩

theorem open_two {P : Program} {H : Type} {enc : TypeId × Value → H} {w : World} {base : Nat} {spare : Nat → Bool} {held : Bool} {e ti : TypeId} {f0 f1 : Field} (hs : P.underlying e = some (.struct #[f0, f1])) (ho0 : f0.offset = 0) (ho1 : f1.offset = 1) (ht0 : f0.type = ti) (ht1 : f1.type = ti)
    (hi : P.underlying ti = some .string) (hc : P.cellsOf ti = 1) (hce : P.cellsOf e = 2)
    (n : Nat) (cs : List Value) (x : DataW H × List MemPlace) (h : DataW.trod enc P w base spare held n e cs = some x) (_ : Wt P e x.1) :
    ∃ a : SR, cs = [.string a.1, .string a.2] ∧ a.1.size ≤ maxLen ∧ a.2.size ≤ maxLen := by
  obtain ⟨xs, m, _, _, hlen, hxl, hf⟩ := DataW.trod_struct hs h
  rw [hce] at hlen
  match cs, hlen with
  | [c0, c1], _ =>
    have h0 := hf 0 f0 rfl
    have h1 := hf 1 f1 rfl
    rw [ho0, ht0, hc] at h0
    rw [ho1, ht1, hc] at h1
    match xs, hxl with
    | [y0, y1], _ =>
      obtain ⟨a, e0, _, ha⟩ := DataW.trod_string hi h0
      obtain ⟨b, e1, _, hb⟩ := DataW.trod_string hi h1
      simp at e0 e1
      exact ⟨(a, b), by rw [e0, e1], ha, hb⟩

set_option maxRecDepth 100000 in
theorem open_rules {H : Type} {enc : TypeId × Value → H} {W : World} {base : Nat} {spare : Nat → Bool} {held : Bool} {r : Reach} {b0 : Nat} {v : Value} {d : DataW H} {p : List MemPlace}
    (hv : Value.okWide Try.prog W r b0 22 v) (h : DataW.Trod enc Try.prog W base spare held 22 v d p) (hw : Wt Try.prog 22 d) :
    ∃ A n c l, v = .slice A n c ∧ RulesIn W A n l ∧ n ≤ c := by
  obtain ⟨a0, len, cap, rfl⟩ := okWide_slice Try.underlying22 hv
  obtain ⟨fuel, hf⟩ := h
  obtain ⟨f0, f1, hu, ho0, ho1, ht0, ht1⟩ := under34
  obtain ⟨A, n, c, xs, hcs, hsl, hnc, _, hr⟩ := open_sl (α := SR) (R := fun _ cs a => cs = [.string a.1, .string a.2] ∧ a.1.size ≤ maxLen ∧ a.2.size ≤ maxLen) Try.underlying22 cells34 (by omega)
    (fun m cs x hx => open_two hu ho0 ho1 ht0 ht1 Try.underlying9 cells9 cells34 m cs x hx) hf hw
  rw [bytes34] at hr
  simp only [reachBytes] at hr
  refine ⟨A, n, c, xs, by simpa [Value.cells] using hcs, ⟨hsl.1, by omega, hsl.arr (by omega) _ (fun k hk cs hr _ j hj => ?_), fun k hk => ?_⟩, hnc⟩
  · obtain ⟨rfl, _⟩ := hr
    match j, hj with
    | 0, _ => simp [RuleC, hk]
    | 1, _ => simp [RuleC, hk]
  · have hkl : k < xs.length := by rw [hsl.1]; exact hk
    obtain ⟨_, _, _, hx⟩ := hsl.2 (by omega)
    obtain ⟨cs, _, _, _, h1, h2⟩ := hx k hkl
    simpa [hkl] using And.intro h1 h2
end Go.Proofs.Ythjnkpoalbddkaa
