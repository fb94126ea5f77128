/- An argument that is a hash, opened to plain lists. -/
import Derived.Test.YthgkangbidcecaaRows
import Derived.Test.YthgkangbidcecaaRow
import Derived.Test.YthgkangbidcecaaIn
import Derived.Lib.SmallJoins
namespace Go.Proofs.Ythgkangbidcecaa
open Go.RowKit Go.ChangeShapes Go.WideShapes Go.ChangeAt Go.Deep Go.Joins

theorem Try.own : ownKnob Try.prog.godebug = none := by kernel_rfl
theorem Try.laidOut : laidOutB Try.prog = true := by kernel_rfl
theorem cells26 : Try.prog.cellsOf 26 = 1 := by kernel_rfl
theorem cells31 : Try.prog.cellsOf 31 = 1 := by kernel_rfl
theorem cells25 : Try.prog.cellsOf 25 = 3 := by kernel_rfl
theorem bytes26 : Try.prog.bytesOf 26 = 8 := by kernel_rfl
theorem bytes31 : Try.prog.bytesOf 31 = 4 := by kernel_rfl
theorem under25 : ∃ f0 f1 f2 : Field, Try.prog.underlying 25 = some (.struct #[f0, f1, f2]) ∧ f0.type = 22 ∧ f1.type = 23 ∧ f2.type = 23 ∧ oneCellFields Try.prog #[f0, f1, f2] = true :=
  ⟨_, _, _, Try.underlying25, rfl, rfl, rfl, by kernel_rfl⟩

theorem num_arr {w : World} {q : IntKind} {A : Option Addr} {n : Nat} {xs : List Int} (h : SlR w (fun _ cs a => cs = [.int q a] ∧ (Lit.int q a).wf = true) 1 A n xs) : Arr w w.heap.size 1 A n (NumC q xs) :=
  h.arr (by omega) _ (fun k hk cs hr _ j hj => by
    obtain ⟨rfl, _⟩ := hr
    obtain rfl : j = 0 := by omega
    simp [NumC, hk])
theorem num_under {w : World} {q : IntKind} {A : Option Addr} {n : Nat} {xs : List Int} (h : SlR w (fun _ cs a => cs = [.int q a] ∧ (Lit.int q a).wf = true) 1 A n xs) (b : Int) (hb : 0 < b) (hq : ∀ a, (Lit.int q a).wf = true → 0 ≤ a ∧ a < b) : Under b xs := by
  intro i
  by_cases hi : i < xs.length
  · obtain ⟨_, _, _, hx⟩ := h.2 (by rw [← h.1]; omega)
    obtain ⟨cs, _, _, _, hwf⟩ := hx i hi
    simpa [hi] using hq _ hwf
  · simp [List.getD, List.getElem?_eq_none (by omega : xs.length ≤ i)]; omega
theorem wf_u32 (a : Int) (h : (Lit.int .u32 a).wf = true) : 0 ≤ a ∧ a < 4294967296 := by
  have h1 : IntKind.u32.min = 0 := rfl
  have h2 : IntKind.u32.max = 4294967295 := rfl
  simp only [Lit.wf, Bool.and_eq_true, decide_eq_true_eq, h1, h2] at h
  omega

theorem open_hash {H : Type} {enc : TypeId × Value → H} {W : World} {base : Nat} {spare : Nat → Bool} {held : Bool} {r : Reach} {b0 : Nat} {v : Value} {d : DataW H} {p : List MemPlace}
    (hv : Value.okWide Try.prog W r b0 25 v) (h : DataW.Trod enc Try.prog W base spare held 25 v d p) (hw : Wt Try.prog 25 d) :
    ∃ A0 n0 c0 A1 n1 c1 A2 n2 c2 S K V, v = .agg #[.slice A0 n0 c0, .slice A1 n1 c1, .slice A2 n2 c2] ∧ HashIn W A0 A1 A2 n0 n1 n2 S K V := by
  obtain ⟨f0, f1, f2, hu, ht0, ht1, ht2, hone⟩ := under25
  obtain ⟨v0, v1, v2, y0, y1, y2, n, rfl, rfl, _, h0, h1, h2⟩ := open_agg3 hu hone cells25 hv h
  have w0 := hw.struct hu (j := 0) (f := f0) (d := y0.1) rfl rfl
  have w1 := hw.struct hu (j := 1) (f := f1) (d := y1.1) rfl rfl
  have w2 := hw.struct hu (j := 2) (f := f2) (d := y2.1) rfl rfl
  rw [ht0] at h0 w0
  rw [ht1] at h1 w1
  rw [ht2] at h2 w2
  obtain ⟨A0, n0, c0, S, e0, s0, _, _, r0⟩ := open_sl (R := fun _ cs a => cs = [.int .u32 a] ∧ (Lit.int .u32 a).wf = true) Try.underlying22 cells31 (by omega) (open_num Try.underlying31) h0 w0
  obtain ⟨A1, n1, c1, K, e1, s1, _, _, r1⟩ := open_sl (R := fun _ cs a => cs = [.int .u64 a] ∧ (Lit.int .u64 a).wf = true) Try.underlying23 cells26 (by omega) (open_num Try.underlying26) h1 w1
  obtain ⟨A2, n2, c2, V, e2, s2, _, _, r2⟩ := open_sl (R := fun _ cs a => cs = [.int .u64 a] ∧ (Lit.int .u64 a).wf = true) Try.underlying23 cells26 (by omega) (open_num Try.underlying26) h2 w2
  simp only [List.cons.injEq, and_true] at e0 e1 e2
  subst e0 e1 e2
  rw [bytes31] at r0
  rw [bytes26] at r1 r2
  simp only [reachBytes] at r0 r1 r2
  exact ⟨A0, n0, c0, A1, n1, c1, A2, n2, c2, S, K, V, rfl, s0.1, s1.1, s2.1, by omega, by omega, by omega, num_under s0 _ (by omega) wf_u32, num_arr s0, num_arr s1, num_arr s2⟩
end Go.Proofs.Ythgkangbidcecaa
