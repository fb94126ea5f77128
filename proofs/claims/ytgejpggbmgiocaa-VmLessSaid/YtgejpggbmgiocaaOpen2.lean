/- An argument that is a hash, opened to plain lists. -/
import Derived.Test.YtgejpggbmgiocaaRows
import Derived.Test.YtgejpggbmgiocaaRow
import Derived.Test.YtgejpggbmgiocaaHIn
import Derived.Test.YtgejpggbmgiocaaOpen1
import Derived.Test.YtgejpggbmgiocaaInts
import Derived.Lib.SmallJoins
namespace Go.Proofs.Ytgejpggbmgiocaa
open Go.RowKit Go.ChangeShapes Go.WideShapes Go.ChangeAt Go.Deep Go.Joins

theorem cells51 : Try.prog.cellsOf 51 = 1 := by kernel_rfl
theorem cells84 : Try.prog.cellsOf 84 = 1 := by kernel_rfl
theorem cells25 : Try.prog.cellsOf 25 = 3 := by kernel_rfl
theorem bytes51 : Try.prog.bytesOf 51 = 8 := by kernel_rfl
theorem bytes84 : Try.prog.bytesOf 84 = 4 := by kernel_rfl
theorem under25 : ∃ f0 f1 f2 : Field, Try.prog.underlying 25 = some (.struct #[f0, f1, f2]) ∧ f0.type = 22 ∧ f1.type = 23 ∧ f2.type = 23 ∧ oneCellFields Try.prog #[f0, f1, f2] = true :=
  ⟨_, _, _, Try.underlying25, rfl, rfl, rfl, by kernel_rfl⟩

theorem num_arr {w : World} {q : IntKind} {A : Option Addr} {n : Nat} {xs : List Int} (h : SlR w (fun _ cs a => cs = [.int q a] ∧ (Lit.int q a).wf = true) 1 A n xs) : Arr w w.heap.size 1 A n (NumC q xs) :=
  h.arr (by omega) _ (fun k hk cs hr _ j hj => by
    obtain ⟨rfl, _⟩ := hr
    obtain rfl : j = 0 := by omega
    simp [NumC, hk])
theorem num_under {w : World} {q : IntKind} {A : Option Addr} {n : Nat} {xs : List Int} (h : SlR w (fun _ cs a => cs = [.int q a] ∧ (Lit.int q a).wf = true) 1 A n xs) (b : Int) (hb : 0 < b) (hq : ∀ a, (Lit.int q a).wf = true → 0 ≤ a ∧ a < b) : Under b xs := by
  intro i
  by_cases hi : i < xs.length
  · obtain ⟨_, _, _, hx⟩ := h.2 (by rw [← h.1]; omega)
    obtain ⟨cs, _, _, _, hwf⟩ := hx i hi
    simpa [hi] using hq _ hwf
  · simp [List.getD, List.getElem?_eq_none (by omega : xs.length ≤ i)]; omega
theorem wf_u32 (a : Int) (h : (Lit.int .u32 a).wf = true) : 0 ≤ a ∧ a < 4294967296 := by
  have h1 : IntKind.u32.min = 0 := rfl
  have h2 : IntKind.u32.max = 4294967295 := rfl
  simp only [Lit.wf, Bool.and_eq_true, decide_eq_true_eq, h1, h2] at h
  omega

theorem wf_u64 (a : Int) (h : (Lit.int .u64 a).wf = true) : 0 ≤ a ∧ a < 18446744073709551616 := by
  have h1 : IntKind.u64.min = 0 := rfl
  have h2 : IntKind.u64.max = 18446744073709551615 := rfl
  simp only [Lit.wf, Bool.and_eq_true, decide_eq_true_eq, h1, h2] at h
  omega
theorem cells3 : Try.prog.cellsOf 3 = 1 := by kernel_rfl
theorem bytes3 : Try.prog.bytesOf 3 = 8 := by kernel_rfl
theorem open_ints {H : Type} {enc : TypeId × Value → H} {W : World} {base : Nat} {spare : Nat → Bool} {held : Bool} {r : Reach} {b0 : Nat} {v : Value} {d : DataW H} {p : List MemPlace}
    (hv : Value.okWide Try.prog W r b0 26 v) (h : DataW.Trod enc Try.prog W base spare held 26 v d p) (hw : Wt Try.prog 26 d) :
    ∃ A n c l, v = .slice A n c ∧ l.length = n ∧ n ≤ 140737488355328 ∧ n ≤ c ∧ Arr W W.heap.size 1 A n (IntC l) := by
  obtain ⟨a0, len, cap, rfl⟩ := okWide_slice Try.underlying26 hv
  obtain ⟨fuel, hf⟩ := h
  obtain ⟨A, n, c, xs, hcs, hsl, hnc, _, hr⟩ := open_sl (R := fun _ cs a => cs = [.int .i64 a] ∧ (Lit.int .i64 a).wf = true) Try.underlying26 cells3 (by omega) (open_num Try.underlying3) hf hw
  rw [bytes3] at hr
  simp only [reachBytes] at hr
  refine ⟨A, n, c, xs, by simpa [Value.cells] using hcs, hsl.1, by omega, hnc, hsl.arr (by omega) _ (fun k hk cs hr _ j hj => ?_)⟩
  obtain ⟨rfl, _⟩ := hr
  obtain rfl : j = 0 := by omega
  simp [IntC, hk]
theorem open_hash {H : Type} {enc : TypeId × Value → H} {W : World} {base : Nat} {spare : Nat → Bool} {held : Bool} {r : Reach} {b0 : Nat} {v : Value} {d : DataW H} {p : List MemPlace}
    (hv : Value.okWide Try.prog W r b0 25 v) (h : DataW.Trod enc Try.prog W base spare held 25 v d p) (hw : Wt Try.prog 25 d) :
    ∃ A0 n0 c0 A1 n1 c1 A2 n2 c2 S K V, v = .agg #[.slice A0 n0 c0, .slice A1 n1 c1, .slice A2 n2 c2] ∧ HashIn W A0 A1 A2 n0 n1 n2 S K V ∧ Under 18446744073709551616 V := by
  obtain ⟨f0, f1, f2, hu, ht0, ht1, ht2, hone⟩ := under25
  obtain ⟨v0, v1, v2, y0, y1, y2, n, rfl, rfl, _, h0, h1, h2⟩ := open_agg3 hu hone cells25 hv h
  have w0 := hw.struct hu (j := 0) (f := f0) (d := y0.1) rfl rfl
  have w1 := hw.struct hu (j := 1) (f := f1) (d := y1.1) rfl rfl
  have w2 := hw.struct hu (j := 2) (f := f2) (d := y2.1) rfl rfl
  rw [ht0] at h0 w0
  rw [ht1] at h1 w1
  rw [ht2] at h2 w2
  obtain ⟨A0, n0, c0, S, e0, s0, _, _, r0⟩ := open_sl (R := fun _ cs a => cs = [.int .u32 a] ∧ (Lit.int .u32 a).wf = true) Try.underlying22 cells84 (by omega) (open_num Try.underlying84) h0 w0
  obtain ⟨A1, n1, c1, K, e1, s1, _, _, r1⟩ := open_sl (R := fun _ cs a => cs = [.int .u64 a] ∧ (Lit.int .u64 a).wf = true) Try.underlying23 cells51 (by omega) (open_num Try.underlying51) h1 w1
  obtain ⟨A2, n2, c2, V, e2, s2, _, _, r2⟩ := open_sl (R := fun _ cs a => cs = [.int .u64 a] ∧ (Lit.int .u64 a).wf = true) Try.underlying23 cells51 (by omega) (open_num Try.underlying51) h2 w2
  simp only [List.cons.injEq, and_true] at e0 e1 e2
  subst e0 e1 e2
  rw [bytes84] at r0
  rw [bytes51] at r1 r2
  simp only [reachBytes] at r0 r1 r2
  exact ⟨A0, n0, c0, A1, n1, c1, A2, n2, c2, S, K, V, rfl, ⟨s0.1, s1.1, s2.1, by omega, by omega, by omega, num_under s0 _ (by omega) wf_u32, num_arr s0, num_arr s1, num_arr s2⟩, num_under s2 _ (by omega) wf_u64⟩
end Go.Proofs.Ytgejpggbmgiocaa
