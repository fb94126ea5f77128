/- HashHalves returns true for all steps and any number, and leaves the steps as they were; no condition. -/
import Derived.Test.YthgkangbidcecaaOpen
import Derived.Test.YthgkangbidcecaaHalves
namespace Go.Proofs.Ythgkangbidcecaa
open Go.RowKit Go.ChangeShapes Go.WideShapes Go.ChangeAt Go.Deep

theorem cells36 : Try.prog.cellsOf 36 = 1 := by kernel_rfl
theorem bytes36 : Try.prog.bytesOf 36 = 2 := by kernel_rfl
theorem wf_u16 (a : Int) (h : (Lit.int .u16 a).wf = true) : 0 ≤ a ∧ a < 65536 := by
  have h1 : IntKind.u16.min = 0 := rfl
  have h2 : IntKind.u16.max = 65535 := rfl
  simp only [Lit.wf, Bool.and_eq_true, decide_eq_true_eq, h1, h2] at h
  omega
theorem open_steps {H : Type} {enc : TypeId × Value → H} {W : World} {base : Nat} {spare : Nat → Bool} {held : Bool} {r : Reach} {b0 : Nat} {v : Value} {d : DataW H} {p : List MemPlace}
    (hv : Value.okWide Try.prog W r b0 35 v) (h : DataW.Trod enc Try.prog W base spare held 35 v d p) (hw : Wt Try.prog 35 d) :
    ∃ A n c l, v = .slice A n c ∧ l.length = n ∧ n ≤ 140737488355328 ∧ n ≤ c ∧ Under 65536 l ∧ Arr W W.heap.size 1 A n (NumC .u16 l) := by
  obtain ⟨a0, len, cap, rfl⟩ := okWide_slice Try.underlying35 hv
  obtain ⟨fuel, hf⟩ := h
  obtain ⟨A, n, c, xs, hcs, hsl, hnc, _, hr⟩ := open_sl (R := fun _ cs a => cs = [.int .u16 a] ∧ (Lit.int .u16 a).wf = true) Try.underlying35 cells36 (by omega) (open_num Try.underlying36) hf hw
  rw [bytes36] at hr
  simp only [reachBytes] at hr
  exact ⟨A, n, c, xs, by simpa [Value.cells] using hcs, hsl.1, by omega, hnc, num_under hsl _ (by omega) wf_u16, num_arr hsl⟩

set_option maxRecDepth 100000 in
theorem hashHalves_lifted (os : Os) (started : os.Started) (H : Type) (enc : TypeId × Value → H) :
    ReturnsInHanded {} Try.checked os 5 .any (Rows.hashHalvesSpec.pre6 enc Try.prog Try.f5 Rows.hashHalvesRow.domain false)
      (Rows.hashHalvesSpec.post enc Try.prog Try.f5 Rows.hashHalvesRow.apart Rows.hashHalvesRow.fresh Rows.hashHalvesRow.handsOn Rows.hashHalvesRow.again) := by
  refine returnsInHanded_of_change_sized (C := Try.checked) Try.own started (by kernel_rfl) Try.func5
    (ChangeSpec.witness6 (enc := enc) (C := Try.checked) false ⟨#[], #[.slice none 0 0, .int .u64 0], []⟩ 8 (by kernel_rfl) (by kernel_rfl) (by kernel_rfl) (by kernel_rfl)) ?_
  intro W base args ds gs before hval0 hW _ hsz0 _
  have hsz : (DataW.weightsEach Try.prog (Try.f5.params.toList ++ Rows.hashHalvesSpec.plain.varTypes Try.prog) (ds ++ gs)).all (· ≤ reachBytes) = true := hsz0
  clear hsz0
  have hval : ∀ (j : Nat) t v, Try.f5.params[j]? = some t → args[j]? = some v → Value.okWide Try.prog W .any base t v := hval0
  have hW' := hW
  obtain ⟨p, q, hA0, hV, rfl, _, _⟩ := hW
  have hA : DataW.TrodAll enc Try.prog W 0 (fun _ => true) true Try.f5.params.toList args.toList ds p := hA0
  rw [Try.params5] at hA hval hsz
  obtain ⟨v0, v1, d0, d1, p0, p1, rfl, rfl, rfl, h0, h1⟩ := trodAll_two hA
  obtain ⟨rfl, rfl⟩ := trodVars_none hV
  clear hA0 hval0
  obtain ⟨A0, n0, c0, S, hv0, hl, hn0, hc0, hu, ha⟩ := open_steps (hval 0 35 v0 rfl rfl) h0 (Wt.of_arg hsz (j := 0) rfl rfl)
  obtain ⟨key, rfl, rfl, rfl, _⟩ := open_int Try.underlying26 (hval 1 26 v1 rfl rfl) h1
  rw [hv0] at hW' ⊢
  refine (law_halves A0 n0 c0 S key W hl hn0 hc0 hu ha).mono fun e W' ⟨he, hb⟩ => ?_
  subst he
  exact ⟨_, rfl, law_post (tb := 4) Try.laidOut (by rw [Try.params5]; intro t ht; simp at ht; rcases ht with rfl | rfl <;> exact ⟨by kernel_rfl, of_decide_eq_true (by kernel_rfl)⟩) rfl rfl Try.underlying4 hW' rfl rfl rfl hb⟩

theorem hashHalves_holds : Rows.HashHalvesSaid :=
  OpenClaim.holds_of_wide 5 Try.f5 rfl rfl rfl rfl rfl rfl rfl ⟨rfl, rfl, rfl, rfl, rfl⟩ rfl rfl rfl rfl rfl (by kernel_rfl) Try.func5 (by kernel_rfl)
    (of_decide_eq_true (by kernel_rfl)) (by unfold Func.isWrapper; first | (rw [if_pos (by decide +kernel)]; kernel_rfl) | (rw [if_neg (by decide +kernel)]; exact ⟨rfl, rfl⟩))
    (fun os started H enc _ => hashHalves_lifted os started H enc)

end Go.Proofs.Ythgkangbidcecaa
