/- TokWrites returns true for all configurations and ids, and leaves the arguments as they were; no condition. -/
import Derived.Test.YtfjgfabochiflaaOpenC
import Derived.Test.YtfjgfabochiflaaLWr
namespace Go.Proofs.Ytfjgfabochiflaa
open Go.RowKit Go.ChangeShapes Go.WideShapes Go.ChangeAt Go.Deep Go.Joins

set_option maxRecDepth 100000 in
theorem open_ids {H : Type} {enc : TypeId × Value → H} {W : World} {base : Nat} {spare : Nat → Bool} {held : Bool} {r : Reach} {b0 : Nat} {v : Value} {d : DataW H} {p : List MemPlace}
    (hv : Value.okWide Try.prog W r b0 32 v) (h : DataW.Trod enc Try.prog W base spare held 32 v d p) (hw : Wt Try.prog 32 d) :
    ∃ A n c l, v = .slice A n c ∧ l.length = n ∧ n ≤ 140737488355328 ∧ n ≤ c ∧ Arr W W.heap.size 1 A n (T12.NumC .i64 l) := by
  obtain ⟨a0, len, cap, rfl⟩ := okWide_slice Try.underlying32 hv
  obtain ⟨fuel, hf⟩ := h
  obtain ⟨A, n, c, xs, hcs, hsl, hnc, _, hr⟩ := open_sl (R := IntR) Try.underlying32 cells3' (by omega) (open_num Try.underlying3) hf hw
  rw [bytes3] at hr
  simp only [reachBytes] at hr
  exact ⟨A, n, c, xs, by simpa [Value.cells] using hcs, hsl.1, by omega, hnc, ints_arr hsl⟩

set_option maxRecDepth 100000 in
theorem tokWrites_lifted (os : Os) (started : os.Started) (H : Type) (enc : TypeId × Value → H) :
    ReturnsInHanded {} Try.checked os 3 .any (Rows.tokWritesSpec.pre6 enc Try.prog Try.f3 Rows.tokWritesRow.domain false)
      (Rows.tokWritesSpec.post enc Try.prog Try.f3 Rows.tokWritesRow.apart Rows.tokWritesRow.fresh Rows.tokWritesRow.handsOn Rows.tokWritesRow.again) := by
  refine returnsInHanded_of_change_sized (C := Try.checked) Try.own started (by kernel_rfl) Try.func3
    (ChangeSpec.witness6 (enc := enc) (C := Try.checked) false ⟨#[], #[.agg #[.slice none 0 0, .int .i64 0, .int .u64 0, .int .u64 0, .int .u64 0, .int .u64 0, .int .i64 0, .int .i64 0, .slice none 0 0, .slice none 0 0, .slice none 0 0, .slice none 0 0, .slice none 0 0], .slice none 0 0], []⟩ 8 (by kernel_rfl) (by kernel_rfl) (by kernel_rfl) (by kernel_rfl)) ?_
  intro W base args ds gs before hval0 hW _ hsz0 _
  have hsz : (DataW.weightsEach Try.prog (Try.f3.params.toList ++ Rows.tokWritesSpec.plain.varTypes Try.prog) (ds ++ gs)).all (· ≤ reachBytes) = true := hsz0
  clear hsz0
  have hval : ∀ (j : Nat) t v, Try.f3.params[j]? = some t → args[j]? = some v → Value.okWide Try.prog W .any base t v := hval0
  have hW' := hW
  obtain ⟨p, q, hA0, hV, rfl, _, _⟩ := hW
  have hA : DataW.TrodAll enc Try.prog W 0 (fun _ => true) true Try.f3.params.toList args.toList ds p := hA0
  rw [Try.params3] at hA hval hsz
  obtain ⟨v0, v1, d0, d1, p0, p1, rfl, rfl, rfl, h0, h1⟩ := trodAll_two hA
  obtain ⟨rfl, rfl⟩ := trodVars_none hV
  clear hA0 hval0
  obtain ⟨c, a, hv0, hc⟩ := open_cfg (hval 0 34 v0 rfl rfl) h0 (Wt.of_arg hsz (j := 0) rfl rfl)
  obtain ⟨I, n, ci, ids, hv1, hil, hin, hnc, hi⟩ := open_ids (hval 1 32 v1 rfl rfl) h1 (Wt.of_arg hsz (j := 1) rfl rfl)
  rw [hv0, hv1] at hW' ⊢
  refine (law_writes c a I n ci ids W hc hil hin hnc hi).mono fun e W' ⟨he, hb⟩ => ?_
  subst he
  exact ⟨_, rfl, law_post (tb := 4) Try.laidOut (by rw [Try.params3]; intro t ht; simp at ht; rcases ht with rfl | rfl <;> exact ⟨by kernel_rfl, of_decide_eq_true (by kernel_rfl)⟩) rfl rfl Try.underlying4 hW' rfl rfl rfl hb⟩

theorem tokWrites_holds : Rows.TokWritesSaid :=
  OpenClaim.holds_of_wide 3 Try.f3 rfl rfl rfl rfl rfl rfl rfl ⟨rfl, rfl, rfl, rfl, rfl⟩ rfl rfl rfl rfl rfl (by kernel_rfl) Try.func3 (by kernel_rfl)
    (of_decide_eq_true (by kernel_rfl)) (by unfold Func.isWrapper; first | (rw [if_pos (by decide +kernel)]; kernel_rfl) | (rw [if_neg (by decide +kernel)]; exact ⟨rfl, rfl⟩))
    (fun os started H enc _ => tokWrites_lifted os started H enc)

end Go.Proofs.Ytfjgfabochiflaa
