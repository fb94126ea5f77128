/- MergeMore returns true for all merges, one more, and ids, and leaves them as they were; no condition. -/
import Derived.Test.YtlfhiehlokedmaaOpen2
import Derived.Test.YtlfhiehlokedmaaL7
namespace Go.Proofs.Ytlfhiehlokedmaa
open Go.RowKit Go.ChangeShapes Go.WideShapes Go.ChangeAt Go.Deep

set_option maxRecDepth 100000 in
theorem mergeMore_lifted (os : Os) (started : os.Started) (H : Type) (enc : TypeId × Value → H) :
    ReturnsInHanded {} Try.checked os 7 .any (Rows.mergeMoreSpec.pre6 enc Try.prog Try.f7 Rows.mergeMoreRow.domain false)
      (Rows.mergeMoreSpec.post enc Try.prog Try.f7 Rows.mergeMoreRow.apart Rows.mergeMoreRow.fresh Rows.mergeMoreRow.handsOn Rows.mergeMoreRow.again) := by
  refine returnsInHanded_of_change_sized (C := Try.checked) Try.own started (by kernel_rfl) Try.func7
    (ChangeSpec.witness6 (enc := enc) (C := Try.checked) false ⟨#[], #[.slice none 0 0, .agg #[.int .i64 0, .int .i64 0], .slice none 0 0], []⟩ 8 (by kernel_rfl) (by kernel_rfl) (by kernel_rfl) (by kernel_rfl)) ?_
  intro W base args ds gs before hval0 hW _ hsz0 _
  have hsz : (DataW.weightsEach Try.prog (Try.f7.params.toList ++ Rows.mergeMoreSpec.plain.varTypes Try.prog) (ds ++ gs)).all (· ≤ reachBytes) = true := hsz0
  clear hsz0
  have hval : ∀ (j : Nat) t v, Try.f7.params[j]? = some t → args[j]? = some v → Value.okWide Try.prog W .any base t v := hval0
  have hW' := hW
  obtain ⟨p, q, hA0, hV, rfl, _, _⟩ := hW
  have hA : DataW.TrodAll enc Try.prog W 0 (fun _ => true) true Try.f7.params.toList args.toList ds p := hA0
  rw [Try.params7] at hA hval hsz
  obtain ⟨v0, v1, v2, d0, d1, d2, p0, p1, p2, rfl, rfl, rfl, h0, h1, h2⟩ := trodAll_three hA
  obtain ⟨rfl, rfl⟩ := trodVars_none hV
  clear hA0 hval0
  obtain ⟨A1, n1, c1, l, hv0, hl, hn1, hA1, ha1⟩ := open_merges2 (hval 0 22 v0 rfl rfl) h0 (Wt.of_arg hsz (j := 0) rfl rfl)
  obtain ⟨m, hv1⟩ := open_merge (hval 1 43 v1 rfl rfl) h1
  obtain ⟨A2, n2, c2, ids, hv2, hi, hn2, hc2, ha2⟩ := open_ints (hval 2 30 v2 rfl rfl) h2 (Wt.of_arg hsz (j := 2) rfl rfl)
  rw [hv0, hv1, hv2] at hW' ⊢
  refine (law_more A1 A2 n1 n2 c1 c2 l m ids W hl hi hn1 hn2 hc2 hA1 ha1 ha2).mono fun e W' ⟨he, hb⟩ => ?_
  subst he
  exact ⟨_, rfl, law_post (tb := 4) Try.laidOut (by rw [Try.params7]; intro t ht; simp at ht; rcases ht with rfl | rfl | rfl <;> exact ⟨by kernel_rfl, of_decide_eq_true (by kernel_rfl)⟩) rfl rfl Try.underlying4 hW' rfl rfl rfl hb⟩

theorem mergeMore_holds : Rows.MergeMoreSaid :=
  OpenClaim.holds_of_wide 7 Try.f7 rfl rfl rfl rfl rfl rfl rfl ⟨rfl, rfl, rfl, rfl, rfl⟩ rfl rfl rfl rfl rfl (by kernel_rfl) Try.func7 (by kernel_rfl)
    (of_decide_eq_true (by kernel_rfl)) (by unfold Func.isWrapper; first | (rw [if_pos (by decide +kernel)]; kernel_rfl) | (rw [if_neg (by decide +kernel)]; exact ⟨rfl, rfl⟩))
    (fun os started H enc _ => mergeMore_lifted os started H enc)

end Go.Proofs.Ytlfhiehlokedmaa
