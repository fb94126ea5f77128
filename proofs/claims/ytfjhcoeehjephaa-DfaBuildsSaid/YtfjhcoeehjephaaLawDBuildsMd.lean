/- DfaBuilds returns true for all automata, and leaves the arguments as they were; no condition. -/
import Derived.Test.YtfjhcoeehjephaaLDBMd
import Derived.Test.YtfjhcoeehjephaaNOpenNMd
namespace Go.Proofs.Ytfjhcoeehjephaa
open Go.RowKit Go.ChangeShapes Go.WideShapes Go.ChangeAt Go.Deep Go.Joins

open N7
set_option maxRecDepth 100000 in
theorem dfaBuilds_lifted (os : Os) (started : os.Started) (H : Type) (enc : TypeId × Value → H) :
    ReturnsInHanded {} Try.checked os 3 .any (Rows.dfaBuildsSpec.pre6 enc Try.prog Try.f3 Rows.dfaBuildsRow.domain false)
      (Rows.dfaBuildsSpec.post enc Try.prog Try.f3 Rows.dfaBuildsRow.apart Rows.dfaBuildsRow.fresh Rows.dfaBuildsRow.handsOn Rows.dfaBuildsRow.again) := by
  refine returnsInHanded_of_change_sized (C := Try.checked) Try.own started (by kernel_rfl) Try.func3
    (ChangeSpec.witness6 (enc := enc) (C := Try.checked) false ⟨#[], #[.agg #[.int .i64 0, .int .i64 0, .int .i64 0, .slice none 0 0]], []⟩ 8 (by kernel_rfl) (by kernel_rfl) (by kernel_rfl) (by kernel_rfl)) ?_
  intro W base args ds gs before hval0 hW _ hsz0 _
  have hsz : (DataW.weightsEach Try.prog (Try.f3.params.toList ++ Rows.dfaBuildsSpec.plain.varTypes Try.prog) (ds ++ gs)).all (· ≤ reachBytes) = true := hsz0
  clear hsz0
  have hval : ∀ (j : Nat) t v, Try.f3.params[j]? = some t → args[j]? = some v → Value.okWide Try.prog W .any base t v := hval0
  have hW' := hW
  obtain ⟨p, q, hA0, hV, rfl, _, _⟩ := hW
  have hA : DataW.TrodAll enc Try.prog W 0 (fun _ => true) true Try.f3.params.toList args.toList ds p := hA0
  rw [Try.params3] at hA hval hsz
  obtain ⟨v0, d0, rfl, rfl, h0⟩ := trodAll_one hA
  obtain ⟨rfl, rfl⟩ := trodVars_none hV
  clear hA0 hval0
  obtain ⟨A, n, c, S, a, z, E, rfl, hm, hu⟩ := open_nfa (hval 0 24 v0 rfl rfl) h0 (Wt.of_arg hsz (j := 0) rfl rfl)
  refine (law_dbuilds A n c S a z E W hm (fun e he => by obtain ⟨h1, h2, h3, h4⟩ := hu e he; exact ⟨u64w_of h1, u64w_of h2, u64w_of h3, u64w_of h4⟩)).mono fun e W' ⟨he, hb⟩ => ?_
  subst he
  exact ⟨_, rfl, law_post (tb := 4) Try.laidOut (by rw [Try.params3]; intro t ht; simp at ht; subst ht; exact ⟨by kernel_rfl, of_decide_eq_true (by kernel_rfl)⟩) rfl rfl Try.underlying4 hW' rfl rfl rfl hb⟩

theorem dfaBuilds_holds : Rows.DfaBuildsSaid :=
  OpenClaim.holds_of_wide 3 Try.f3 rfl rfl rfl rfl rfl rfl rfl ⟨rfl, rfl, rfl, rfl, rfl⟩ rfl rfl rfl rfl rfl (by kernel_rfl) Try.func3 (by kernel_rfl)
    (of_decide_eq_true (by kernel_rfl)) (by unfold Func.isWrapper; first | (rw [if_pos (by decide +kernel)]; kernel_rfl) | (rw [if_neg (by decide +kernel)]; exact ⟨rfl, rfl⟩))
    (fun os started H enc _ => dfaBuilds_lifted os started H enc)

end Go.Proofs.Ytfjhcoeehjephaa
