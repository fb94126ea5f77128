/- NfaFree returns true for all automata and lists, and leaves the arguments as they were; no condition. -/
import Derived.Test.YtjpifofnlcajfaaOpenN
import Derived.Test.YtjpifofnlcajfaaLFree
namespace Go.Proofs.Ytjpifofnlcajfaa
open Go.RowKit Go.ChangeShapes Go.WideShapes Go.ChangeAt Go.Deep Go.Joins

set_option maxRecDepth 100000 in
theorem nfaFree_lifted (os : Os) (started : os.Started) (H : Type) (enc : TypeId × Value → H) :
    ReturnsInHanded {} Try.checked os 3 .any (Rows.nfaFreeSpec.pre6 enc Try.prog Try.f3 Rows.nfaFreeRow.domain false)
      (Rows.nfaFreeSpec.post enc Try.prog Try.f3 Rows.nfaFreeRow.apart Rows.nfaFreeRow.fresh Rows.nfaFreeRow.handsOn Rows.nfaFreeRow.again) := by
  refine returnsInHanded_of_change_sized (C := Try.checked) Try.own started (by kernel_rfl) Try.func3
    (ChangeSpec.witness6 (enc := enc) (C := Try.checked) false ⟨#[], #[.agg #[.int .i64 0, .int .i64 0, .int .i64 0, .slice none 0 0], .slice none 0 0], []⟩ 8 (by kernel_rfl) (by kernel_rfl) (by kernel_rfl) (by kernel_rfl)) ?_
  intro W base args ds gs before hval0 hW _ hsz0 _
  have hsz : (DataW.weightsEach Try.prog (Try.f3.params.toList ++ Rows.nfaFreeSpec.plain.varTypes Try.prog) (ds ++ gs)).all (· ≤ reachBytes) = true := hsz0
  clear hsz0
  have hval : ∀ (j : Nat) t v, Try.f3.params[j]? = some t → args[j]? = some v → Value.okWide Try.prog W .any base t v := hval0
  have hW' := hW
  obtain ⟨p, q, hA0, hV, rfl, _, _⟩ := hW
  have hA : DataW.TrodAll enc Try.prog W 0 (fun _ => true) true Try.f3.params.toList args.toList ds p := hA0
  rw [Try.params3] at hA hval hsz
  obtain ⟨v0, v1, d0, d1, p0, p1, rfl, rfl, rfl, h0, h1⟩ := trodAll_two hA
  obtain ⟨rfl, rfl⟩ := trodVars_none hV
  clear hA0 hval0
  obtain ⟨A, n, c, S, a, z, E, rfl, hm, hu⟩ := open_nfa (hval 0 24 v0 rfl rfl) h0 (Wt.of_arg hsz (j := 0) rfl rfl)
  obtain ⟨A2, n2, c2, L, rfl, hl2, hn2, ha2⟩ := open_list (hval 1 25 v1 rfl rfl) h1 (Wt.of_arg hsz (j := 1) rfl rfl)
  clear hu
  refine (law_nfree A n c S a z E A2 n2 c2 L W hm hl2 hn2 ha2).mono fun e W' ⟨he, hb⟩ => ?_
  subst he
  exact ⟨_, rfl, law_post (tb := 4) Try.laidOut (by rw [Try.params3]; intro t ht; simp at ht; rcases ht with rfl | rfl <;> exact ⟨by kernel_rfl, of_decide_eq_true (by kernel_rfl)⟩) rfl rfl Try.underlying4 hW' rfl rfl rfl hb⟩

theorem nfaFree_holds : Rows.NfaFreeSaid :=
  OpenClaim.holds_of_wide 3 Try.f3 rfl rfl rfl rfl rfl rfl rfl ⟨rfl, rfl, rfl, rfl, rfl⟩ rfl rfl rfl rfl rfl (by kernel_rfl) Try.func3 (by kernel_rfl)
    (of_decide_eq_true (by kernel_rfl)) (by unfold Func.isWrapper; first | (rw [if_pos (by decide +kernel)]; kernel_rfl) | (rw [if_neg (by decide +kernel)]; exact ⟨rfl, rfl⟩))
    (fun os started H enc _ => nfaFree_lifted os started H enc)

end Go.Proofs.Ytjpifofnlcajfaa
