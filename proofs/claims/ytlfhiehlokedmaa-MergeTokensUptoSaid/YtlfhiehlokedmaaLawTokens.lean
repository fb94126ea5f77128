/- MergeTokens returns true for all merges and texts, and leaves them as they were: where what it reads is of the bulk that the second form names. -/
import Derived.Test.YtlfhiehlokedmaaOpen
import Derived.Test.YtlfhiehlokedmaaTok
import Derived.Deep.CondSized
import Derived.JoinedCond
namespace Go.Proofs.Ytlfhiehlokedmaa
open Go.RowKit Go.ChangeShapes Go.WideShapes Go.ChangeAt Go.Deep

set_option maxRecDepth 100000 in
theorem mergeTokens_lifted (os : Os) (started : os.Started) (H : Type) (enc : TypeId × Value → H) (F : Stop.Interp) :
    ReturnsInHanded {} Try.checked os 6 .any ((Rows.OpenSpec.upto Rows.mergeTokensSpec).pre6 enc Try.prog Try.f6 Rows.mergeTokensUptoRow.domain false)
      (((Rows.OpenSpec.upto Rows.mergeTokensSpec).at F).post enc Try.prog Try.f6 Rows.mergeTokensUptoRow.apart Rows.mergeTokensUptoRow.fresh Rows.mergeTokensUptoRow.handsOn Rows.mergeTokensUptoRow.again) := by
  refine returnsInHanded_of_cond_sized (C := Try.checked) (s := (Rows.OpenSpec.upto Rows.mergeTokensSpec)) (k := Rows.uptoSmall) rfl Try.own started (by kernel_rfl) Try.func6
    (OpenSpec.witness (enc := enc) (C := Try.checked) (s := (Rows.OpenSpec.upto Rows.mergeTokensSpec)) (k := Rows.uptoSmall) rfl false ⟨#[], #[.slice none 0 0, .string .empty], []⟩ 8 (by kernel_rfl) (by kernel_rfl) (by kernel_rfl)
      (x := ([.nil, .lit (.string [])], [], [])) (by kernel_rfl) rfl (by kernel_rfl)) ?_
  intro W base args ds gs before hval0 hW _ hk hsz0 _
  have hsz : (DataW.weightsEach Try.prog (Try.f6.params.toList ++ Rows.mergeTokensSpec.plain.varTypes Try.prog) (ds ++ gs)).all (· ≤ reachBytes) = true := hsz0
  clear hsz0
  have hval : ∀ (j : Nat) t v, Try.f6.params[j]? = some t → args[j]? = some v → Value.okWide Try.prog W .any base t v := hval0
  have hW' := hW
  obtain ⟨p, q, hA0, hV, rfl, _, _⟩ := hW
  have hA : DataW.TrodAll enc Try.prog W 0 (fun _ => true) true Try.f6.params.toList args.toList ds p := hA0
  rw [Try.params6] at hA hval hsz
  obtain ⟨v0, v1, d0, d1, p0, p1, rfl, rfl, rfl, h0, h1⟩ := trodAll_two hA
  obtain ⟨rfl, rfl⟩ := trodVars_none hV
  clear hA0 hval0
  obtain ⟨A1, n1, c1, l, hv0, hl, hn1, ha1⟩ := open_merges (hval 0 22 v0 rfl rfl) h0 (Wt.of_arg hsz (j := 0) rfl rfl)
  obtain ⟨s, rfl, rfl, rfl, _⟩ := Go.ChangeMaps.open_string Try.underlying9 (hval 1 9 v1 rfl rfl) h1
  have hs : s.size ≤ 1048576 := by
    have h := of_decide_eq_true hk
    simp only [List.append_nil, Rows.uptoBulkAll, Rows.uptoBulk] at h
    have e : s.data.toList.length = s.size := rfl
    omega
  rw [hv0] at hW' ⊢
  refine (law_tokens A1 n1 c1 l s W hl hn1 hs ha1).mono fun e W' ⟨he, hb⟩ => ?_
  subst he
  refine ⟨_, rfl, ?_⟩
  show Rows.mergeTokensSpec.post enc Try.prog Try.f6 Rows.mergeTokensUptoRow.apart Rows.mergeTokensUptoRow.fresh Rows.mergeTokensUptoRow.handsOn Rows.mergeTokensUptoRow.again W _ _ _
  exact law_post (tb := 4) Try.laidOut (by rw [Try.params6]; intro t ht; simp at ht; rcases ht with rfl | rfl <;> exact ⟨by kernel_rfl, of_decide_eq_true (by kernel_rfl)⟩) rfl rfl Try.underlying4 hW' rfl rfl rfl hb

theorem mergeTokens_holds : Rows.MergeTokensUptoSaid :=
  OpenClaim.holds_of_cond 6 Try.f6 rfl rfl rfl rfl rfl rfl rfl ⟨rfl, rfl, rfl, rfl, rfl⟩ rfl rfl rfl rfl rfl (by kernel_rfl) Try.func6 (by kernel_rfl)
    (of_decide_eq_true (by kernel_rfl)) (by unfold Func.isWrapper; first | (rw [if_pos (by decide +kernel)]; kernel_rfl) | (rw [if_neg (by decide +kernel)]; exact ⟨rfl, rfl⟩))
    (fun os started H enc _ F => mergeTokens_lifted os started H enc F)

end Go.Proofs.Ytlfhiehlokedmaa
