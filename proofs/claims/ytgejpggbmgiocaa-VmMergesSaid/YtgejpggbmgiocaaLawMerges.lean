/- VmMerges returns true for all hashes, numbers of signs and lists of them, and leaves them as they were; no condition. -/
import Derived.Test.YtgejpggbmgiocaaOpen2
import Derived.Test.YtgejpggbmgiocaaLMerges
namespace Go.Proofs.Ytgejpggbmgiocaa
open Go.RowKit Go.ChangeShapes Go.WideShapes Go.ChangeAt Go.Deep Go.Joins

set_option maxRecDepth 100000 in
theorem vmMerges_lifted (os : Os) (started : os.Started) (H : Type) (enc : TypeId × Value → H) :
    ReturnsInHanded {} Try.checked os 3 .any (Rows.vmMergesSpec.pre6 enc Try.prog Try.f3 Rows.vmMergesRow.domain false)
      (Rows.vmMergesSpec.post enc Try.prog Try.f3 Rows.vmMergesRow.apart Rows.vmMergesRow.fresh Rows.vmMergesRow.handsOn Rows.vmMergesRow.again) := by
  refine returnsInHanded_of_change_sized (C := Try.checked) Try.own started (by kernel_rfl) Try.func3
    (ChangeSpec.witness6 (enc := enc) (C := Try.checked) false ⟨#[], #[.agg #[.slice none 0 0, .slice none 0 0, .slice none 0 0], .int .i64 0, .slice none 0 0], []⟩ 8 (by kernel_rfl) (by kernel_rfl) (by kernel_rfl) (by kernel_rfl)) ?_
  intro W base args ds gs before hval0 hW _ hsz0 _
  have hsz : (DataW.weightsEach Try.prog (Try.f3.params.toList ++ Rows.vmMergesSpec.plain.varTypes Try.prog) (ds ++ gs)).all (· ≤ reachBytes) = true := hsz0
  clear hsz0
  have hval : ∀ (j : Nat) t v, Try.f3.params[j]? = some t → args[j]? = some v → Value.okWide Try.prog W .any base t v := hval0
  have hW' := hW
  obtain ⟨p, q, hA0, hV, rfl, _, _⟩ := hW
  have hA : DataW.TrodAll enc Try.prog W 0 (fun _ => true) true Try.f3.params.toList args.toList ds p := hA0
  rw [Try.params3] at hA hval hsz
  obtain ⟨v0, v1, v2, d0, d1, d2, p0, p1, p2, rfl, rfl, rfl, h0, h1, h2⟩ := trodAll_three hA
  obtain ⟨rfl, rfl⟩ := trodVars_none hV
  clear hA0 hval0
  obtain ⟨A0, n0, c0, A1, n1, c1, A2, n2, c2, S, K, V, hv0, hh, hvv⟩ := open_hash (hval 0 25 v0 rfl rfl) h0 (Wt.of_arg hsz (j := 0) rfl rfl)
  obtain ⟨x, rfl, rfl, rfl, _⟩ := open_int Try.underlying3 (hval 1 3 v1 rfl rfl) h1
  obtain ⟨AL, n, cL, l, hv2, hl, hn0, hc0, ha⟩ := open_ints (hval 2 26 v2 rfl rfl) h2 (Wt.of_arg hsz (j := 2) rfl rfl)
  rw [hv0, hv2] at hW' ⊢
  refine (law_vmerges A0 A1 A2 AL n0 n1 n2 c0 c1 c2 n cL S K V l x W hh hvv hl hc0 ha).mono fun e W' ⟨he, hb⟩ => ?_
  subst he
  exact ⟨_, rfl, law_post (tb := 4) Try.laidOut (by rw [Try.params3]; intro t ht; simp at ht; rcases ht with rfl | rfl | rfl <;> exact ⟨by kernel_rfl, of_decide_eq_true (by kernel_rfl)⟩) rfl rfl Try.underlying4 hW' rfl rfl rfl hb⟩

theorem vmMerges_holds : Rows.VmMergesSaid :=
  OpenClaim.holds_of_wide 3 Try.f3 rfl rfl rfl rfl rfl rfl rfl ⟨rfl, rfl, rfl, rfl, rfl⟩ rfl rfl rfl rfl rfl (by kernel_rfl) Try.func3 (by kernel_rfl)
    (of_decide_eq_true (by kernel_rfl)) (by unfold Func.isWrapper; first | (rw [if_pos (by decide +kernel)]; kernel_rfl) | (rw [if_neg (by decide +kernel)]; exact ⟨rfl, rfl⟩))
    (fun os started H enc _ => vmMerges_lifted os started H enc)
end Go.Proofs.Ytgejpggbmgiocaa
