/- TransThen returns true for all machines and texts, and leaves the machines as they were; no condition. -/
import Derived.Test.YthjnkpoalbddkaaOpenM
import Derived.Test.YthjnkpoalbddkaaLTThen
namespace Go.Proofs.Ythjnkpoalbddkaa
open Go.RowKit Go.ChangeShapes Go.WideShapes Go.ChangeAt Go.Deep Go.Joins

set_option maxRecDepth 100000 in
theorem transThen_lifted (os : Os) (started : os.Started) (H : Type) (enc : TypeId × Value → H) :
    ReturnsInHanded {} Try.checked os 10 .any (Rows.transThenSpec.pre6 enc Try.prog Try.f10 Rows.transThenRow.domain false)
      (Rows.transThenSpec.post enc Try.prog Try.f10 Rows.transThenRow.apart Rows.transThenRow.fresh Rows.transThenRow.handsOn Rows.transThenRow.again) := by
  refine returnsInHanded_of_change_sized (C := Try.checked) Try.own started (by kernel_rfl) Try.func10
    (ChangeSpec.witness6 (enc := enc) (C := Try.checked) false ⟨#[], #[.agg #[.slice none 0 0, .slice none 0 0, .slice none 0 0, .slice none 0 0], .agg #[.slice none 0 0, .slice none 0 0, .slice none 0 0, .slice none 0 0], .string ⟨#[]⟩], []⟩ 8 (by kernel_rfl) (by kernel_rfl) (by kernel_rfl) (by kernel_rfl)) ?_
  intro W base args ds gs before hval0 hW _ hsz0 _
  have hsz : (DataW.weightsEach Try.prog (Try.f10.params.toList ++ Rows.transThenSpec.plain.varTypes Try.prog) (ds ++ gs)).all (· ≤ reachBytes) = true := hsz0
  clear hsz0
  have hval : ∀ (j : Nat) t v, Try.f10.params[j]? = some t → args[j]? = some v → Value.okWide Try.prog W .any base t v := hval0
  have hW' := hW
  obtain ⟨p, q, hA0, hV, rfl, _, _⟩ := hW
  have hA : DataW.TrodAll enc Try.prog W 0 (fun _ => true) true Try.f10.params.toList args.toList ds p := hA0
  rw [Try.params10] at hA hval hsz
  obtain ⟨v0, v1, v2, d0, d1, d2, p0, p1, p2, rfl, rfl, rfl, h0, h1, h2⟩ := trodAll_three hA
  obtain ⟨rfl, rfl⟩ := trodVars_none hV
  clear hA0 hval0
  obtain ⟨A0, A1, A2, A3, n0, n1, n2, n3, c0, c1, c2, c3, a, RAa, rca, PAa, pca, hv0, hm0⟩ := open_mach (hval 0 42 v0 rfl rfl) h0 (Wt.of_arg hsz (j := 0) rfl rfl)
  obtain ⟨B0, B1, B2, B3, k0, k1, k2, k3, e0, e1, e2, e3, b, RAb, rcb, PAb, pcb, hv1, hm1⟩ := open_mach (hval 1 42 v1 rfl rfl) h1 (Wt.of_arg hsz (j := 1) rfl rfl)
  obtain ⟨s, rfl, rfl, rfl, _⟩ := Go.ChangeMaps.open_string Try.underlying9 (hval 2 9 v2 rfl rfl) h2
  rw [hv0, hv1] at hW' ⊢
  refine (law_tthen A0 A1 A2 A3 B0 B1 B2 B3 n0 n1 n2 n3 c0 c1 c2 c3 k0 k1 k2 k3 e0 e1 e2 e3 a b RAa rca PAa pca RAb rcb PAb pcb s W hm0 hm1).mono fun e W' ⟨he, hb⟩ => ?_
  subst he
  exact ⟨_, rfl, law_post (tb := 4) Try.laidOut (by rw [Try.params10]; intro t ht; simp at ht; rcases ht with rfl | rfl | rfl <;> exact ⟨by kernel_rfl, of_decide_eq_true (by kernel_rfl)⟩) rfl rfl Try.underlying4 hW' rfl rfl rfl hb⟩

theorem transThen_holds : Rows.TransThenSaid :=
  OpenClaim.holds_of_wide 10 Try.f10 rfl rfl rfl rfl rfl rfl rfl ⟨rfl, rfl, rfl, rfl, rfl⟩ rfl rfl rfl rfl rfl (by kernel_rfl) Try.func10 (by kernel_rfl)
    (of_decide_eq_true (by kernel_rfl)) (by unfold Func.isWrapper; first | (rw [if_pos (by decide +kernel)]; kernel_rfl) | (rw [if_neg (by decide +kernel)]; exact ⟨rfl, rfl⟩))
    (fun os started H enc _ => transThen_lifted os started H enc)

end Go.Proofs.Ythjnkpoalbddkaa
