/- RuleOrder returns true for all rules, texts and numbers, and leaves the rules as they were; no condition. -/
import Derived.Test.YthjnkpoalbddkaaOpen
import Derived.Test.YthjnkpoalbddkaaLOrder
import Derived.HandedShaped
namespace Go.Proofs.Ythjnkpoalbddkaa
open Go.RowKit Go.ChangeShapes Go.WideShapes Go.ChangeAt Go.Deep

set_option maxRecDepth 100000 in
theorem open_rules2 {H : Type} {enc : TypeId × Value → H} {W : World} {base : Nat} {spare : Nat → Bool} {held : Bool} {r : Reach} {b0 : Nat} {v : Value} {d : DataW H} {p : List MemPlace}
    (hv : Value.okWide Try.prog W r b0 22 v) (h : DataW.Trod enc Try.prog W base spare held 22 v d p) (hw : Wt Try.prog 22 d) :
    ∃ A n c l, v = .slice A n c ∧ RulesIn W A n l ∧ n ≤ c ∧ (A = none → n = 0 ∧ c = 0) := by
  have h' := h
  obtain ⟨A, n, c, l, rfl, hr, hnc⟩ := open_rules hv h hw
  refine ⟨A, n, c, l, rfl, hr, hnc, fun hA => ?_⟩
  subst hA
  obtain ⟨fuel, hf⟩ := h'
  rcases open_slice Try.underlying22 hf with ⟨he, _⟩ | ⟨a, len', cap', m, n', D, Pl, he, _⟩
  · simp [Value.cells] at he
    exact he
  · simp [Value.cells] at he
theorem some_len (W : World) (h : W.ShapedOpen Try.prog) : ∃ m, W.cell? ⟨0, 0, none⟩ = some (.int .i64 m) :=
  cell_of_shapedOpen_int (zero := #[.int .i64 0]) (t := 3) h (of_decide_eq_true (by kernel_rfl)) (by kernel_rfl) rfl (by kernel_rfl) (by kernel_rfl) Try.underlying3

set_option maxRecDepth 100000 in
theorem ruleOrder_lifted (os : Os) (started : os.Started) (H : Type) (enc : TypeId × Value → H) :
    ReturnsInHanded {} Try.checked os 6 .any (Rows.ruleOrderSpec.pre6 enc Try.prog Try.f6 Rows.ruleOrderRow.domain false)
      (Rows.ruleOrderSpec.post enc Try.prog Try.f6 Rows.ruleOrderRow.apart Rows.ruleOrderRow.fresh Rows.ruleOrderRow.handsOn Rows.ruleOrderRow.again) := by
  refine returnsInHanded_of_change_shaped (C := Try.checked) Try.own started (by kernel_rfl) Try.func6
    (ChangeSpec.witness6 (enc := enc) (C := Try.checked) false ⟨#[], #[.slice none 0 0, .string ⟨#[]⟩, .int .i64 0, .string ⟨#[]⟩], []⟩ 8 (by kernel_rfl) (by kernel_rfl) (by kernel_rfl) (by kernel_rfl)) ?_
  intro W base args ds gs before hval0 hW _ hsz0 hshape _
  have hsz : (DataW.weightsEach Try.prog (Try.f6.params.toList ++ Rows.ruleOrderSpec.plain.varTypes Try.prog) (ds ++ gs)).all (· ≤ reachBytes) = true := hsz0
  clear hsz0
  have hval : ∀ (j : Nat) t v, Try.f6.params[j]? = some t → args[j]? = some v → Value.okWide Try.prog W .any base t v := hval0
  have hW' := hW
  obtain ⟨p, q, hA0, hV, rfl, _, _⟩ := hW
  have hA : DataW.TrodAll enc Try.prog W 0 (fun _ => true) true Try.f6.params.toList args.toList ds p := hA0
  rw [Try.params6] at hA hval hsz
  obtain ⟨v0, v1, v2, v3, d0, d1, d2, d3, p0, p1, p2, p3, rfl, rfl, rfl, h0, h1, h2, h3⟩ := trodAll_four hA
  obtain ⟨rfl, rfl⟩ := trodVars_none hV
  clear hA0 hval0
  obtain ⟨A0, n0, c0, l, hv0, hr, hnc, hAn⟩ := open_rules2 (hval 0 22 v0 rfl rfl) h0 (Wt.of_arg hsz (j := 0) rfl rfl)
  obtain ⟨s, rfl, rfl, rfl, _⟩ := Go.ChangeMaps.open_string Try.underlying9 (hval 1 9 v1 rfl rfl) h1
  obtain ⟨y, rfl, rfl, rfl, _⟩ := open_int Try.underlying3 (hval 2 3 v2 rfl rfl) h2
  obtain ⟨more, rfl, rfl, rfl, _⟩ := Go.ChangeMaps.open_string Try.underlying9 (hval 3 9 v3 rfl rfl) h3
  rw [hv0] at hW' ⊢
  refine (law_order A0 n0 c0 l s more y W hr hnc hAn (some_len W hshape)).mono fun e W' ⟨he, hb⟩ => ?_
  subst he
  exact ⟨_, rfl, law_post (tb := 4) Try.laidOut (by rw [Try.params6]; intro t ht; simp at ht; rcases ht with rfl | rfl | rfl | rfl <;> exact ⟨by kernel_rfl, of_decide_eq_true (by kernel_rfl)⟩) rfl rfl Try.underlying4 hW' rfl rfl rfl hb⟩

theorem ruleOrder_holds : Rows.RuleOrderSaid :=
  OpenClaim.holds_of_wide 6 Try.f6 rfl rfl rfl rfl rfl rfl rfl ⟨rfl, rfl, rfl, rfl, rfl⟩ rfl rfl rfl rfl rfl (by kernel_rfl) Try.func6 (by kernel_rfl)
    (of_decide_eq_true (by kernel_rfl)) (by unfold Func.isWrapper; first | (rw [if_pos (by decide +kernel)]; kernel_rfl) | (rw [if_neg (by decide +kernel)]; exact ⟨rfl, rfl⟩))
    (fun os started H enc _ => ruleOrder_lifted os started H enc)

end Go.Proofs.Ythjnkpoalbddkaa
