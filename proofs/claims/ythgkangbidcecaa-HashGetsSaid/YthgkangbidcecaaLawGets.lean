/- HashGets returns true for every hash, seed and key, and leaves the hash as it was; no condition. -/
import Derived.Test.YthgkangbidcecaaOpen
namespace Go.Proofs.Ythgkangbidcecaa
open Go.RowKit Go.ChangeShapes Go.WideShapes Go.ChangeAt Go.Deep

set_option maxHeartbeats 2000000 in
theorem law_gets (A0 A1 A2 : Option Addr) (n0 n1 n2 c0 c1 c2 : Nat) (S K V : List Int) (seed key : Int) (w : World) (hs0 : 0 ≤ seed) (hs1 : seed < 4294967296)
    (hh : HashIn w A0 A1 A2 n0 n1 n2 S K V) :
    Calls Try.prog 4 #[.agg #[.slice A0 n0 c0, .slice A1 n1 c1, .slice A2 n2 c2], .int .u32 seed, .int .u64 key] w fun e w' => e = .returned (.bool true) ∧ Below w.heap.size w w' := by
  have hB0 := Boxed.new w (.slice A0 n0 c0) (.slice A1 n1 c1) (.slice A2 n2 c2) 25
  have HI := Lib.hid (hh.keep hB0.below)
  have HM := Lib.hid fun W => mix_any seed key W hs0 hs1
  have HRM := Lib.hid fun W => rmix_any seed key W hs0 hs1
  clear hh
  go_enter Try.func4, Try.ntmps4
  go_wp2_with fail
  refine (HI.out.get c0 c1 c2 key).mono ?_
  rintro e w1 ⟨rfl, hb1⟩
  have hB1 := hB0.keep hb1
  have HI1 := Lib.hid (HI.out.keep hb1)
  have q0 := hB1.q0; have q1 := hB1.q1; have q2 := hB1.q2
  clear HI
  go_wp2_with fail
  refine (HI1.out.rget c0 c1 c2 key).mono ?_
  rintro e w2 ⟨rfl, hb2⟩
  have hB2 := hB1.keep hb2
  have hI2 := HI1.out.keep hb2
  have r0 := hB2.q0; have r1 := hB2.q1; have r2 := hB2.q2
  clear q0 q1 q2 hb1 hb2 HI1
  go_wp2_with fail
  go_region_held3 (fun w' => Boxed w (.slice A0 n0 c0) (.slice A1 n1 c1) (.slice A2 n2 c2) w' ∧ HashIn w' A0 A1 A2 n0 n1 n2 S K V ∧ w'.cell? ⟨w.heap.size, 0, none⟩ = some (.slice A0 n0 c0) ∧ w'.cell? ⟨w.heap.size, 1, none⟩ = some (.slice A1 n1 c1) ∧ w'.cell? ⟨w.heap.size, 2, none⟩ = some (.slice A2 n2 c2))
    (first
      | assumption
      | exact ⟨hB9, hI9, hB9.q0, hB9.q1, hB9.q2⟩
      | exact ⟨hB2.keep (Below.refl _ _).drew, hI2.keep (Below.refl _ _).drew, r0, r1, r2⟩)
    (first
      | (go_at_call 9; refine (HM.out _).mono ?_; rintro e w' ⟨rfl, rfl⟩)
      | (go_at_call 10; refine (HRM.out _).mono ?_; rintro e w' ⟨rfl, rfl⟩)
      | (go_at_call 11; go_split_ands; refine (HashIn.right (S := S) (K := K) (V := V) (by assumption) c0 c1 c2).mono ?_; rintro e w9 ⟨rfl, hb9⟩; have hB9 := Boxed.keep (W := w) (v0 := .slice A0 n0 c0) (v1 := .slice A1 n1 c1) (v2 := .slice A2 n2 c2) (by assumption) hb9; have hI9 := HashIn.keep (A0 := A0) (A1 := A1) (A2 := A2) (n0 := n0) (n1 := n1) (n2 := n2) (S := S) (K := K) (V := V) (by assumption) hb9)
      | (go_at_call 12; go_split_ands; refine (HashIn.rright (S := S) (K := K) (V := V) (by assumption) c0 c1 c2).mono ?_; rintro e w9 ⟨rfl, hb9⟩; have hB9 := Boxed.keep (W := w) (v0 := .slice A0 n0 c0) (v1 := .slice A1 n1 c1) (v2 := .slice A2 n2 c2) (by assumption) hb9; have hI9 := HashIn.keep (A0 := A0) (A1 := A1) (A2 := A2) (n0 := n0) (n1 := n1) (n2 := n2) (S := S) (K := K) (V := V) (by assumption) hb9))
  go_wp2
  go_ret
  go_split_ands
  exact ⟨by simp, Boxed.below (v0 := .slice A0 n0 c0) (v1 := .slice A1 n1 c1) (v2 := .slice A2 n2 c2) (by assumption)⟩
set_option maxRecDepth 100000 in
theorem hashGets_lifted (os : Os) (started : os.Started) (H : Type) (enc : TypeId × Value → H) :
    ReturnsInHanded {} Try.checked os 4 .any (Rows.hashGetsSpec.pre6 enc Try.prog Try.f4 Rows.hashGetsRow.domain false)
      (Rows.hashGetsSpec.post enc Try.prog Try.f4 Rows.hashGetsRow.apart Rows.hashGetsRow.fresh Rows.hashGetsRow.handsOn Rows.hashGetsRow.again) := by
  refine returnsInHanded_of_change_sized (C := Try.checked) Try.own started (by kernel_rfl) Try.func4
    (ChangeSpec.witness6 (enc := enc) (C := Try.checked) false ⟨#[], #[.agg #[.slice none 0 0, .slice none 0 0, .slice none 0 0], .int .u32 0, .int .u64 0], []⟩ 8 (by kernel_rfl) (by kernel_rfl) (by kernel_rfl) (by kernel_rfl)) ?_
  intro W base args ds gs before hval0 hW _ hsz0 _
  have hsz : (DataW.weightsEach Try.prog (Try.f4.params.toList ++ Rows.hashGetsSpec.plain.varTypes Try.prog) (ds ++ gs)).all (· ≤ reachBytes) = true := hsz0
  clear hsz0
  have hval : ∀ (j : Nat) t v, Try.f4.params[j]? = some t → args[j]? = some v → Value.okWide Try.prog W .any base t v := hval0
  have hW' := hW
  obtain ⟨p, q, hA0, hV, rfl, _, _⟩ := hW
  have hA : DataW.TrodAll enc Try.prog W 0 (fun _ => true) true Try.f4.params.toList args.toList ds p := hA0
  rw [Try.params4] at hA hval hsz
  obtain ⟨v0, v1, v2, d0, d1, d2, p0, p1, p2, rfl, rfl, rfl, h0, h1, h2⟩ := trodAll_three hA
  obtain ⟨rfl, rfl⟩ := trodVars_none hV
  clear hA0 hval0
  obtain ⟨A0, n0, c0, A1, n1, c1, A2, n2, c2, S, K, V, hv0, hh⟩ := open_hash (hval 0 25 v0 rfl rfl) h0 (Wt.of_arg hsz (j := 0) rfl rfl)
  rw [hv0] at hW' ⊢
  obtain ⟨seed, rfl, rfl, rfl, ws⟩ := open_int Try.underlying31 (hval 1 31 v1 rfl rfl) h1
  obtain ⟨key, rfl, rfl, rfl, _⟩ := open_int Try.underlying26 (hval 2 26 v2 rfl rfl) h2
  refine (law_gets A0 A1 A2 n0 n1 n2 c0 c1 c2 S K V seed key W (wf_u32 _ ws).1 (wf_u32 _ ws).2 hh).mono fun e W' ⟨he, hb⟩ => ?_
  subst he
  exact ⟨_, rfl, law_post (tb := 4) Try.laidOut (by rw [Try.params4]; intro t ht; simp at ht; rcases ht with rfl | rfl | rfl <;> exact ⟨by kernel_rfl, of_decide_eq_true (by kernel_rfl)⟩) rfl rfl Try.underlying4 hW' rfl rfl rfl hb⟩

theorem hashGets_holds : Rows.HashGetsSaid :=
  OpenClaim.holds_of_wide 4 Try.f4 rfl rfl rfl rfl rfl rfl rfl ⟨rfl, rfl, rfl, rfl, rfl⟩ rfl rfl rfl rfl rfl (by kernel_rfl) Try.func4 (by kernel_rfl)
    (of_decide_eq_true (by kernel_rfl)) (by unfold Func.isWrapper; first | (rw [if_pos (by decide +kernel)]; kernel_rfl) | (rw [if_neg (by decide +kernel)]; exact ⟨rfl, rfl⟩))
    (fun os started H enc _ => hashGets_lifted os started H enc)
end Go.Proofs.Ythgkangbidcecaa
