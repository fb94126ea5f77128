/- HashSafe returns true for every hash and key, and leaves the hash as it was; no condition. -/
import Derived.Test.YthgkangbidcecaaOpen
import Derived.Test.YthgkangbidcecaaAlive
namespace Go.Proofs.Ythgkangbidcecaa
open Go.RowKit Go.ChangeShapes Go.WideShapes Go.ChangeAt Go.Deep

theorem get_false (mx : Int → Int → Int) (S K V : List Int) (key : Int) (h : (get mx S K V key).2 = false) : (get mx S K V key).1 = 0 := by
  unfold get at *
  split
  · rfl
  · rename_i h1
    rw [if_neg h1] at h
    split
    · rfl
    · rename_i h2; rw [if_neg h2] at h; cases h
theorem get_true (mx : Int → Int → Int) (S K V : List Int) (key : Int) (h : (get mx S K V key).2 = true) : ∃ p, p < K.length ∧ p < V.length ∧ K.getD p 0 = key ∧ V.getD p 0 = (get mx S K V key).1 := by
  unfold get at *
  split at h
  · cases h
  · rename_i h1
    split at h
    · cases h
    · rename_i h2
      obtain ⟨p, hp⟩ := place_nat mx S K key (by omega)
      rw [hp] at h2 ⊢
      have h3 : ¬ (K.length ≤ p) := by omega
      have h4 : K.getD (p : Int).toNat 0 = key := by
        apply Classical.byContradiction
        intro hn; exact h2 (.inr hn)
      rw [Int.toNat_natCast] at *
      refine ⟨p, by omega, by omega, h4, ?_⟩
      rw [if_neg h1, if_neg h2]

set_option maxHeartbeats 2000000 in
theorem law_safe (A0 A1 A2 : Option Addr) (n0 n1 n2 c0 c1 c2 : Nat) (S K V : List Int) (key : Int) (w : World)
    (hh : HashIn w A0 A1 A2 n0 n1 n2 S K V) :
    Calls Try.prog 3 #[.agg #[.slice A0 n0 c0, .slice A1 n1 c1, .slice A2 n2 c2], .int .u64 key] w fun e w' => e = .returned (.bool true) ∧ Below w.heap.size w w' := by
  have hB0 := Boxed.new w (.slice A0 n0 c0) (.slice A1 n1 c1) (.slice A2 n2 c2) 25
  have HI := Lib.hid (hh.keep hB0.below)
  obtain ⟨v, hv⟩ : ∃ v, v = (get mix S K V key).1 := ⟨_, rfl⟩
  obtain ⟨is, his⟩ : ∃ is, is = (get mix S K V key).2 := ⟨_, rfl⟩
  have hk1 := hh.hK
  have hv1 := hh.hV
  have hn1 := hh.hn1
  have HV := Lib.hid hv
  have HS := Lib.hid his
  clear hh hv his
  go_enter Try.func3, Try.ntmps3
  go_wp2_with fail
  refine (alive_any _).mono ?_
  rintro e w0 ⟨rfl, hb0⟩
  have hB := hB0.keep hb0
  have HI0 := Lib.hid (HI.out.keep hb0)
  have q0 := hB.q0; have q1 := hB.q1; have q2 := hB.q2
  clear HI
  go_wp2_with fail
  refine (HI0.out.get c0 c1 c2 key).mono ?_
  rw [← HV.out, ← HS.out]
  rintro e w1 ⟨rfl, hb1⟩
  have hB1 := hB.keep hb1
  have HI1 := Lib.hid (HI0.out.keep hb1)
  have r0 := hB1.q0; have r1 := hB1.q1; have r2 := hB1.q2
  clear HI0 q0 q1 q2
  cases is with
  | false =>
    have hz : v = 0 := by rw [HV.out]; exact get_false mix S K V key HS.out.symm
    subst hz
    go_wp2
    go_ret
    exact ⟨rfl, hB1.below⟩
  | true =>
    have HT := Lib.hid (get_true mix S K V key HS.out.symm)
    go_wp2
    go_loop [24] (fun i => ∃ k : Nat, k ≤ n1 ∧ i = .int .i64 k ∧ ∀ j, j < k → ¬ (j < V.length ∧ K.getD j 0 = key ∧ V.getD j 0 = v)) (fun i => n1 - (intOf i).toNat)
    case atStart => exact ⟨0, by omega, rfl, fun j hj => absurd hj (by omega)⟩
    case round =>
      obtain ⟨k, hk, rfl, hno⟩ := hrel
      have HN := Lib.hid hno
      clear hno
      by_cases hlt : k < n1
      · obtain ⟨b1, o1, rfl, _, hc1⟩ := HI1.out.h1.one hlt
        unfold NumC at hc1
        obtain ⟨x, hx⟩ : ∃ x, x = K.getD k 0 := ⟨_, rfl⟩
        rw [← hx] at hc1
        have HX := Lib.hid hx
        clear hx
        by_cases hxk : x = key
        · by_cases hk2 : k < n2
          · obtain ⟨b2, o2, rfl, _, hc2⟩ := HI1.out.h2.one hk2
            unfold NumC at hc2
            obtain ⟨y, hy⟩ : ∃ y, y = V.getD k 0 := ⟨_, rfl⟩
            rw [← hy] at hc2
            have HY := Lib.hid hy
            clear hy
            have hbe : (x == key) = true := by simpa using hxk
            have HXK := Lib.hid hxk
            clear hxk
            by_cases hyv : y = v
            · have hbe2 : (y == v) = true := by simpa using hyv
              clear hyv
              go_wp2
              go_ret
              exact ⟨rfl, hB1.below⟩
            · have hbe2 : (y == v) = false := by simpa using hyv
              have HYV := Lib.hid hyv
              clear hyv
              go_wp2
              go_round
              case rel => exact ⟨k + 1, by omega, by go_num, fun j hj => by
                            by_cases h : j < k
                            · exact HN.out j h
                            · obtain rfl : j = k := by omega
                              rw [← HY.out]
                              exact fun ⟨_, _, h3⟩ => HYV.out h3⟩
              case measure => simp [intOf]; omega
          · have hbe : (x == key) = true := by simpa using hxk
            clear hxk
            go_wp2
            go_round
            case rel => exact ⟨k + 1, by omega, by go_num, fun j hj => by
                          by_cases h : j < k
                          · exact HN.out j h
                          · obtain rfl : j = k := by omega
                            exact fun ⟨h1, _, _⟩ => by omega⟩
            case measure => simp [intOf]; omega
        · have hbe : (x == key) = false := by simpa using hxk
          have HXK := Lib.hid hxk
          clear hxk
          go_wp2
          go_round
          case rel => exact ⟨k + 1, by omega, by go_num, fun j hj => by
                        by_cases h : j < k
                        · exact HN.out j h
                        · obtain rfl : j = k := by omega
                          rw [← HX.out]
                          exact fun ⟨_, h2, _⟩ => HXK.out h2⟩
          case measure => simp [intOf]; omega
      · exfalso
        obtain ⟨p, hp1, hp2, hp3, hp4⟩ := HT.out
        exact HN.out p (by omega) ⟨hp2, hp3, by rw [hp4, ← HV.out]⟩
set_option maxRecDepth 100000 in
theorem hashSafe_lifted (os : Os) (started : os.Started) (H : Type) (enc : TypeId × Value → H) :
    ReturnsInHanded {} Try.checked os 3 .any (Rows.hashSafeSpec.pre6 enc Try.prog Try.f3 Rows.hashSafeRow.domain false)
      (Rows.hashSafeSpec.post enc Try.prog Try.f3 Rows.hashSafeRow.apart Rows.hashSafeRow.fresh Rows.hashSafeRow.handsOn Rows.hashSafeRow.again) := by
  refine returnsInHanded_of_change_sized (C := Try.checked) Try.own started (by kernel_rfl) Try.func3
    (ChangeSpec.witness6 (enc := enc) (C := Try.checked) false ⟨#[], #[.agg #[.slice none 0 0, .slice none 0 0, .slice none 0 0], .int .u64 0], []⟩ 8 (by kernel_rfl) (by kernel_rfl) (by kernel_rfl) (by kernel_rfl)) ?_
  intro W base args ds gs before hval0 hW _ hsz0 _
  have hsz : (DataW.weightsEach Try.prog (Try.f3.params.toList ++ Rows.hashSafeSpec.plain.varTypes Try.prog) (ds ++ gs)).all (· ≤ reachBytes) = true := hsz0
  clear hsz0
  have hval : ∀ (j : Nat) t v, Try.f3.params[j]? = some t → args[j]? = some v → Value.okWide Try.prog W .any base t v := hval0
  have hW' := hW
  obtain ⟨p, q, hA0, hV, rfl, _, _⟩ := hW
  have hA : DataW.TrodAll enc Try.prog W 0 (fun _ => true) true Try.f3.params.toList args.toList ds p := hA0
  rw [Try.params3] at hA hval hsz
  obtain ⟨v0, v1, d0, d1, p0, p1, rfl, rfl, rfl, h0, h1⟩ := trodAll_two hA
  obtain ⟨rfl, rfl⟩ := trodVars_none hV
  clear hA0 hval0
  obtain ⟨A0, n0, c0, A1, n1, c1, A2, n2, c2, S, K, V, hv0, hh⟩ := open_hash (hval 0 25 v0 rfl rfl) h0 (Wt.of_arg hsz (j := 0) rfl rfl)
  rw [hv0] at hW' ⊢
  obtain ⟨key, rfl, rfl, rfl, _⟩ := open_int Try.underlying26 (hval 1 26 v1 rfl rfl) h1
  refine (law_safe A0 A1 A2 n0 n1 n2 c0 c1 c2 S K V key W hh).mono fun e W' ⟨he, hb⟩ => ?_
  subst he
  exact ⟨_, rfl, law_post (tb := 4) Try.laidOut (by rw [Try.params3]; intro t ht; simp at ht; rcases ht with rfl | rfl <;> exact ⟨by kernel_rfl, of_decide_eq_true (by kernel_rfl)⟩) rfl rfl Try.underlying4 hW' rfl rfl rfl hb⟩

theorem hashSafe_holds : Rows.HashSafeSaid :=
  OpenClaim.holds_of_wide 3 Try.f3 rfl rfl rfl rfl rfl rfl rfl ⟨rfl, rfl, rfl, rfl, rfl⟩ rfl rfl rfl rfl rfl (by kernel_rfl) Try.func3 (by kernel_rfl)
    (of_decide_eq_true (by kernel_rfl)) (by unfold Func.isWrapper; first | (rw [if_pos (by decide +kernel)]; kernel_rfl) | (rw [if_neg (by decide +kernel)]; exact ⟨rfl, rfl⟩))
    (fun os started H enc _ => hashSafe_lifted os started H enc)
end Go.Proofs.Ythgkangbidcecaa
