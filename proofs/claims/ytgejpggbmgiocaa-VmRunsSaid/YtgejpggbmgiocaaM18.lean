/- LMerges of this seat, in one text. -/
import Derived.Test.YtgejpggbmgiocaaM16
import Derived.Test.YtgejpggbmgiocaaM17
/- VmMerges, with its arguments laid open. -/
namespace Go.Proofs.Ytgejpggbmgiocaa
open Go.RowKit
theorem length_mergeN {get : Int → Int → Option (Int × Int)} {signs : Int} : ∀ (n : Nat) (l o : List Int), mergeN get signs n l = some o → o.length ≤ l.length := fun n => by
  induction n with
  | zero => intro l o h; cases h; exact Nat.le_refl _
  | succ n ih =>
    intro l o h
    unfold mergeN at h
    cases hb : bestOf get l with
    | none => rw [hb] at h; cases h; exact Nat.le_refl _
    | some b =>
      obtain ⟨a, r, x⟩ := b
      rw [hb] at h
      simp only at h
      split at h
      · cases h
      · have h1 := ih _ _ h
        have h2 := length_mergeAt (x := x) (bestOf_at hb).1
        omega
theorem length_mergeF {get : Int → Int → Option (Int × Int)} {signs : Int} {l o : List Int} (h : mergeF get signs l = some o) : o.length ≤ l.length := length_mergeN _ _ _ h
/-- the law's world: the hash in its box -/
structure HWd (w : World) (v0 v1 v2 : Value) (W : World) : Prop where
  bel : Below w.heap.size w W
  lt : w.heap.size < W.heap.size
  blk : Blk W w.heap.size 25 [v0, v1, v2]
theorem HWd.go {w W W' : World} {v0 v1 v2 : Value} (h : HWd w v0 v1 v2 W) (hb : Below W.heap.size W W') : HWd w v0 v1 v2 W' := ⟨h.bel.trans (hb.mono (Nat.le_of_lt h.lt)), Nat.lt_of_lt_of_le h.lt hb.size, h.blk.below hb h.lt⟩
set_option maxRecDepth 100000 in
set_option maxHeartbeats 8000000 in
theorem law_vmerges (A0 A1 A2 AL : Option Addr) (n0 n1 n2 c0 c1 c2 n cL : Nat) (S K V l : List Int) (signs : Int) (w : World) (h : HashIn w A0 A1 A2 n0 n1 n2 S K V) (hv : Under 18446744073709551616 V) (hl : l.length = n) (hnc : n ≤ cL) (hL : Arr w w.heap.size 1 AL n (IntC l)) :
    Calls Try.prog 3 #[.agg #[.slice A0 n0 c0, .slice A1 n1 c1, .slice A2 n2 c2], .int .i64 signs, .slice AL n cL] w fun e w' => e = .returned (.bool true) ∧ Below w.heap.size w w' := by
  have HW := Lib.hid (show HWd w (.slice A0 n0 c0) (.slice A1 n1 c1) (.slice A2 n2 c2) (w.alloc (.cells #[.slice A0 n0 c0, .slice A1 n1 c1, .slice A2 n2 c2] 25)) from ⟨(Below.refl _ _).alloc (Nat.le_refl _) _, by simp, Blk.new w 25 [.slice A0 n0 c0, .slice A1 n1 c1, .slice A2 n2 c2]⟩)
  obtain ⟨W1, hW1⟩ : ∃ W1, W1 = w.alloc (.cells #[.slice A0 n0 c0, .slice A1 n1 c1, .slice A2 n2 c2] 25) := ⟨_, rfl⟩
  rw [← hW1] at HW
  have hq0 := HW.out.blk.cell 0
  have hq1 := HW.out.blk.cell 1
  have hq2 := HW.out.blk.cell 2
  simp only [List.getElem?_cons_zero, List.getElem?_cons_succ] at hq0 hq1 hq2
  by_cases hbig : 262144 < n
  · have a1 : decide ((60 : Int) < (n : Int)) = true := by simp; omega
    have a2 : decide ((n : Int) ≤ 262144) = false := by simp; omega
    have d3 : decide ((262144 : Int) < (n : Int)) = true := by simp; omega
    have HR := Lib.hid (fun W => merge_refused (.slice A0 n0 c0) (.slice A1 n1 c1) (.slice A2 n2 c2) AL n cL signs W (by omega))
    go_enter Try.func3, Try.ntmps3
    go_upto_region 3 with (fail)
    rw [← hW1]
    clear hW1
    go_wp2_with fail
    refine (HR.out _).mono ?_
    rintro e w2 ⟨rfl, hb2⟩
    have HB2 := Lib.hid ((HW.out.bel).trans (hb2.mono (Nat.le_of_lt HW.out.lt)))
    clear hb2
    by_cases h1 : signs < 0
    · have d1 : decide (signs < 0) = true := by simpa using h1
      go_wp2_with fail
      go_returns
      exact ⟨by first | rfl | simp, HB2.out⟩
    · have d1 : decide (signs < 0) = false := by simp; omega
      by_cases h2 : 65536 < signs
      · have d2 : decide (65536 < signs) = true := by simpa using h2
        go_wp2_with fail
        go_returns
        exact ⟨by first | rfl | simp, HB2.out⟩
      · have d2 : decide (65536 < signs) = false := by simp; omega
        go_wp2_with fail
        go_returns
        exact ⟨by first | rfl | simp, HB2.out⟩
  by_cases hcut : 60 < n
  · have a1 : decide ((60 : Int) < (n : Int)) = true := by simp; omega
    have a2 : decide ((n : Int) ≤ 262144) = true := by simp; omega
    have a3 : decide (60 ≤ cL) = true := by simp; omega
    have a4 : 60 ≤ cL := by omega
    have hlen : (l.take 60).length = 60 := by rw [List.length_take]; omega
    have hL : Arr w w.heap.size 1 AL 60 (IntC (l.take 60)) := fun _ => by
      obtain ⟨b, o, e, hlt, hc⟩ := hL (by omega)
      refine ⟨b, o, e, hlt, fun k j hk hj => ?_⟩
      rw [hc k j (by omega) hj]
      simp [IntC, List.getD_eq_getElem?_getD, hk]
    go_enter Try.func3, Try.ntmps3
    go_upto_region 3 with (fail)
    rw [← hW1]
    clear hW1 a1 a2 a3

    by_cases hsg : signs < 0 ∨ 65536 < signs
    · have HR := Lib.hid (fun W => merge_refused (.slice A0 n0 c0) (.slice A1 n1 c1) (.slice A2 n2 c2) AL 60 cL signs W (by omega))
      have b5 : (decide (signs < 0) || decide (65536 < signs)) = true := by
        rcases hsg with h9 | h9
        · simp [h9]
        · simp [h9]
      go_wp2_with fail
      refine (HR.out _).mono ?_
      rintro e w2 ⟨rfl, hb2⟩
      have HB2 := Lib.hid ((HW.out.bel).trans (hb2.mono (Nat.le_of_lt HW.out.lt)))
      clear hb2
      rcases hsg with h9 | h9
      · have d1 : decide (signs < 0) = true := by simpa using h9
        go_wp2_with fail
        go_returns
        exact ⟨by first | rfl | simp, HB2.out⟩
      · have d1 : decide (signs < 0) = false := by simp; omega
        have d2 : decide (65536 < signs) = true := by simpa using h9
        go_wp2_with fail
        go_returns
        exact ⟨by first | rfl | simp, HB2.out⟩
    · have d1 : decide (signs < 0) = false := by simp; omega
      have d2 : decide (65536 < signs) = false := by simp; omega
      have d3 : decide ((262144 : Int) < ((60 : Nat) : Int)) = false := by simp
      have HG := Lib.hid (merge_walk A0 A1 A2 AL n0 n1 n2 c0 c1 c2 60 cL S K V (l.take 60) signs W1 (h.keep HW.out.bel) hv (by omega) (by omega) (by omega) hlen ((hL.below HW.out.bel).more HW.out.bel.size))
      obtain ⟨R, hR⟩ : ∃ R, R = (if badId signs (l.take 60) = true then none else mergeF (hget S K V) signs (l.take 60)) := ⟨_, rfl⟩
      have hro : ∀ o, R = some o → o.length ≤ 60 := fun o ho => by
        rw [hR] at ho
        split at ho
        · cases ho
        · rw [← hlen]; exact length_mergeF ho
      have HRG := Lib.hid (fun W hb => rmerge_any A0 A1 A2 AL n0 n1 n2 c0 c1 c2 60 cL S K V (l.take 60) signs W (h.keep hb) hv (by omega) (by omega) (by omega) hlen ((hL.below hb).more hb.size))
      rw [← hR] at HG HRG
      have HRO := Lib.hid hro
      clear hR hro hsg
      go_wp2_with fail
      refine HG.out.mono ?_
      rintro e w2 ⟨hb2, hr2⟩
      have HW2 := Lib.hid (HW.out.go hb2)
      have hz0 := HW2.out.blk.cell 0
      have hz1 := HW2.out.blk.cell 1
      have hz2 := HW2.out.blk.cell 2
      simp only [List.getElem?_cons_zero, List.getElem?_cons_succ] at hz0 hz1 hz2
      clear hb2 hq0 hq1 hq2
      cases R with
      | none =>
        subst hr2
        go_wp2_with fail
        refine (HRG.out _ HW2.out.bel).mono ?_
        rintro e w3 ⟨hb3, rfl⟩
        have HW3 := Lib.hid (HW2.out.go hb3)
        clear hb3
        go_wp2_with fail
        refine (ints_any none none 0 0 0 0 w3.heap.size [] [] w3 rfl rfl (by omega) (by omega) (fun h9 => absurd h9 (by omega)) (fun h9 => absurd h9 (by omega))).mono ?_
        rintro e w4 ⟨rfl, m4, rfl⟩
        go_wp2_with fail
        go_returns
        exact ⟨by first | rfl | simp, below_drewN HW3.out.bel _⟩
      | some o =>
        obtain ⟨A7, c7, rfl, hA7, _⟩ := hr2
        have HA7 := Lib.hid hA7
        have hol := HRO.out o rfl
        clear hA7
        obtain ⟨on, hon⟩ : ∃ on, on = o.length := ⟨_, rfl⟩
        rw [← hon] at HA7 hol ⊢
        have HON := Lib.hid hon
        go_wp2_with fail
        refine (HRG.out _ HW2.out.bel).mono ?_
        rintro e w3 ⟨hb3, A8, c8, rfl, hA8, _⟩
        have HW3 := Lib.hid (HW2.out.go hb3)
        have HA7b := Lib.hid ((HA7.out.below hb3).more hb3.size)
        have HA8 := Lib.hid hA8
        rw [← HON.out] at HA8 ⊢
        clear hb3 hA8 hon
        go_wp2_with fail
        refine (ints_any A7 A8 on on c7 c8 w3.heap.size o o w3 HON.out.symm HON.out.symm (by omega) (by omega) HA7b.out HA8.out).mono ?_
        rintro e w4 ⟨rfl, m4, rfl⟩
        have e9 : decide (o = o) = true := by simp
        go_wp2_with fail
        go_returns
        exact ⟨by first | rfl | simp, below_drewN HW3.out.bel _⟩
  · have a1 : decide ((60 : Int) < (n : Int)) = false := by simp; omega
    have hlen : l.length = n := hl
    go_enter Try.func3, Try.ntmps3
    go_upto_region 3 with (fail)
    rw [← hW1]
    clear hW1 a1

    by_cases hsg : signs < 0 ∨ 65536 < signs
    · have HR := Lib.hid (fun W => merge_refused (.slice A0 n0 c0) (.slice A1 n1 c1) (.slice A2 n2 c2) AL n cL signs W (by omega))
      have b5 : (decide (signs < 0) || decide (65536 < signs)) = true := by
        rcases hsg with h9 | h9
        · simp [h9]
        · simp [h9]
      go_wp2_with fail
      refine (HR.out _).mono ?_
      rintro e w2 ⟨rfl, hb2⟩
      have HB2 := Lib.hid ((HW.out.bel).trans (hb2.mono (Nat.le_of_lt HW.out.lt)))
      clear hb2
      rcases hsg with h9 | h9
      · have d1 : decide (signs < 0) = true := by simpa using h9
        go_wp2_with fail
        go_returns
        exact ⟨by first | rfl | simp, HB2.out⟩
      · have d1 : decide (signs < 0) = false := by simp; omega
        have d2 : decide (65536 < signs) = true := by simpa using h9
        go_wp2_with fail
        go_returns
        exact ⟨by first | rfl | simp, HB2.out⟩
    · have d1 : decide (signs < 0) = false := by simp; omega
      have d2 : decide (65536 < signs) = false := by simp; omega
      have d3 : decide ((262144 : Int) < (n : Int)) = false := by simp; omega
      have HG := Lib.hid (merge_walk A0 A1 A2 AL n0 n1 n2 c0 c1 c2 n cL S K V l signs W1 (h.keep HW.out.bel) hv (by omega) (by omega) (by omega) hlen ((hL.below HW.out.bel).more HW.out.bel.size))
      obtain ⟨R, hR⟩ : ∃ R, R = (if badId signs l = true then none else mergeF (hget S K V) signs l) := ⟨_, rfl⟩
      have hro : ∀ o, R = some o → o.length ≤ n := fun o ho => by
        rw [hR] at ho
        split at ho
        · cases ho
        · rw [← hlen]; exact length_mergeF ho
      have HRG := Lib.hid (fun W hb => rmerge_any A0 A1 A2 AL n0 n1 n2 c0 c1 c2 n cL S K V l signs W (h.keep hb) hv (by omega) (by omega) (by omega) hlen ((hL.below hb).more hb.size))
      rw [← hR] at HG HRG
      have HRO := Lib.hid hro
      clear hR hro hsg
      go_wp2_with fail
      refine HG.out.mono ?_
      rintro e w2 ⟨hb2, hr2⟩
      have HW2 := Lib.hid (HW.out.go hb2)
      have hz0 := HW2.out.blk.cell 0
      have hz1 := HW2.out.blk.cell 1
      have hz2 := HW2.out.blk.cell 2
      simp only [List.getElem?_cons_zero, List.getElem?_cons_succ] at hz0 hz1 hz2
      clear hb2 hq0 hq1 hq2
      cases R with
      | none =>
        subst hr2
        go_wp2_with fail
        refine (HRG.out _ HW2.out.bel).mono ?_
        rintro e w3 ⟨hb3, rfl⟩
        have HW3 := Lib.hid (HW2.out.go hb3)
        clear hb3
        go_wp2_with fail
        refine (ints_any none none 0 0 0 0 w3.heap.size [] [] w3 rfl rfl (by omega) (by omega) (fun h9 => absurd h9 (by omega)) (fun h9 => absurd h9 (by omega))).mono ?_
        rintro e w4 ⟨rfl, m4, rfl⟩
        go_wp2_with fail
        go_returns
        exact ⟨by first | rfl | simp, below_drewN HW3.out.bel _⟩
      | some o =>
        obtain ⟨A7, c7, rfl, hA7, _⟩ := hr2
        have HA7 := Lib.hid hA7
        have hol := HRO.out o rfl
        clear hA7
        obtain ⟨on, hon⟩ : ∃ on, on = o.length := ⟨_, rfl⟩
        rw [← hon] at HA7 hol ⊢
        have HON := Lib.hid hon
        go_wp2_with fail
        refine (HRG.out _ HW2.out.bel).mono ?_
        rintro e w3 ⟨hb3, A8, c8, rfl, hA8, _⟩
        have HW3 := Lib.hid (HW2.out.go hb3)
        have HA7b := Lib.hid ((HA7.out.below hb3).more hb3.size)
        have HA8 := Lib.hid hA8
        rw [← HON.out] at HA8 ⊢
        clear hb3 hA8 hon
        go_wp2_with fail
        refine (ints_any A7 A8 on on c7 c8 w3.heap.size o o w3 HON.out.symm HON.out.symm (by omega) (by omega) HA7b.out HA8.out).mono ?_
        rintro e w4 ⟨rfl, m4, rfl⟩
        have e9 : decide (o = o) = true := by simp
        go_wp2_with fail
        go_returns
        exact ⟨by first | rfl | simp, below_drewN HW3.out.bel _⟩
end Go.Proofs.Ytgejpggbmgiocaa
