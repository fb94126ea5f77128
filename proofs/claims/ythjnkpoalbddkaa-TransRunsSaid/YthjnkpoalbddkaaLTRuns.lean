/- TransRuns, with its machine and text laid open. -/
import Derived.Test.YthjnkpoalbddkaaRMach
import Derived.Test.YthjnkpoalbddkaaRRun
import Derived.Test.YthjnkpoalbddkaaTNo
namespace Go.Proofs.Ythjnkpoalbddkaa
open Go.RowKit

set_option maxRecDepth 100000 in
set_option maxHeartbeats 8000000 in
theorem law_truns (A0 A1 A2 A3 : Option Addr) (n0 n1 n2 n3 c0 c1 c2 c3 : Nat) (m : Mach) (RA : Nat → Option Addr) (rc : Nat → Nat) (PA : Nat → Option Addr) (pc : Nat → Nat) (s : ByteArray) (w : World) (h : MachIn w A0 A1 A2 A3 n0 n1 n2 n3 m RA rc PA pc) :
    Calls Try.prog 7 #[.agg #[.slice A0 n0 c0, .slice A1 n1 c1, .slice A2 n2 c2, .slice A3 n3 c3], .string s] w fun e w' => e = .returned (.bool true) ∧ Below w.heap.size w w' := by
  have hb0 : Below w.heap.size w (w.alloc (.cells #[.slice A0 n0 c0, .slice A1 n1 c1, .slice A2 n2 c2, .slice A3 n3 c3] 42)) := (Below.refl _ _).alloc (Nat.le_refl _) _
  have q0 : (w.alloc (.cells #[.slice A0 n0 c0, .slice A1 n1 c1, .slice A2 n2 c2, .slice A3 n3 c3] 42)).cell? ⟨w.heap.size, 0, none⟩ = some (.slice A0 n0 c0) := by simp
  have q1 : (w.alloc (.cells #[.slice A0 n0 c0, .slice A1 n1 c1, .slice A2 n2 c2, .slice A3 n3 c3] 42)).cell? ⟨w.heap.size, 1, none⟩ = some (.slice A1 n1 c1) := by simp
  have q2 : (w.alloc (.cells #[.slice A0 n0 c0, .slice A1 n1 c1, .slice A2 n2 c2, .slice A3 n3 c3] 42)).cell? ⟨w.heap.size, 2, none⟩ = some (.slice A2 n2 c2) := by simp
  have q3 : (w.alloc (.cells #[.slice A0 n0 c0, .slice A1 n1 c1, .slice A2 n2 c2, .slice A3 n3 c3] 42)).cell? ⟨w.heap.size, 3, none⟩ = some (.slice A3 n3 c3) := by simp
  have hz : w.heap.size < (w.alloc (.cells #[.slice A0 n0 c0, .slice A1 n1 c1, .slice A2 n2 c2, .slice A3 n3 c3] 42)).heap.size := by simp
  have hM0 := h.keep hb0
  have HW := Lib.hid h
  clear h
  obtain ⟨bq, hbq⟩ : ∃ bq, bq = rightM m := ⟨_, rfl⟩
  have HBQ := Lib.hid hbq
  clear hbq
  have bb : (bq != bq) = false := by simp
  go_enter Try.func7, Try.ntmps7
  go_wp2_with fail
  generalize w.alloc (.cells #[.slice A0 n0 c0, .slice A1 n1 c1, .slice A2 n2 c2, .slice A3 n3 c3] 42) = w1 at hb0 q0 q1 q2 q3 hz hM0 ⊢
  go_region_held3 (fun w' => MachIn w' A0 A1 A2 A3 n0 n1 n2 n3 m RA rc PA pc ∧ Below w.heap.size w w' ∧ w.heap.size < w'.heap.size ∧ w'.cell? ⟨w.heap.size, 0, none⟩ = some (.slice A0 n0 c0) ∧ w'.cell? ⟨w.heap.size, 1, none⟩ = some (.slice A1 n1 c1) ∧ w'.cell? ⟨w.heap.size, 2, none⟩ = some (.slice A2 n2 c2) ∧ w'.cell? ⟨w.heap.size, 3, none⟩ = some (.slice A3 n3 c3))
    (first
      | assumption
      | exact ⟨hI9, hB9, hZ9, t0, t1, t2, t3⟩
      | exact ⟨hM0.keep (Below.refl _ _).drew, hb0.drew, hz, q0, q1, q2, q3⟩)
    (first
      | (go_at_call 22; go_split_ands; refine (tright_any A0 A1 A2 A3 n0 n1 n2 n3 c0 c1 c2 c3 m RA rc PA pc _ (by assumption)).mono ?_; rw [← HBQ.out]; rintro e w9 ⟨rfl, hb9⟩; have hI9 := MachIn.keep (A0 := A0) (A1 := A1) (A2 := A2) (A3 := A3) (n0 := n0) (n1 := n1) (n2 := n2) (n3 := n3) (m := m) (RA := RA) (rc := rc) (PA := PA) (pc := pc) (by assumption) hb9; have hZ0 : w.heap.size < _ := (by assumption); have hB9 : Below w.heap.size w w9 := Below.trans (by assumption) (hb9.mono (Nat.le_of_lt hZ0)); have hZ9 := Nat.lt_of_lt_of_le hZ0 hb9.size; have t0 := (hb9.cell (p := ⟨w.heap.size, 0, none⟩) hZ0).trans (by assumption : _ = some (Value.slice A0 n0 c0)); have t1 := (hb9.cell (p := ⟨w.heap.size, 1, none⟩) hZ0).trans (by assumption : _ = some (Value.slice A1 n1 c1)); have t2 := (hb9.cell (p := ⟨w.heap.size, 2, none⟩) hZ0).trans (by assumption : _ = some (Value.slice A2 n2 c2)); have t3 := (hb9.cell (p := ⟨w.heap.size, 3, none⟩) hZ0).trans (by assumption : _ = some (Value.slice A3 n3 c3)))
      | (go_at_call 23; go_split_ands; refine (rtright_any A0 A1 A2 A3 n0 n1 n2 n3 c0 c1 c2 c3 m RA rc PA pc _ (by assumption)).mono ?_; rw [← HBQ.out]; rintro e w9 ⟨rfl, hb9⟩; have hI9 := MachIn.keep (A0 := A0) (A1 := A1) (A2 := A2) (A3 := A3) (n0 := n0) (n1 := n1) (n2 := n2) (n3 := n3) (m := m) (RA := RA) (rc := rc) (PA := PA) (pc := pc) (by assumption) hb9; have hZ0 : w.heap.size < _ := (by assumption); have hB9 : Below w.heap.size w w9 := Below.trans (by assumption) (hb9.mono (Nat.le_of_lt hZ0)); have hZ9 := Nat.lt_of_lt_of_le hZ0 hb9.size; have t0 := (hb9.cell (p := ⟨w.heap.size, 0, none⟩) hZ0).trans (by assumption : _ = some (Value.slice A0 n0 c0)); have t1 := (hb9.cell (p := ⟨w.heap.size, 1, none⟩) hZ0).trans (by assumption : _ = some (Value.slice A1 n1 c1)); have t2 := (hb9.cell (p := ⟨w.heap.size, 2, none⟩) hZ0).trans (by assumption : _ = some (Value.slice A2 n2 c2)); have t3 := (hb9.cell (p := ⟨w.heap.size, 3, none⟩) hZ0).trans (by assumption : _ = some (Value.slice A3 n3 c3))))
  go_split_ands
  cases bq with
  | false =>
    go_wp2_with fail
    refine (trun_no A0 A1 A2 A3 n0 n1 n2 n3 c0 c1 c2 c3 m RA rc PA pc s _ (by assumption) HBQ.out.symm).mono ?_
    rintro e w10 ⟨rfl, hb10⟩
    have hI10 := MachIn.keep (A0 := A0) (A1 := A1) (A2 := A2) (A3 := A3) (n0 := n0) (n1 := n1) (n2 := n2) (n3 := n3) (m := m) (RA := RA) (rc := rc) (PA := PA) (pc := pc) (by assumption) hb10
    have hY10 : w.heap.size < _ := Nat.lt_of_lt_of_le (by assumption) hb10.size
    have hB10 : Below w.heap.size w w10 := Below.trans (by assumption) (hb10.mono (Nat.le_of_lt (by assumption)))
    have u010 := (hb10.cell (p := ⟨w.heap.size, 0, none⟩) (by assumption)).trans (by assumption : _ = some (Value.slice A0 n0 c0))
    have u110 := (hb10.cell (p := ⟨w.heap.size, 1, none⟩) (by assumption)).trans (by assumption : _ = some (Value.slice A1 n1 c1))
    have u210 := (hb10.cell (p := ⟨w.heap.size, 2, none⟩) (by assumption)).trans (by assumption : _ = some (Value.slice A2 n2 c2))
    have u310 := (hb10.cell (p := ⟨w.heap.size, 3, none⟩) (by assumption)).trans (by assumption : _ = some (Value.slice A3 n3 c3))
    clear hb10
    go_wp2_with fail
    refine (rtright_any A0 A1 A2 A3 n0 n1 n2 n3 c0 c1 c2 c3 m RA rc PA pc _ hI10).mono ?_
    rw [← HBQ.out]
    rintro e w11 ⟨rfl, hb11⟩
    have hI11 := MachIn.keep (A0 := A0) (A1 := A1) (A2 := A2) (A3 := A3) (n0 := n0) (n1 := n1) (n2 := n2) (n3 := n3) (m := m) (RA := RA) (rc := rc) (PA := PA) (pc := pc) (by assumption) hb11
    have hY11 : w.heap.size < _ := Nat.lt_of_lt_of_le (by assumption) hb11.size
    have hB11 : Below w.heap.size w w11 := Below.trans (by assumption) (hb11.mono (Nat.le_of_lt (by assumption)))
    have u011 := (hb11.cell (p := ⟨w.heap.size, 0, none⟩) (by assumption)).trans (by assumption : _ = some (Value.slice A0 n0 c0))
    have u111 := (hb11.cell (p := ⟨w.heap.size, 1, none⟩) (by assumption)).trans (by assumption : _ = some (Value.slice A1 n1 c1))
    have u211 := (hb11.cell (p := ⟨w.heap.size, 2, none⟩) (by assumption)).trans (by assumption : _ = some (Value.slice A2 n2 c2))
    have u311 := (hb11.cell (p := ⟨w.heap.size, 3, none⟩) (by assumption)).trans (by assumption : _ = some (Value.slice A3 n3 c3))
    clear hb11
    go_wp2_with fail
    go_returns
    exact ⟨by first | rfl | simp, hB11⟩
  | true =>
    have hr : RightM m := by
      apply Classical.byContradiction
      intro h9
      have := HBQ.out
      rw [rightM_no h9] at this
      cases this
    by_cases hs : 4096 < s.size
    · have d0 : decide ((4096 : Int) < (s.size : Int)) = true := by simp; omega
      go_wp2_with fail
      refine (trun_long A0 A1 A2 A3 n0 n1 n2 n3 c0 c1 c2 c3 m RA rc PA pc s _ (by assumption) HBQ.out.symm hs).mono ?_
      rintro e w10 ⟨rfl, hb10⟩
      have hI10 := MachIn.keep (A0 := A0) (A1 := A1) (A2 := A2) (A3 := A3) (n0 := n0) (n1 := n1) (n2 := n2) (n3 := n3) (m := m) (RA := RA) (rc := rc) (PA := PA) (pc := pc) (by assumption) hb10
      have hY10 : w.heap.size < _ := Nat.lt_of_lt_of_le (by assumption) hb10.size
      have hB10 : Below w.heap.size w w10 := Below.trans (by assumption) (hb10.mono (Nat.le_of_lt (by assumption)))
      have u010 := (hb10.cell (p := ⟨w.heap.size, 0, none⟩) (by assumption)).trans (by assumption : _ = some (Value.slice A0 n0 c0))
      have u110 := (hb10.cell (p := ⟨w.heap.size, 1, none⟩) (by assumption)).trans (by assumption : _ = some (Value.slice A1 n1 c1))
      have u210 := (hb10.cell (p := ⟨w.heap.size, 2, none⟩) (by assumption)).trans (by assumption : _ = some (Value.slice A2 n2 c2))
      have u310 := (hb10.cell (p := ⟨w.heap.size, 3, none⟩) (by assumption)).trans (by assumption : _ = some (Value.slice A3 n3 c3))
      clear hb10
      go_wp2_with fail
      refine (rtright_any A0 A1 A2 A3 n0 n1 n2 n3 c0 c1 c2 c3 m RA rc PA pc _ hI10).mono ?_
      rw [← HBQ.out]
      rintro e w11 ⟨rfl, hb11⟩
      have hI11 := MachIn.keep (A0 := A0) (A1 := A1) (A2 := A2) (A3 := A3) (n0 := n0) (n1 := n1) (n2 := n2) (n3 := n3) (m := m) (RA := RA) (rc := rc) (PA := PA) (pc := pc) (by assumption) hb11
      have hY11 : w.heap.size < _ := Nat.lt_of_lt_of_le (by assumption) hb11.size
      have hB11 : Below w.heap.size w w11 := Below.trans (by assumption) (hb11.mono (Nat.le_of_lt (by assumption)))
      have u011 := (hb11.cell (p := ⟨w.heap.size, 0, none⟩) (by assumption)).trans (by assumption : _ = some (Value.slice A0 n0 c0))
      have u111 := (hb11.cell (p := ⟨w.heap.size, 1, none⟩) (by assumption)).trans (by assumption : _ = some (Value.slice A1 n1 c1))
      have u211 := (hb11.cell (p := ⟨w.heap.size, 2, none⟩) (by assumption)).trans (by assumption : _ = some (Value.slice A2 n2 c2))
      have u311 := (hb11.cell (p := ⟨w.heap.size, 3, none⟩) (by assumption)).trans (by assumption : _ = some (Value.slice A3 n3 c3))
      clear hb11
      go_wp2_with fail
      go_returns
      exact ⟨by first | rfl | simp, hB11⟩
    · have d0 : decide ((4096 : Int) < (s.size : Int)) = false := by simp; omega
      have HR := Lib.hid hr
      clear hr
      obtain ⟨res, hres⟩ : ∃ res, res = runRes m s.data.toList := ⟨_, rfl⟩
      have HRES := Lib.hid hres
      clear hres
      go_wp2_with fail
      refine (trun_any A0 A1 A2 A3 n0 n1 n2 n3 c0 c1 c2 c3 m RA rc PA pc s _ (by assumption) HR.out (by omega)).mono ?_
      rw [← HRES.out]
      rintro e w10 ⟨rfl, hb10⟩
      have hI10 := MachIn.keep (A0 := A0) (A1 := A1) (A2 := A2) (A3 := A3) (n0 := n0) (n1 := n1) (n2 := n2) (n3 := n3) (m := m) (RA := RA) (rc := rc) (PA := PA) (pc := pc) (by assumption) hb10
      have hY10 : w.heap.size < _ := Nat.lt_of_lt_of_le (by assumption) hb10.size
      have hB10 : Below w.heap.size w w10 := Below.trans (by assumption) (hb10.mono (Nat.le_of_lt (by assumption)))
      have u010 := (hb10.cell (p := ⟨w.heap.size, 0, none⟩) (by assumption)).trans (by assumption : _ = some (Value.slice A0 n0 c0))
      have u110 := (hb10.cell (p := ⟨w.heap.size, 1, none⟩) (by assumption)).trans (by assumption : _ = some (Value.slice A1 n1 c1))
      have u210 := (hb10.cell (p := ⟨w.heap.size, 2, none⟩) (by assumption)).trans (by assumption : _ = some (Value.slice A2 n2 c2))
      have u310 := (hb10.cell (p := ⟨w.heap.size, 3, none⟩) (by assumption)).trans (by assumption : _ = some (Value.slice A3 n3 c3))
      clear hb10
      cases res with
      | none =>
        go_wp2_with fail
        refine (rtright_any A0 A1 A2 A3 n0 n1 n2 n3 c0 c1 c2 c3 m RA rc PA pc _ hI10).mono ?_
        rw [← HBQ.out]
        rintro e w11 ⟨rfl, hb11⟩
        have hI11 := MachIn.keep (A0 := A0) (A1 := A1) (A2 := A2) (A3 := A3) (n0 := n0) (n1 := n1) (n2 := n2) (n3 := n3) (m := m) (RA := RA) (rc := rc) (PA := PA) (pc := pc) (by assumption) hb11
        have hY11 : w.heap.size < _ := Nat.lt_of_lt_of_le (by assumption) hb11.size
        have hB11 : Below w.heap.size w w11 := Below.trans (by assumption) (hb11.mono (Nat.le_of_lt (by assumption)))
        have u011 := (hb11.cell (p := ⟨w.heap.size, 0, none⟩) (by assumption)).trans (by assumption : _ = some (Value.slice A0 n0 c0))
        have u111 := (hb11.cell (p := ⟨w.heap.size, 1, none⟩) (by assumption)).trans (by assumption : _ = some (Value.slice A1 n1 c1))
        have u211 := (hb11.cell (p := ⟨w.heap.size, 2, none⟩) (by assumption)).trans (by assumption : _ = some (Value.slice A2 n2 c2))
        have u311 := (hb11.cell (p := ⟨w.heap.size, 3, none⟩) (by assumption)).trans (by assumption : _ = some (Value.slice A3 n3 c3))
        clear hb11
        go_wp2_with fail
        refine (rrun_any A0 A1 A2 A3 n0 n1 n2 n3 c0 c1 c2 c3 m RA rc PA pc s _ hI11 HR.out (by omega)).mono ?_
        rw [← HRES.out]
        rintro e w12 ⟨rfl, hb12⟩
        have hI12 := MachIn.keep (A0 := A0) (A1 := A1) (A2 := A2) (A3 := A3) (n0 := n0) (n1 := n1) (n2 := n2) (n3 := n3) (m := m) (RA := RA) (rc := rc) (PA := PA) (pc := pc) (by assumption) hb12
        have hY12 : w.heap.size < _ := Nat.lt_of_lt_of_le (by assumption) hb12.size
        have hB12 : Below w.heap.size w w12 := Below.trans (by assumption) (hb12.mono (Nat.le_of_lt (by assumption)))
        have u012 := (hb12.cell (p := ⟨w.heap.size, 0, none⟩) (by assumption)).trans (by assumption : _ = some (Value.slice A0 n0 c0))
        have u112 := (hb12.cell (p := ⟨w.heap.size, 1, none⟩) (by assumption)).trans (by assumption : _ = some (Value.slice A1 n1 c1))
        have u212 := (hb12.cell (p := ⟨w.heap.size, 2, none⟩) (by assumption)).trans (by assumption : _ = some (Value.slice A2 n2 c2))
        have u312 := (hb12.cell (p := ⟨w.heap.size, 3, none⟩) (by assumption)).trans (by assumption : _ = some (Value.slice A3 n3 c3))
        clear hb12
        go_wp2_with fail
        go_returns
        exact ⟨by first | rfl | simp, hB12⟩
      | some o =>
        go_wp2_with fail
        refine (rtright_any A0 A1 A2 A3 n0 n1 n2 n3 c0 c1 c2 c3 m RA rc PA pc _ hI10).mono ?_
        rw [← HBQ.out]
        rintro e w11 ⟨rfl, hb11⟩
        have hI11 := MachIn.keep (A0 := A0) (A1 := A1) (A2 := A2) (A3 := A3) (n0 := n0) (n1 := n1) (n2 := n2) (n3 := n3) (m := m) (RA := RA) (rc := rc) (PA := PA) (pc := pc) (by assumption) hb11
        have hY11 : w.heap.size < _ := Nat.lt_of_lt_of_le (by assumption) hb11.size
        have hB11 : Below w.heap.size w w11 := Below.trans (by assumption) (hb11.mono (Nat.le_of_lt (by assumption)))
        have u011 := (hb11.cell (p := ⟨w.heap.size, 0, none⟩) (by assumption)).trans (by assumption : _ = some (Value.slice A0 n0 c0))
        have u111 := (hb11.cell (p := ⟨w.heap.size, 1, none⟩) (by assumption)).trans (by assumption : _ = some (Value.slice A1 n1 c1))
        have u211 := (hb11.cell (p := ⟨w.heap.size, 2, none⟩) (by assumption)).trans (by assumption : _ = some (Value.slice A2 n2 c2))
        have u311 := (hb11.cell (p := ⟨w.heap.size, 3, none⟩) (by assumption)).trans (by assumption : _ = some (Value.slice A3 n3 c3))
        clear hb11
        go_wp2_with fail
        refine (rrun_any A0 A1 A2 A3 n0 n1 n2 n3 c0 c1 c2 c3 m RA rc PA pc s _ hI11 HR.out (by omega)).mono ?_
        rw [← HRES.out]
        rintro e w12 ⟨rfl, hb12⟩
        have hI12 := MachIn.keep (A0 := A0) (A1 := A1) (A2 := A2) (A3 := A3) (n0 := n0) (n1 := n1) (n2 := n2) (n3 := n3) (m := m) (RA := RA) (rc := rc) (PA := PA) (pc := pc) (by assumption) hb12
        have hY12 : w.heap.size < _ := Nat.lt_of_lt_of_le (by assumption) hb12.size
        have hB12 : Below w.heap.size w w12 := Below.trans (by assumption) (hb12.mono (Nat.le_of_lt (by assumption)))
        have u012 := (hb12.cell (p := ⟨w.heap.size, 0, none⟩) (by assumption)).trans (by assumption : _ = some (Value.slice A0 n0 c0))
        have u112 := (hb12.cell (p := ⟨w.heap.size, 1, none⟩) (by assumption)).trans (by assumption : _ = some (Value.slice A1 n1 c1))
        have u212 := (hb12.cell (p := ⟨w.heap.size, 2, none⟩) (by assumption)).trans (by assumption : _ = some (Value.slice A2 n2 c2))
        have u312 := (hb12.cell (p := ⟨w.heap.size, 3, none⟩) (by assumption)).trans (by assumption : _ = some (Value.slice A3 n3 c3))
        clear hb12
        go_wp2_with fail
        go_returns
        exact ⟨by first | rfl | simp, hB12⟩
end Go.Proofs.Ythjnkpoalbddkaa
