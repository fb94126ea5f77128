/- PieceSplits, with its automaton and text laid open. -/
import Derived.Test.YtnadkmdbbmbdpaaPTexts
namespace Go.Proofs.Ytnadkmdbbmbdpaa
open Go.RowKit
attribute [local go_sem ↓] load_box

theorem keep_box {w : World} {ds : Array Value} {A1 A2 : Option Addr} {n1 n2 c1 c2 : Nat} {D : Dfa} {RA : Nat → Option Addr} {rc : Nat → Nat} (h : DfaIn w ds A1 A2 n1 n2 c1 c2 D RA rc) : DfaIn (w.alloc (.cells ds 26)) ds A1 A2 n1 n2 c1 c2 D RA rc :=
  h.keep ((Below.refl _ _).alloc (Nat.le_refl _) _)

set_option maxRecDepth 100000 in
set_option maxHeartbeats 8000000 in
theorem law_psplits (ds : Array Value) (A1 A2 : Option Addr) (n1 n2 c1 c2 : Nat) (D : Dfa) (RA : Nat → Option Addr) (rc : Nat → Nat) (s : ByteArray) (w : World) (h : DfaIn w ds A1 A2 n1 n2 c1 c2 D RA rc) :
    Calls Try.prog 5 #[.agg ds, .string s] w fun e w' => e = .returned (.bool true) ∧ Below w.heap.size w w' := by
  have L1 := LawW.start h
  have hload : ∀ W, LawW w ds A1 A2 n1 n2 c1 c2 D RA rc W → (loadBox (.pointer (some ⟨w.heap.size, 0, none⟩))).run Try.prog W = .ok (.agg ds) W := fun W hW => hW.load
  obtain ⟨bq, hbq⟩ : ∃ bq, bq = rightD D := ⟨_, rfl⟩
  have HBQ := Lib.hid hbq
  have HRR := Lib.hid (fun W hW => drright_any ds A1 A2 n1 n2 c1 c2 D RA rc W hW)
  rw [← hbq] at HRR
  have hcase : (3000 < s.size ∧ s.size ≤ 262144) ∨ (¬ (3000 < s.size ∧ s.size ≤ 262144) ∧ bq = false) ∨ (262144 < s.size ∧ bq = true) ∨ (s.size ≤ 3000 ∧ bq = true) := by
    cases bq <;> simp <;> omega
  clear hbq h
  go_enter Try.func5, Try.ntmps5
  rcases hcase with ⟨ha, hb⟩ | ⟨ha, rfl⟩ | ⟨ha, rfl⟩ | ⟨ha, rfl⟩
  · have e1 : decide ((3000 : Int) < (s.size : Int)) = true := by simp; omega
    have e2 : decide ((s.size : Int) ≤ 262144) = true := by simp; omega
    go_wp2_with fail
    go_returns
    exact ⟨by first | rfl | simp, L1.bel⟩
  · have hr : rightD D = false := HBQ.out.symm
    have HS := Lib.hid (fun W hW => psplit_no ds A1 A2 n1 n2 c1 c2 D RA rc s W hW hr)
    have HT := Lib.hid (fun W hW => ptexts_bad ds A1 A2 n1 n2 c1 c2 D RA rc s W hW 81 rfl (psplit_no ds A1 A2 n1 n2 c1 c2 D RA rc s _ (keep_box hW) hr))
    clear hr
    by_cases hb : 3000 < s.size
    · have e1 : decide ((3000 : Int) < (s.size : Int)) = true := by simp; omega
      have e2 : decide ((s.size : Int) ≤ 262144) = false := by simp; omega
      go_wp2_with fail
      refine (HS.out _ L1.mach).mono ?_
      rintro e w2 ⟨rfl, hb2⟩
      have L2 := L1.go hb2
      clear hb2
      go_wp2_with fail
      refine (HT.out _ L2.mach).mono ?_
      rintro e w3 ⟨rfl, hb3⟩
      have L3 := L2.go hb3
      clear hb3
      go_wp2_with fail
      refine (HRR.out _ L3.mach).mono ?_
      rintro e w4 ⟨rfl, hb4⟩
      have L4 := L3.go hb4
      clear hb4
      go_wp2_with fail
      go_returns
      exact ⟨by first | rfl | simp, L4.bel⟩
    · have e1 : decide ((3000 : Int) < (s.size : Int)) = false := by simp; omega
      go_wp2_with fail
      refine (HS.out _ L1.mach).mono ?_
      rintro e w2 ⟨rfl, hb2⟩
      have L2 := L1.go hb2
      clear hb2
      go_wp2_with fail
      refine (HT.out _ L2.mach).mono ?_
      rintro e w3 ⟨rfl, hb3⟩
      have L3 := L2.go hb3
      clear hb3
      go_wp2_with fail
      refine (HRR.out _ L3.mach).mono ?_
      rintro e w4 ⟨rfl, hb4⟩
      have L4 := L3.go hb4
      clear hb4
      go_wp2_with fail
      go_returns
      exact ⟨by first | rfl | simp, L4.bel⟩
  · have hr : rightD D = true := HBQ.out.symm
    have HS := Lib.hid (fun W hW => psplit_long ds A1 A2 n1 n2 c1 c2 D RA rc s W hW hr ha)
    have HT := Lib.hid (fun W hW => ptexts_bad ds A1 A2 n1 n2 c1 c2 D RA rc s W hW 2 rfl (psplit_long ds A1 A2 n1 n2 c1 c2 D RA rc s _ (keep_box hW) hr ha))
    have e1 : decide ((3000 : Int) < (s.size : Int)) = true := by simp; omega
    have e2 : decide ((s.size : Int) ≤ 262144) = false := by simp; omega
    have e3 : decide ((262144 : Int) < (s.size : Int)) = true := by simp; omega
    clear hr
    go_wp2_with fail
    refine (HS.out _ L1.mach).mono ?_
    rintro e w2 ⟨rfl, hb2⟩
    have L2 := L1.go hb2
    clear hb2
    go_wp2_with fail
    refine (HT.out _ L2.mach).mono ?_
    rintro e w3 ⟨rfl, hb3⟩
    have L3 := L2.go hb3
    clear hb3
    go_wp2_with fail
    refine (HRR.out _ L3.mach).mono ?_
    rintro e w4 ⟨rfl, hb4⟩
    have L4 := L3.go hb4
    clear hb4
    go_wp2_with fail
    go_returns
    exact ⟨by first | rfl | simp, L4.bel⟩
  · have hr : RightD D := by
      apply Classical.byContradiction
      intro h9
      have := HBQ.out
      rw [rightD_no h9] at this
      cases this
    have HS := Lib.hid (fun W hW => psplit_ok ds A1 A2 n1 n2 c1 c2 D RA rc s W hW hr (by omega))
    have HT := Lib.hid (fun W hW => ptexts_ok ds A1 A2 n1 n2 c1 c2 D RA rc s W hW hr (by omega))
    have HRS := Lib.hid (fun W hW => rsplit_ok ds A1 A2 n1 n2 c1 c2 D RA rc s W hW hr (by omega))
    have e1 : decide ((3000 : Int) < (s.size : Int)) = false := by simp; omega
    have e3 : decide ((262144 : Int) < (s.size : Int)) = false := by simp; omega
    have hpl := pieces_len D s 0
    have hcl := chunks_len D s 0
    obtain ⟨n, hn⟩ : ∃ n, n = (pieces D s 0).length := ⟨_, rfl⟩
    rw [hcl] at HT
    rw [← hn] at HS HT HRS hpl
    have e0 : ((n : Int) != (n : Int)) = false := by simp
    clear hr hcl hn
    have hfin : s.size > 600 ∨ s.size ≤ 600 := by omega
    go_wp2_with fail
    refine (HS.out _ L1.mach).mono ?_
    rintro e w2 ⟨A, ca, rfl, hA, hb2⟩
    have L2 := L1.go hb2
    clear hb2
    go_wp2_with fail
    refine (HT.out _ L2.mach).mono ?_
    rintro e w3 ⟨B, cb, rfl, _, hb3⟩
    have L3 := L2.go hb3
    have hA3 := (hA.below hb3).more hb3.size
    clear hb3
    go_wp2_with fail
    refine (HRR.out _ L3.mach).mono ?_
    rintro e w4 ⟨rfl, hb4⟩
    have L4 := L3.go hb4
    have hA4 := (hA3.below hb4).more hb4.size
    clear hb4
    rcases hfin with hf | hf
    · have e4 : decide ((600 : Int) < (s.size : Int)) = true := by simp; omega
      go_wp2_with fail
      go_returns
      exact ⟨by first | rfl | simp, L4.bel⟩
    · have e4 : decide ((600 : Int) < (s.size : Int)) = false := by simp; omega
      go_wp2_with fail
      refine (HRS.out _ L4.mach).mono ?_
      rintro e w5 ⟨C, cc, rfl, hC, hb5⟩
      have L5 := L4.go hb5
      have hA5 := (hA4.below hb5).more hb5.size
      clear hb5
      go_wp2_with fail
      refine (ints_same A C n ca cc _ w5 (by omega) hA5 hC).mono ?_
      rintro e w6 ⟨rfl, mq, rfl⟩
      go_wp2_with fail
      go_returns
      exact ⟨by first | rfl | simp, below_drewN L5.bel _⟩
end Go.Proofs.Ytnadkmdbbmbdpaa
