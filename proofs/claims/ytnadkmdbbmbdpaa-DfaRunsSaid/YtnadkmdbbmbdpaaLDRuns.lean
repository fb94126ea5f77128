/- DfaRuns, with its automaton, text and place laid open. -/
import Derived.Test.YtnadkmdbbmbdpaaLawW
namespace Go.Proofs.Ytnadkmdbbmbdpaa
open Go.RowKit

attribute [local go_sem ↓] load_box
set_option maxRecDepth 100000 in
set_option maxHeartbeats 8000000 in
theorem law_druns (ds : Array Value) (A1 A2 : Option Addr) (n1 n2 c1 c2 : Nat) (D : Dfa) (RA : Nat → Option Addr) (rc : Nat → Nat) (s : ByteArray) (x : Int) (w : World) (h : DfaIn w ds A1 A2 n1 n2 c1 c2 D RA rc) :
    Calls Try.prog 3 #[.agg ds, .string s, .int .i64 x] w fun e w' => e = .returned (.bool true) ∧ Below w.heap.size w w' := by
  have L1 := Lib.hid (LawW.start h)
  have hload : ∀ W, LawW w ds A1 A2 n1 n2 c1 c2 D RA rc W → (loadBox (.pointer (some ⟨w.heap.size, 0, none⟩))).run Try.prog W = .ok (.agg ds) W := fun W hW => hW.load
  obtain ⟨bq, hbq⟩ : ∃ bq, bq = rightD D := ⟨_, rfl⟩
  have HBQ := Lib.hid hbq
  have hcs := cutS_le s 2000
  have HSH := Lib.hid (fun W => short_any s 2000 (by omega) W)
  obtain ⟨s', hs'⟩ : ∃ s', s' = cutS s 2000 := ⟨_, rfl⟩
  rw [← hs'] at hcs HSH
  clear hbq h hs'
  have bb : (bq != bq) = false := by simp
  have HE := Lib.hid (fun W hW => dends_any ds A1 A2 n1 n2 c1 c2 D RA rc s' W hW x (by omega))
  have HG := Lib.hid (fun W hW => dlong_any ds A1 A2 n1 n2 c1 c2 D RA rc s' W hW x (by omega))
  have HRE := Lib.hid (fun W hW hr a ha => drends_ok ds A1 A2 n1 n2 c1 c2 D RA rc s' W hW hr a ha (by omega))
  have HRG := Lib.hid (fun W hW hr a ha => drlong_ok ds A1 A2 n1 n2 c1 c2 D RA rc s' W hW hr a ha (by omega))
  have hlen := endsR_len D s' x
  obtain ⟨L, hL⟩ : ∃ L, L = endsR D s' x := ⟨_, rfl⟩
  rw [← hL] at HE HG hlen
  have HL := Lib.hid hL
  clear hL
  obtain ⟨ll, hll⟩ : ∃ ll, ll = lastI L := ⟨_, rfl⟩
  rw [← hll] at HG
  have HLL := Lib.hid hll
  clear hll
  go_enter Try.func3, Try.ntmps3
  go_wp2_with fail
  refine (HSH.out _).mono ?_
  rintro e w1 ⟨rfl, rfl⟩
  go_wp2_with fail
  generalize w.alloc (.cells ds 26) = w1 at L1 ⊢
  go_region_held3 (fun w' => LawW w ds A1 A2 n1 n2 c1 c2 D RA rc w')
    (first
      | assumption
      | exact L9
      | exact L1.out.drew)
    (first
      | (go_at_call 8; refine (dright_any ds A1 A2 n1 n2 c1 c2 D RA rc _ (LawW.mach (by assumption))).mono ?_; rw [← HBQ.out]; rintro e w9 ⟨rfl, hb9⟩; have L9 : LawW w ds A1 A2 n1 n2 c1 c2 D RA rc w9 := LawW.go (by assumption) hb9)
      | (go_at_call 9; refine (drright_any ds A1 A2 n1 n2 c1 c2 D RA rc _ (LawW.mach (by assumption))).mono ?_; rw [← HBQ.out]; rintro e w9 ⟨rfl, hb9⟩; have L9 : LawW w ds A1 A2 n1 n2 c1 c2 D RA rc w9 := LawW.go (by assumption) hb9))
  go_split_ands
  go_wp2_with fail
  go_region_held3 (fun w' => LawW w ds A1 A2 n1 n2 c1 c2 D RA rc w')
    (first
      | assumption
      | exact M9
      | exact L9.drew)
    (first
      | (go_at_call 10; refine (HE.out _ (LawW.mach (by assumption))).mono ?_; rintro e w3 ⟨A, c, rfl, harr, hb3⟩; have M9 : LawW w ds A1 A2 n1 n2 c1 c2 D RA rc w3 := LawW.go (by assumption) hb3)
      | (go_at_call 11; refine (HG.out _ (LawW.mach (by assumption))).mono ?_; rintro e w4 ⟨rfl, hb4⟩; have M9 : LawW w ds A1 A2 n1 n2 c1 c2 D RA rc w4 := LawW.go (by assumption) hb4; have harr4 := (harr.below hb4).more hb4.size))
  go_wp2_with fail
  have hlo := M9
  clear hb3 hb4 harr
  have HAR := Lib.hid harr4
  have HRR := Lib.hid (fun W hW => drright_any ds A1 A2 n1 n2 c1 c2 D RA rc W hW)
  rw [← HBQ.out] at HRR
  clear harr4
  obtain ⟨n, hn⟩ : ∃ n, n = L.length := ⟨_, rfl⟩
  rw [← hn] at HAR hlen ⊢
  have HN := Lib.hid hn
  clear hn
  have hcase : (bq = false ∨ (bq = true ∧ x < 0) ∨ (bq = true ∧ 0 ≤ x ∧ (s'.size : Int) < x)) ∧ n = 0 ∧ ll = -1 ∨ (bq = true ∧ RightD D ∧ ∃ a : Nat, x = (a : Int) ∧ a ≤ s'.size) := by
    by_cases hok : RightD D ∧ 0 ≤ x ∧ x ≤ (s'.size : Int)
    · obtain ⟨hr, h0, h1⟩ := hok
      obtain ⟨a, rfl⟩ := Int.eq_ofNat_of_zero_le h0
      exact .inr ⟨by rw [HBQ.out]; exact rightD_yes hr, hr, a, rfl, by omega⟩
    · left
      have hz : L = [] := by rw [HL.out, endsR_no hok]
      refine ⟨?_, by rw [HN.out, hz]; rfl, by rw [HLL.out, hz]; rfl⟩
      by_cases hr : RightD D
      · have hb : bq = true := by rw [HBQ.out]; exact rightD_yes hr
        have : ¬ (0 ≤ x ∧ x ≤ (s'.size : Int)) := fun h9 => hok ⟨hr, h9⟩
        rcases (by omega : x < 0 ∨ (0 ≤ x ∧ (s'.size : Int) < x)) with h9 | h9
        · exact .inr (.inl ⟨hb, h9⟩)
        · exact .inr (.inr ⟨hb, h9⟩)
      · exact .inl (by rw [HBQ.out]; exact rightD_no hr)
  have M9h := M9
  rcases hcase with ⟨hc, rfl, rfl⟩ | ⟨rfl, hr, a, rfl, ha⟩
  · have e0 : ((-1 : Int) == -1) = true := rfl
    rcases hc with rfl | ⟨rfl, hx⟩ | ⟨rfl, hx, hy⟩
    · go_wp2_with fail
      refine (HRR.out _ (LawW.mach M9h)).mono ?_
      rintro e w5 ⟨rfl, hb5⟩
      have M5 := Lib.hid (LawW.go M9h hb5)
      clear hb5
      go_wp2_with fail
      go_returns
      exact ⟨by first | rfl | simp, M5.out.bel⟩
    · have d1 : decide (x < 0) = true := by simpa using hx
      go_wp2_with fail
      refine (HRR.out _ (LawW.mach M9h)).mono ?_
      rintro e w5 ⟨rfl, hb5⟩
      have M5 := Lib.hid (LawW.go M9h hb5)
      clear hb5
      go_wp2_with fail
      go_returns
      exact ⟨by first | rfl | simp, M5.out.bel⟩
    · have d1 : decide (x < 0) = false := by simp; omega
      have d2 : decide ((s'.size : Int) < x) = true := by simpa using hy
      go_wp2_with fail
      refine (HRR.out _ (LawW.mach M9h)).mono ?_
      rintro e w5 ⟨rfl, hb5⟩
      have M5 := Lib.hid (LawW.go M9h hb5)
      clear hb5
      go_wp2_with fail
      go_returns
      exact ⟨by first | rfl | simp, M5.out.bel⟩
  · have d1 : decide ((a : Int) < 0) = false := by simp
    have d2 : decide ((s'.size : Int) < (a : Int)) = false := by simp; omega
    have d3 : decide (s'.size < a) = false := by simp; omega
    have HR := Lib.hid hr
    have hLL := HL.out
    rw [endsR_yes hr ha] at hLL
    have HQE := Lib.hid (fun W hW => HRE.out W hW HR.out a ha)
    rw [← hLL] at HQE
    have HQG := Lib.hid (fun W hW => HRG.out W hW HR.out a ha)
    rw [← HL.out, ← HLL.out] at HQG
    have e0 : (ll == ll) = true := by simp
    clear hr hLL
    go_wp2_with fail
    refine (HRR.out _ (LawW.mach M9h)).mono ?_
    rintro e w5 ⟨rfl, hb5⟩
    have M5 := LawW.go M9h hb5
    have A5 := Lib.hid ((HAR.out.below hb5).more hb5.size)
    clear hb5
    go_wp2_with fail
    refine (HQE.out _ (LawW.mach M5)).mono ?_
    rintro e w6 ⟨B, cb, rfl, harb, hb6⟩
    have M6 := LawW.go M5 hb6
    have A6 := Lib.hid ((A5.out.below hb6).more hb6.size)
    have B6 := Lib.hid harb
    clear hb6 harb
    rw [← HN.out] at B6 ⊢
    go_wp2_with fail
    refine (ints_same A B n c cb L w6 (by omega) A6.out B6.out).mono ?_
    rintro e w7 ⟨rfl, mq, rfl⟩
    have M7 := LawW.go M6 (below_drewN (Below.refl _ _) mq)
    go_wp2_with fail
    refine (HQG.out _ (LawW.mach M7)).mono ?_
    rintro e w8 ⟨rfl, hb8⟩
    have M8 := Lib.hid (LawW.go M7 hb8)
    clear hb8
    go_wp2_with fail
    go_returns
    exact ⟨by first | rfl | simp, M8.out.bel⟩
end Go.Proofs.Ytnadkmdbbmbdpaa
