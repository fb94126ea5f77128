/- TransGrows, with its machine and text laid open. -/
import Derived.Test.YthjnkpoalbddkaaIdxY
import Derived.Test.YthjnkpoalbddkaaTRunY
import Derived.Test.YthjnkpoalbddkaaMGrowY
namespace Go.Proofs.Ythjnkpoalbddkaa
open Go.RowKit

/-- a text's first so many bytes -/
def cutS (s : ByteArray) (k : Nat) : ByteArray := if k < s.size then s.extract 0 k else s
theorem cutS_le (s : ByteArray) (k : Nat) : (cutS s k).size ≤ k := by
  unfold cutS
  split
  · rw [ByteArray.size_extract]; omega
  · omega
set_option maxRecDepth 100000 in
theorem tshort_any (s : ByteArray) (k : Nat) (hk : k < 1000000) (w : World) :
    Calls Try.prog 28 #[.string s, .int .i64 k] w fun e w' => e = .returned (.string (cutS s k)) ∧ w' = w := by
  have hsl : k < s.size → ∀ W, (Instr.slice 9 (.string s) none (some (.int .i64 (k : Int))) none).run Try.prog W = .ok (.string (s.extract 0 k)) W := fun h W => by
    rw [run_slice_string_to_if W 9 s .i64 _ Try.underlying9, if_pos ⟨by omega, by omega⟩]
    rfl
  have HSL := Lib.hid hsl
  clear hsl
  go_enter Try.func28, Try.ntmps28
  by_cases h : k < s.size
  · have e1 : decide ((k : Int) < (s.size : Int)) = true := by simp; omega
    have h1 := HSL.out h
    go_wp2_with fail
    go_returns
    exact ⟨by unfold cutS; rw [if_pos h]; rfl, rfl⟩
  · have e1 : decide ((k : Int) < (s.size : Int)) = false := by simp; omega
    go_wp2_with fail
    go_returns
    exact ⟨by unfold cutS; rw [if_neg h]; rfl, rfl⟩

/-- the world of a law that holds one machine in its box -/
structure LawW (w : World) (A0 A1 A2 A3 : Option Addr) (n0 n1 n2 n3 c0 c1 c2 c3 : Nat) (m : Mach) (RA : Nat → Option Addr) (rc : Nat → Nat) (PA : Nat → Option Addr) (pc : Nat → Nat) (wr : World) : Prop where
  mach : MachIn wr A0 A1 A2 A3 n0 n1 n2 n3 m RA rc PA pc
  bel : Below w.heap.size w wr
  lt : w.heap.size < wr.heap.size
  q0 : wr.cell? ⟨w.heap.size, 0, none⟩ = some (.slice A0 n0 c0)
  q1 : wr.cell? ⟨w.heap.size, 1, none⟩ = some (.slice A1 n1 c1)
  q2 : wr.cell? ⟨w.heap.size, 2, none⟩ = some (.slice A2 n2 c2)
  q3 : wr.cell? ⟨w.heap.size, 3, none⟩ = some (.slice A3 n3 c3)
theorem LawW.go {w : World} {A0 A1 A2 A3 : Option Addr} {n0 n1 n2 n3 c0 c1 c2 c3 : Nat} {m : Mach} {RA : Nat → Option Addr} {rc : Nat → Nat} {PA : Nat → Option Addr} {pc : Nat → Nat} {wr w' : World}
    (h : LawW w A0 A1 A2 A3 n0 n1 n2 n3 c0 c1 c2 c3 m RA rc PA pc wr) (hb : Below wr.heap.size wr w') : LawW w A0 A1 A2 A3 n0 n1 n2 n3 c0 c1 c2 c3 m RA rc PA pc w' :=
  ⟨h.mach.keep hb, h.bel.trans (hb.mono (Nat.le_of_lt h.lt)), Nat.lt_of_lt_of_le h.lt hb.size, (hb.cell (p := ⟨w.heap.size, 0, none⟩) h.lt).trans h.q0, (hb.cell (p := ⟨w.heap.size, 1, none⟩) h.lt).trans h.q1,
    (hb.cell (p := ⟨w.heap.size, 2, none⟩) h.lt).trans h.q2, (hb.cell (p := ⟨w.heap.size, 3, none⟩) h.lt).trans h.q3⟩
theorem LawW.start {w : World} {A0 A1 A2 A3 : Option Addr} {n0 n1 n2 n3 : Nat} (c0 c1 c2 c3 : Nat) {m : Mach} {RA : Nat → Option Addr} {rc : Nat → Nat} {PA : Nat → Option Addr} {pc : Nat → Nat}
    (h : MachIn w A0 A1 A2 A3 n0 n1 n2 n3 m RA rc PA pc) : LawW w A0 A1 A2 A3 n0 n1 n2 n3 c0 c1 c2 c3 m RA rc PA pc (w.alloc (.cells #[.slice A0 n0 c0, .slice A1 n1 c1, .slice A2 n2 c2, .slice A3 n3 c3] 42)) := by
  have hb0 : Below w.heap.size w (w.alloc (.cells #[.slice A0 n0 c0, .slice A1 n1 c1, .slice A2 n2 c2, .slice A3 n3 c3] 42)) := (Below.refl _ _).alloc (Nat.le_refl _) _
  exact ⟨h.keep hb0, hb0, by simp, by simp, by simp, by simp, by simp⟩

set_option maxRecDepth 100000 in
set_option maxHeartbeats 8000000 in
theorem law_tgrows (A0 A1 A2 A3 : Option Addr) (n0 n1 n2 n3 c0 c1 c2 c3 : Nat) (m : Mach) (RA : Nat → Option Addr) (rc : Nat → Nat) (PA : Nat → Option Addr) (pc : Nat → Nat) (s : ByteArray) (w : World) (h : MachIn w A0 A1 A2 A3 n0 n1 n2 n3 m RA rc PA pc) :
    Calls Try.prog 8 #[.agg #[.slice A0 n0 c0, .slice A1 n1 c1, .slice A2 n2 c2, .slice A3 n3 c3], .string s] w fun e w' => e = .returned (.bool true) ∧ Below w.heap.size w w' := by
  have L1 := Lib.hid (LawW.start c0 c1 c2 c3 h)
  obtain ⟨bq, hbq⟩ : ∃ bq, bq = rightM m := ⟨_, rfl⟩
  have HBQ := Lib.hid hbq
  clear hbq h
  go_enter Try.func8, Try.ntmps8
  go_wp2_with fail
  generalize w.alloc (.cells #[.slice A0 n0 c0, .slice A1 n1 c1, .slice A2 n2 c2, .slice A3 n3 c3] 42) = w1 at L1 ⊢
  have q0 := L1.out.q0
  have q1 := L1.out.q1
  have q2 := L1.out.q2
  have q3 := L1.out.q3
  cases bq with
  | false =>
    go_wp2_with fail
    refine (tgrow_no A0 A1 A2 A3 n0 n1 n2 n3 c0 c1 c2 c3 m RA rc PA pc _ L1.out.mach HBQ.out.symm).mono ?_
    rintro e w2 ⟨rfl, hb2⟩
    have L2 := Lib.hid (L1.out.go hb2)
    clear hb2
    have q0 := L2.out.q0
    have q1 := L2.out.q1
    have q2 := L2.out.q2
    have q3 := L2.out.q3
    go_wp2_with fail
    refine (rtright_any A0 A1 A2 A3 n0 n1 n2 n3 c0 c1 c2 c3 m RA rc PA pc _ L2.out.mach).mono ?_
    rw [← HBQ.out]
    rintro e w3 ⟨rfl, hb3⟩
    have L3 := Lib.hid (L2.out.go hb3)
    clear hb3
    go_wp2_with fail
    go_returns
    exact ⟨by first | rfl | simp, L3.out.bel⟩
  | true =>
    have hr : RightM m := by
      apply Classical.byContradiction
      intro h9
      have := HBQ.out
      rw [rightM_no h9] at this
      cases this
    have hmo : mostM m m.next.length ≤ 4097 := by
      refine upTo_le _ _ _ (fun j hj => upTo_le _ _ _ (fun b hb => outT_len hr hj _))
    have hen : endM m m.next.length ≤ 4096 := by
      refine upTo_le _ _ _ (fun j hj => ?_)
      have hst := hr.states j hj
      have h1 := hst.endlo
      have h2 := hst.endhi
      apply Classical.byContradiction
      intro h9
      exact hr.short ⟨(m.ends.getD j 0).toNat, by omega, by unfold endLen endText at h9; omega⟩
    have hcs := cutS_le s 300
    have HTL := Lib.hid (fun (s : Bs) => total_len hr s)
    have HG := Lib.hid (fun W hW => tgrow_ok A0 A1 A2 A3 n0 n1 n2 n3 c0 c1 c2 c3 m RA rc PA pc W hW hr)
    have HRG := Lib.hid (fun W hW => rtgrow_ok A0 A1 A2 A3 n0 n1 n2 n3 c0 c1 c2 c3 m RA rc PA pc W hW hr)
    have HSH := Lib.hid (fun W => tshort_any s 300 (by omega) W)
    obtain ⟨mo, hmo'⟩ : ∃ mo, mo = mostM m m.next.length := ⟨_, rfl⟩
    obtain ⟨en, hen'⟩ : ∃ en, en = endM m m.next.length := ⟨_, rfl⟩
    obtain ⟨s', hs'⟩ : ∃ s', s' = cutS s 300 := ⟨_, rfl⟩
    rw [← hmo'] at hmo HTL HG HRG
    rw [← hen'] at hen HTL HG HRG
    rw [← hs'] at hcs HSH
    have HRU := Lib.hid (fun W hW => trun_any A0 A1 A2 A3 n0 n1 n2 n3 c0 c1 c2 c3 m RA rc PA pc s' W hW hr (by omega))
    obtain ⟨res, hres⟩ : ∃ res, res = runRes m s'.data.toList := ⟨_, rfl⟩
    have hres2 : res = none ∨ ∃ t : ByteArray, res = some t.data.toList ∧ t.size ≤ mo * s'.size + en := by
      rw [hres]
      by_cases h9 : TooLong m s'.data.toList
      · exact .inl (runRes_long h9)
      · refine .inr ⟨⟨(total m s'.data.toList).toArray⟩, by rw [runRes_ok h9], ?_⟩
        have := HTL.out s'.data.toList
        rw [size_data] at this
        show (total m s'.data.toList).toArray.size ≤ _
        rw [List.size_toArray]
        exact this
    rw [← hres] at HRU
    have hprod : mo * s'.size ≤ 4097 * 300 := Nat.mul_le_mul hmo hcs
    have hpc : ((mo * s'.size : Nat) : Int) = (mo : Int) * (s'.size : Int) := Int.natCast_mul _ _
    obtain ⟨pr, hpr⟩ : ∃ pr, pr = mo * s'.size := ⟨_, rfl⟩
    rw [← hpr] at hres2 hprod hpc
    clear hr hmo' hen' hs' HTL hres hpr
    go_wp2_with fail
    refine (HG.out _ L1.out.mach).mono ?_
    rintro e w2 ⟨rfl, hb2⟩
    have L2 := Lib.hid (L1.out.go hb2)
    clear hb2
    have q0 := L2.out.q0
    have q1 := L2.out.q1
    have q2 := L2.out.q2
    have q3 := L2.out.q3
    go_wp2_with fail
    refine (rtright_any A0 A1 A2 A3 n0 n1 n2 n3 c0 c1 c2 c3 m RA rc PA pc _ L2.out.mach).mono ?_
    rw [← HBQ.out]
    rintro e w3 ⟨rfl, hb3⟩
    have L3 := Lib.hid (L2.out.go hb3)
    clear hb3
    have q0 := L3.out.q0
    have q1 := L3.out.q1
    have q2 := L3.out.q2
    have q3 := L3.out.q3
    go_wp2_with fail
    refine (HRG.out _ L3.out.mach).mono ?_
    rintro e w4 ⟨rfl, hb4⟩
    have L4 := Lib.hid (L3.out.go hb4)
    clear hb4
    have q0 := L4.out.q0
    have q1 := L4.out.q1
    have q2 := L4.out.q2
    have q3 := L4.out.q3
    go_wp2_with fail
    refine (HSH.out _).mono ?_
    rintro e w5 ⟨rfl, rfl⟩
    rcases hres2 with rfl | ⟨t, rfl, htl⟩
    · go_wp2_with fail
      refine (HRU.out _ L4.out.mach).mono ?_
      rintro e w6 ⟨rfl, hb6⟩
      have L6 := Lib.hid (L4.out.go hb6)
      clear hb6
      go_wp2_with fail
      go_returns
      exact ⟨by first | rfl | simp, L6.out.bel⟩
    · have e1 : decide ((t.size : Int) ≤ (mo : Int) * (s'.size : Int) + (en : Int)) = true := by rw [← hpc]; simp; omega
      have hw1 : -9223372036854775808 ≤ (mo : Int) * (s'.size : Int) ∧ (mo : Int) * (s'.size : Int) ≤ 4097 * 300 := by omega
      have htt : (⟨t.data.toList.toArray⟩ : ByteArray) = t := rfl
      go_wp2_with fail
      refine (HRU.out _ L4.out.mach).mono ?_
      rintro e w6 ⟨rfl, hb6⟩
      have L6 := Lib.hid (L4.out.go hb6)
      clear hb6
      go_wp2_with fail
      go_returns
      exact ⟨by first | rfl | simp, L6.out.bel⟩
end Go.Proofs.Ythjnkpoalbddkaa
