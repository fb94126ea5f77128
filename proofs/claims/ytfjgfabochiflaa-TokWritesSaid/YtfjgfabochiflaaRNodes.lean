/- the reference's Nodes and Deep. -/
import Derived.Test.YtfjgfabochiflaaNodes
namespace Go.Proofs.Ytfjgfabochiflaa
open Go.RowKit

/-- what Nodes says of a tree, in every world -/
def RNodesAt (t : Tr) : Prop := ∀ (m : Nat) (A : Option Addr) (n c : Nat) (w : World), 1 ≤ m → m ≤ 1000 → TrIn w t A n →
  Calls Try.prog 74 #[.agg #[.int .i64 t.kind, .int .u64 t.s0, .int .u64 t.s1, .int .u64 t.s2, .int .u64 t.s3, .int .i64 t.lo, .int .i64 t.hi, .slice A n c], .int .i64 (m : Int)] w fun e w' =>
    e = .returned (.int .i64 ((min t.nodes m : Nat) : Int)) ∧ Below w.heap.size w w'

set_option maxRecDepth 100000 in
set_option maxHeartbeats 4000000 in
theorem rnodes_any (t : Tr) : RNodesAt t := by
  induction t using Tr.ind with
  | h t ih =>
    intro m A n c w hm1 hm h
    have hb0 : Below w.heap.size w (w.alloc (.cells #[.int .i64 t.kind, .int .u64 t.s0, .int .u64 t.s1, .int .u64 t.s2, .int .u64 t.s3, .int .i64 t.lo, .int .i64 t.hi, .slice A n c] 29)) :=
      (Below.refl _ _).alloc (Nat.le_refl _) _
    obtain ⟨KA, KN, KC, hk⟩ := h.out
    have hlen := hk.len
    have hle := hk.le
    have HK := Lib.hid (hk.keep hb0)
    have HH := Lib.hid (Tr.nodes_eq t)
    have HB := Lib.hid hb0
    have HIH := Lib.hid ih
    clear hk h hb0 ih
    obtain ⟨res, hres⟩ : ∃ res : Int, res = ((min t.nodes m : Nat) : Int) := ⟨_, rfl⟩
    rw [← hres]
    have HR := Lib.hid hres
    clear hres
    go_enter Try.func74, Try.ntmps74
    go_upto_region 3 with (fail)
    generalize w.alloc (.cells #[.int .i64 t.kind, .int .u64 t.s0, .int .u64 t.s1, .int .u64 t.s2, .int .u64 t.s3, .int .i64 t.lo, .int .i64 t.hi, .slice A n c] 29) = w1 at HK HB ⊢
    go_loopw [5, 11] (fun v i wr => ∃ k acc : Nat, k ≤ n ∧ i = .int .i64 k ∧ v = .int .i64 (acc : Int) ∧ acc = min (nodesL (t.kids.take k)) m ∧ Below w1.heap.size w1 wr) (fun _ i _ => n - (intOf i).toNat)
    case atStart => exact ⟨0, 1, by omega, rfl, rfl, by simp [nodesL]; omega, Below.refl _ _⟩
    case round =>
      obtain ⟨k, acc, hkn, rfl, rfl, hacc, hb⟩ := hrel
      obtain ⟨w3, rfl⟩ : ∃ w3 : World, w3 = wr := ⟨_, rfl⟩
      have HBL := Lib.hid hb
      have HA := Lib.hid hacc
      have hab : acc ≤ m := by omega
      clear hb hacc
      by_cases hlt : k < n
      · obtain ⟨b, o, rfl, hbl, p0, p1, p2, p3, p4, p5, p6, p7⟩ := (HK.out.keep HBL.out).eight hlt
        have hkid := (HK.out.keep HBL.out).kid k hlt
        have hmem : t.kids.getD k noTr ∈ t.kids := getD_mem (by omega)
        have IH := HIH.out _ hmem
        have hnext := nodesL_snoc (t.kids.take k) (t.kids.getD k noTr)
        rw [← take_next t.kids k noTr (by omega)] at hnext
        obtain ⟨kid, hkid'⟩ : ∃ kid, kid = t.kids.getD k noTr := ⟨_, rfl⟩
        rw [← hkid'] at p0 p1 p2 p3 p4 p5 p6 hkid IH hnext
        have HKI := Lib.hid hkid
        have HIK := Lib.hid IH
        have HN := Lib.hid hnext
        have hble : Below w3.heap.size w3 (w3.alloc (.cells #[.int .i64 kid.kind, .int .u64 kid.s0, .int .u64 kid.s1, .int .u64 kid.s2, .int .u64 kid.s3, .int .i64 kid.lo, .int .i64 kid.hi, .slice (KA k) (KN k) (KC k)] 29)) := (Below.refl _ _).alloc (Nat.le_refl _) _
        have HKI2 := Lib.hid (hkid.keep hble)
        have HBE := Lib.hid hble
        clear hkid' hmem hkid IH hnext hble
        by_cases hgt : m ≤ acc
        · have d1 : decide ((m : Int) ≤ (acc : Int)) = true := by simpa using hgt
          go_wp2_with fail
          go_returns
          refine ⟨by
            have h1 := HA.out
            have h2 := nodesL_take_le t.kids k
            have h3 := HH.out
            rw [HR.out, show min t.nodes m = m by omega]; rfl, HB.out.trans ((HBL.out.mono HB.out.size).trans ?_)⟩
          first
            | exact Below.refl _ _
            | exact HBE.out.mono (Nat.le_trans HB.out.size HBL.out.size)
        · have d1 : decide ((m : Int) ≤ (acc : Int)) = false := by simp; omega
          have ec : (m : Int) - (acc : Int) = ((m - acc : Nat) : Int) := by omega
          have HEC := Lib.hid ec
          clear ec
          obtain ⟨r, hr⟩ : ∃ r : Nat, r = min kid.nodes (m - acc) := ⟨_, rfl⟩
          have hrb : r ≤ m - acc := by omega
          have HRR := Lib.hid hr
          clear hr
          go_wp2_with (go_at_call 74; rw [HEC.out]; refine (HIK.out (m - acc) _ _ _ _ (by omega) (by omega) HKI2.out).mono ?_; rintro e w4 ⟨rfl, hb4⟩; rw [← HRR.out]; have HB4 := Lib.hid hb4; clear hb4)
          go_roundw
          case rel =>
            refine ⟨k + 1, acc + r, by omega, by go_num, by go_num, ?_, HBL.out.trans ((HBE.out.trans (HB4.out.mono HBE.out.size)).mono HBL.out.size)⟩
            have h1 := HA.out
            have h2 := HN.out
            have h3 := HRR.out
            omega
          case measure => simp [intOf]; omega
      · obtain rfl : k = n := by omega
        have d2 : decide ((m : Int) < (acc : Int)) = false := by simp; omega
        go_wp2_with fail
        go_returns
        refine ⟨by
          have h1 := HA.out
          rw [List.take_of_length_le (by omega)] at h1
          have h3 := HH.out
          rw [HR.out, show min t.nodes m = acc by omega]; rfl, HB.out.trans (HBL.out.mono HB.out.size)⟩
/-- what Deep says of a tree, in every world -/
def RDeepAt (t : Tr) : Prop := ∀ (m : Nat) (A : Option Addr) (n c : Nat) (w : World), 1 ≤ m → m ≤ 1000 → TrIn w t A n →
  Calls Try.prog 73 #[.agg #[.int .i64 t.kind, .int .u64 t.s0, .int .u64 t.s1, .int .u64 t.s2, .int .u64 t.s3, .int .i64 t.lo, .int .i64 t.hi, .slice A n c], .int .i64 (m : Int)] w fun e w' =>
    e = .returned (.int .i64 ((min t.height m : Nat) : Int)) ∧ Below w.heap.size w w'

set_option maxRecDepth 100000 in
set_option maxHeartbeats 4000000 in
theorem rdeep_any (t : Tr) : RDeepAt t := by
  induction t using Tr.ind with
  | h t ih =>
    intro m A n c w hm1 hm h
    have hb0 : Below w.heap.size w (w.alloc (.cells #[.int .i64 t.kind, .int .u64 t.s0, .int .u64 t.s1, .int .u64 t.s2, .int .u64 t.s3, .int .i64 t.lo, .int .i64 t.hi, .slice A n c] 29)) :=
      (Below.refl _ _).alloc (Nat.le_refl _) _
    obtain ⟨KA, KN, KC, hk⟩ := h.out
    have hlen := hk.len
    have hle := hk.le
    have HK := Lib.hid (hk.keep hb0)
    have HH := Lib.hid (Tr.height_eq t)
    have HB := Lib.hid hb0
    have HIH := Lib.hid ih
    clear hk h hb0 ih
    obtain ⟨res, hres⟩ : ∃ res : Int, res = ((min t.height m : Nat) : Int) := ⟨_, rfl⟩
    rw [← hres]
    have HR := Lib.hid hres
    clear hres
    by_cases h1m : m = 1
    · subst h1m
      have d0 : decide ((1 : Int) ≤ 1) = true := rfl
      have hres1 : res = 1 := by rw [HR.out]; have := Tr.height_pos t; omega
      subst hres1
      go_enter Try.func73, Try.ntmps73
      go_wp2_with fail
      go_returns
      exact ⟨by first | rfl | simp, HB.out⟩
    have d0 : decide ((m : Int) ≤ 1) = false := by simp; omega
    go_enter Try.func73, Try.ntmps73
    go_upto_region 5 with (fail)
    generalize w.alloc (.cells #[.int .i64 t.kind, .int .u64 t.s0, .int .u64 t.s1, .int .u64 t.s2, .int .u64 t.s3, .int .i64 t.lo, .int .i64 t.hi, .slice A n c] 29) = w1 at HK HB ⊢
    go_loopw [5, 15] (fun v i wr => ∃ k acc : Nat, k ≤ n ∧ i = .int .i64 k ∧ v = .int .i64 (acc : Int) ∧ acc = heightL (t.kids.take k) ∧ acc + 1 < m ∧ Below w1.heap.size w1 wr) (fun _ i _ => n - (intOf i).toNat)
    case atStart => exact ⟨0, 0, by omega, rfl, rfl, by simp [heightL], by omega, Below.refl _ _⟩
    case round =>
      obtain ⟨k, acc, hkn, rfl, rfl, hacc, hlo, hb⟩ := hrel
      obtain ⟨w3, rfl⟩ : ∃ w3 : World, w3 = wr := ⟨_, rfl⟩
      have HBL := Lib.hid hb
      have HA := Lib.hid hacc
      clear hb hacc
      by_cases hlt : k < n
      · obtain ⟨b, o, rfl, hbl, p0, p1, p2, p3, p4, p5, p6, p7⟩ := (HK.out.keep HBL.out).eight hlt
        have hkid := (HK.out.keep HBL.out).kid k hlt
        have hmem : t.kids.getD k noTr ∈ t.kids := getD_mem (by omega)
        have IH := HIH.out _ hmem
        have hnext := heightL_snoc (t.kids.take k) (t.kids.getD k noTr)
        rw [← take_next t.kids k noTr (by omega)] at hnext
        obtain ⟨kid, hkid'⟩ : ∃ kid, kid = t.kids.getD k noTr := ⟨_, rfl⟩
        rw [← hkid'] at p0 p1 p2 p3 p4 p5 p6 hkid IH hnext
        have HKI := Lib.hid hkid
        have HIK := Lib.hid IH
        have HN := Lib.hid hnext
        have hble : Below w3.heap.size w3 (w3.alloc (.cells #[.int .i64 kid.kind, .int .u64 kid.s0, .int .u64 kid.s1, .int .u64 kid.s2, .int .u64 kid.s3, .int .i64 kid.lo, .int .i64 kid.hi, .slice (KA k) (KN k) (KC k)] 29)) := (Below.refl _ _).alloc (Nat.le_refl _) _
        have HKI2 := Lib.hid (hkid.keep hble)
        have HBE := Lib.hid hble
        clear hkid' hmem hkid IH hnext hble
        have ec : (m : Int) - 1 = ((m - 1 : Nat) : Int) := by omega
        have HEC := Lib.hid ec
        clear ec
        obtain ⟨r, hr⟩ : ∃ r : Nat, r = min kid.height (m - 1) := ⟨_, rfl⟩
        have hrb : r ≤ m - 1 := by omega
        have HRR := Lib.hid hr
        clear hr
        by_cases hra : acc < r
        · have d1 : decide ((acc : Int) < (r : Int)) = true := by simpa using hra
          by_cases hge : m - 1 ≤ r
          · have d2 : decide ((m : Int) - 1 ≤ (r : Int)) = true := by simp; omega
            go_wp2_with (go_at_call 73; rw [HEC.out]; refine (HIK.out (m - 1) _ _ _ _ (by omega) (by omega) HKI2.out).mono ?_; rintro e w4 ⟨rfl, hb4⟩; rw [← HRR.out]; have HB4 := Lib.hid hb4; clear hb4)
            go_returns
            exact ⟨by
              have h1 := HA.out
              have h2 := HN.out
              have h3 := HRR.out
              have h4 := heightL_take_le t.kids (k + 1)
              have h5 := HH.out
              rw [HR.out, show min t.height m = m by omega]; rfl, HB.out.trans ((HBL.out.trans ((HBE.out.trans (HB4.out.mono HBE.out.size)).mono HBL.out.size)).mono HB.out.size)⟩
          · have d2 : decide ((m : Int) - 1 ≤ (r : Int)) = false := by simp; omega
            go_wp2_with (go_at_call 73; rw [HEC.out]; refine (HIK.out (m - 1) _ _ _ _ (by omega) (by omega) HKI2.out).mono ?_; rintro e w4 ⟨rfl, hb4⟩; rw [← HRR.out]; have HB4 := Lib.hid hb4; clear hb4)
            go_roundw
            case rel =>
              have h1 := HA.out
              have h2 := HN.out
              have h3 := HRR.out
              exact ⟨k + 1, r, by omega, by go_num, by go_num, by omega, by omega, HBL.out.trans ((HBE.out.trans (HB4.out.mono HBE.out.size)).mono HBL.out.size)⟩
            case measure => simp [intOf]; omega
        · have d1 : decide ((acc : Int) < (r : Int)) = false := by simp; omega
          have d2 : decide ((m : Int) - 1 ≤ (acc : Int)) = false := by simp; omega
          go_wp2_with (go_at_call 73; rw [HEC.out]; refine (HIK.out (m - 1) _ _ _ _ (by omega) (by omega) HKI2.out).mono ?_; rintro e w4 ⟨rfl, hb4⟩; rw [← HRR.out]; have HB4 := Lib.hid hb4; clear hb4)
          go_roundw
          case rel =>
            have h1 := HA.out
            have h2 := HN.out
            have h3 := HRR.out
            exact ⟨k + 1, acc, by omega, by go_num, by go_num, by omega, by omega, HBL.out.trans ((HBE.out.trans (HB4.out.mono HBE.out.size)).mono HBL.out.size)⟩
          case measure => simp [intOf]; omega
      · obtain rfl : k = n := by omega
        go_wp2_with fail
        go_returns
        refine ⟨by
          have h1 := HA.out
          rw [List.take_of_length_le (by omega)] at h1
          have h3 := HH.out
          rw [HR.out, show min t.height m = acc + 1 by omega]; first | rfl | simp, HB.out.trans (HBL.out.mono HB.out.size)⟩
end Go.Proofs.Ytfjgfabochiflaa
