/- Nodes, RNodes, One, Every, ShapedA, Shaped, XRight, Size, CSize of this seat, in one text. -/
import Derived.Test.YtfjgfabochiflaaNfaTc
import Derived.Deep.Cut
import Derived.Deep.CutBlock
import Derived.Deep.CutRange
/- regex.nodes; the reference's Nodes and Deep. -/
namespace Go.Proofs.Ytfjgfabochiflaa
open Go.RowKit

/-- what nodes says of a tree, in every world -/
def NodesAt (t : Tr) : Prop := ∀ (m : Nat) (A : Option Addr) (n c : Nat) (w : World), m ≤ 1000 → TrIn w t A n →
  Calls Try.prog 101 #[.agg #[.int .i64 t.kind, .int .u64 t.s0, .int .u64 t.s1, .int .u64 t.s2, .int .u64 t.s3, .int .i64 t.lo, .int .i64 t.hi, .slice A n c], .int .i64 (m : Int)] w fun e w' =>
    e = .returned (.int .i64 ((min t.nodes (m + 1) : Nat) : Int)) ∧ Below w.heap.size w w'

set_option maxRecDepth 100000 in
set_option maxHeartbeats 4000000 in
theorem nodes_any (t : Tr) : NodesAt t := by
  induction t using Tr.ind with
  | h t ih =>
    intro m A n c w hm h
    have hb0 : Below w.heap.size w (w.alloc (.cells #[.int .i64 t.kind, .int .u64 t.s0, .int .u64 t.s1, .int .u64 t.s2, .int .u64 t.s3, .int .i64 t.lo, .int .i64 t.hi, .slice A n c] 29)) :=
      (Below.refl _ _).alloc (Nat.le_refl _) _
    obtain ⟨KA, KN, KC, hk⟩ := h.out
    have hlen := hk.len
    have hle := hk.le
    have HK := Lib.hid (hk.keep hb0)
    have HH := Lib.hid (Tr.nodes_eq t)
    have HB := Lib.hid hb0
    have HIH := Lib.hid ih
    clear hk h hb0 ih
    obtain ⟨res, hres⟩ : ∃ res : Int, res = ((min t.nodes (m + 1) : Nat) : Int) := ⟨_, rfl⟩
    rw [← hres]
    have HR := Lib.hid hres
    clear hres
    go_enter Try.func101, Try.ntmps101
    go_upto_region 3 with (fail)
    generalize w.alloc (.cells #[.int .i64 t.kind, .int .u64 t.s0, .int .u64 t.s1, .int .u64 t.s2, .int .u64 t.s3, .int .i64 t.lo, .int .i64 t.hi, .slice A n c] 29) = w1 at HK HB ⊢
    go_loopw [5, 11] (fun v i wr => ∃ k acc : Nat, k ≤ n ∧ i = .int .i64 k ∧ v = .int .i64 (acc : Int) ∧ acc = min (nodesL (t.kids.take k)) (m + 1) ∧ Below w1.heap.size w1 wr) (fun _ i _ => n - (intOf i).toNat)
    case atStart => exact ⟨0, 1, by omega, rfl, rfl, by simp [nodesL], Below.refl _ _⟩
    case round =>
      obtain ⟨k, acc, hkn, rfl, rfl, hacc, hb⟩ := hrel
      obtain ⟨w3, rfl⟩ : ∃ w3 : World, w3 = wr := ⟨_, rfl⟩
      have HBL := Lib.hid hb
      have HA := Lib.hid hacc
      have hab : acc ≤ m + 1 := by omega
      clear hb hacc
      by_cases hlt : k < n
      · obtain ⟨b, o, rfl, hbl, p0, p1, p2, p3, p4, p5, p6, p7⟩ := (HK.out.keep HBL.out).eight hlt
        have hkid := (HK.out.keep HBL.out).kid k hlt
        have hmem : t.kids.getD k noTr ∈ t.kids := getD_mem (by omega)
        have IH := HIH.out _ hmem
        have hnext := nodesL_snoc (t.kids.take k) (t.kids.getD k noTr)
        rw [← take_next t.kids k noTr (by omega)] at hnext
        obtain ⟨kid, hkid'⟩ : ∃ kid, kid = t.kids.getD k noTr := ⟨_, rfl⟩
        rw [← hkid'] at p0 p1 p2 p3 p4 p5 p6 hkid IH hnext
        have HKI := Lib.hid hkid
        have HIK := Lib.hid IH
        have HN := Lib.hid hnext
        have hble : Below w3.heap.size w3 (w3.alloc (.cells #[.int .i64 kid.kind, .int .u64 kid.s0, .int .u64 kid.s1, .int .u64 kid.s2, .int .u64 kid.s3, .int .i64 kid.lo, .int .i64 kid.hi, .slice (KA k) (KN k) (KC k)] 29)) := (Below.refl _ _).alloc (Nat.le_refl _) _
        have HKI2 := Lib.hid (hkid.keep hble)
        have HBE := Lib.hid hble
        clear hkid' hmem hkid IH hnext hble
        by_cases hgt : m < acc
        · have d1 : decide ((m : Int) < (acc : Int)) = true := by simpa using hgt
          go_wp2_with fail
          go_returns
          refine ⟨by
            have h1 := HA.out
            have h2 := nodesL_take_le t.kids k
            have h3 := HH.out
            rw [HR.out, show min t.nodes (m + 1) = acc by omega]; rfl, HB.out.trans ((HBL.out.mono HB.out.size).trans ?_)⟩
          first
            | exact Below.refl _ _
            | exact HBE.out.mono (Nat.le_trans HB.out.size HBL.out.size)
        · have d1 : decide ((m : Int) < (acc : Int)) = false := by simp; omega
          have ec : (m : Int) - (acc : Int) = ((m - acc : Nat) : Int) := by omega
          have HEC := Lib.hid ec
          clear ec
          obtain ⟨r, hr⟩ : ∃ r : Nat, r = min kid.nodes (m - acc + 1) := ⟨_, rfl⟩
          have hrb : r ≤ m - acc + 1 := by omega
          have HRR := Lib.hid hr
          clear hr
          go_wp2_with (go_at_call 101; rw [HEC.out]; refine (HIK.out (m - acc) _ _ _ _ (by omega) HKI2.out).mono ?_; rintro e w4 ⟨rfl, hb4⟩; rw [← HRR.out]; have HB4 := Lib.hid hb4; clear hb4)
          go_roundw
          case rel =>
            refine ⟨k + 1, acc + r, by omega, by go_num, by go_num, ?_, HBL.out.trans ((HBE.out.trans (HB4.out.mono HBE.out.size)).mono HBL.out.size)⟩
            have h1 := HA.out
            have h2 := HN.out
            have h3 := HRR.out
            omega
          case measure => simp [intOf]; omega
      · obtain rfl : k = n := by omega
        go_wp2_with fail
        go_returns
        refine ⟨by
          have h1 := HA.out
          rw [List.take_of_length_le (by omega)] at h1
          have h3 := HH.out
          rw [HR.out, show min t.nodes (m + 1) = acc by omega]; rfl, HB.out.trans (HBL.out.mono HB.out.size)⟩
end Go.Proofs.Ytfjgfabochiflaa
/- the reference's Nodes and Deep. -/
namespace Go.Proofs.Ytfjgfabochiflaa
open Go.RowKit

/-- what Nodes says of a tree, in every world -/
def RNodesAt (t : Tr) : Prop := ∀ (m : Nat) (A : Option Addr) (n c : Nat) (w : World), 1 ≤ m → m ≤ 1000 → TrIn w t A n →
  Calls Try.prog 74 #[.agg #[.int .i64 t.kind, .int .u64 t.s0, .int .u64 t.s1, .int .u64 t.s2, .int .u64 t.s3, .int .i64 t.lo, .int .i64 t.hi, .slice A n c], .int .i64 (m : Int)] w fun e w' =>
    e = .returned (.int .i64 ((min t.nodes m : Nat) : Int)) ∧ Below w.heap.size w w'

set_option maxRecDepth 100000 in
set_option maxHeartbeats 4000000 in
theorem rnodes_any (t : Tr) : RNodesAt t := by
  induction t using Tr.ind with
  | h t ih =>
    intro m A n c w hm1 hm h
    have hb0 : Below w.heap.size w (w.alloc (.cells #[.int .i64 t.kind, .int .u64 t.s0, .int .u64 t.s1, .int .u64 t.s2, .int .u64 t.s3, .int .i64 t.lo, .int .i64 t.hi, .slice A n c] 29)) :=
      (Below.refl _ _).alloc (Nat.le_refl _) _
    obtain ⟨KA, KN, KC, hk⟩ := h.out
    have hlen := hk.len
    have hle := hk.le
    have HK := Lib.hid (hk.keep hb0)
    have HH := Lib.hid (Tr.nodes_eq t)
    have HB := Lib.hid hb0
    have HIH := Lib.hid ih
    clear hk h hb0 ih
    obtain ⟨res, hres⟩ : ∃ res : Int, res = ((min t.nodes m : Nat) : Int) := ⟨_, rfl⟩
    rw [← hres]
    have HR := Lib.hid hres
    clear hres
    go_enter Try.func74, Try.ntmps74
    go_upto_region 3 with (fail)
    generalize w.alloc (.cells #[.int .i64 t.kind, .int .u64 t.s0, .int .u64 t.s1, .int .u64 t.s2, .int .u64 t.s3, .int .i64 t.lo, .int .i64 t.hi, .slice A n c] 29) = w1 at HK HB ⊢
    go_loopw [5, 11] (fun v i wr => ∃ k acc : Nat, k ≤ n ∧ i = .int .i64 k ∧ v = .int .i64 (acc : Int) ∧ acc = min (nodesL (t.kids.take k)) m ∧ Below w1.heap.size w1 wr) (fun _ i _ => n - (intOf i).toNat)
    case atStart => exact ⟨0, 1, by omega, rfl, rfl, by simp [nodesL]; omega, Below.refl _ _⟩
    case round =>
      obtain ⟨k, acc, hkn, rfl, rfl, hacc, hb⟩ := hrel
      obtain ⟨w3, rfl⟩ : ∃ w3 : World, w3 = wr := ⟨_, rfl⟩
      have HBL := Lib.hid hb
      have HA := Lib.hid hacc
      have hab : acc ≤ m := by omega
      clear hb hacc
      by_cases hlt : k < n
      · obtain ⟨b, o, rfl, hbl, p0, p1, p2, p3, p4, p5, p6, p7⟩ := (HK.out.keep HBL.out).eight hlt
        have hkid := (HK.out.keep HBL.out).kid k hlt
        have hmem : t.kids.getD k noTr ∈ t.kids := getD_mem (by omega)
        have IH := HIH.out _ hmem
        have hnext := nodesL_snoc (t.kids.take k) (t.kids.getD k noTr)
        rw [← take_next t.kids k noTr (by omega)] at hnext
        obtain ⟨kid, hkid'⟩ : ∃ kid, kid = t.kids.getD k noTr := ⟨_, rfl⟩
        rw [← hkid'] at p0 p1 p2 p3 p4 p5 p6 hkid IH hnext
        have HKI := Lib.hid hkid
        have HIK := Lib.hid IH
        have HN := Lib.hid hnext
        have hble : Below w3.heap.size w3 (w3.alloc (.cells #[.int .i64 kid.kind, .int .u64 kid.s0, .int .u64 kid.s1, .int .u64 kid.s2, .int .u64 kid.s3, .int .i64 kid.lo, .int .i64 kid.hi, .slice (KA k) (KN k) (KC k)] 29)) := (Below.refl _ _).alloc (Nat.le_refl _) _
        have HKI2 := Lib.hid (hkid.keep hble)
        have HBE := Lib.hid hble
        clear hkid' hmem hkid IH hnext hble
        by_cases hgt : m ≤ acc
        · have d1 : decide ((m : Int) ≤ (acc : Int)) = true := by simpa using hgt
          go_wp2_with fail
          go_returns
          refine ⟨by
            have h1 := HA.out
            have h2 := nodesL_take_le t.kids k
            have h3 := HH.out
            rw [HR.out, show min t.nodes m = m by omega]; rfl, HB.out.trans ((HBL.out.mono HB.out.size).trans ?_)⟩
          first
            | exact Below.refl _ _
            | exact HBE.out.mono (Nat.le_trans HB.out.size HBL.out.size)
        · have d1 : decide ((m : Int) ≤ (acc : Int)) = false := by simp; omega
          have ec : (m : Int) - (acc : Int) = ((m - acc : Nat) : Int) := by omega
          have HEC := Lib.hid ec
          clear ec
          obtain ⟨r, hr⟩ : ∃ r : Nat, r = min kid.nodes (m - acc) := ⟨_, rfl⟩
          have hrb : r ≤ m - acc := by omega
          have HRR := Lib.hid hr
          clear hr
          go_wp2_with (go_at_call 74; rw [HEC.out]; refine (HIK.out (m - acc) _ _ _ _ (by omega) (by omega) HKI2.out).mono ?_; rintro e w4 ⟨rfl, hb4⟩; rw [← HRR.out]; have HB4 := Lib.hid hb4; clear hb4)
          go_roundw
          case rel =>
            refine ⟨k + 1, acc + r, by omega, by go_num, by go_num, ?_, HBL.out.trans ((HBE.out.trans (HB4.out.mono HBE.out.size)).mono HBL.out.size)⟩
            have h1 := HA.out
            have h2 := HN.out
            have h3 := HRR.out
            omega
          case measure => simp [intOf]; omega
      · obtain rfl : k = n := by omega
        have d2 : decide ((m : Int) < (acc : Int)) = false := by simp; omega
        go_wp2_with fail
        go_returns
        refine ⟨by
          have h1 := HA.out
          rw [List.take_of_length_le (by omega)] at h1
          have h3 := HH.out
          rw [HR.out, show min t.nodes m = acc by omega]; rfl, HB.out.trans (HBL.out.mono HB.out.size)⟩
/-- what Deep says of a tree, in every world -/
def RDeepAt (t : Tr) : Prop := ∀ (m : Nat) (A : Option Addr) (n c : Nat) (w : World), 1 ≤ m → m ≤ 1000 → TrIn w t A n →
  Calls Try.prog 73 #[.agg #[.int .i64 t.kind, .int .u64 t.s0, .int .u64 t.s1, .int .u64 t.s2, .int .u64 t.s3, .int .i64 t.lo, .int .i64 t.hi, .slice A n c], .int .i64 (m : Int)] w fun e w' =>
    e = .returned (.int .i64 ((min t.height m : Nat) : Int)) ∧ Below w.heap.size w w'

set_option maxRecDepth 100000 in
set_option maxHeartbeats 4000000 in
theorem rdeep_any (t : Tr) : RDeepAt t := by
  induction t using Tr.ind with
  | h t ih =>
    intro m A n c w hm1 hm h
    have hb0 : Below w.heap.size w (w.alloc (.cells #[.int .i64 t.kind, .int .u64 t.s0, .int .u64 t.s1, .int .u64 t.s2, .int .u64 t.s3, .int .i64 t.lo, .int .i64 t.hi, .slice A n c] 29)) :=
      (Below.refl _ _).alloc (Nat.le_refl _) _
    obtain ⟨KA, KN, KC, hk⟩ := h.out
    have hlen := hk.len
    have hle := hk.le
    have HK := Lib.hid (hk.keep hb0)
    have HH := Lib.hid (Tr.height_eq t)
    have HB := Lib.hid hb0
    have HIH := Lib.hid ih
    clear hk h hb0 ih
    obtain ⟨res, hres⟩ : ∃ res : Int, res = ((min t.height m : Nat) : Int) := ⟨_, rfl⟩
    rw [← hres]
    have HR := Lib.hid hres
    clear hres
    by_cases h1m : m = 1
    · subst h1m
      have d0 : decide ((1 : Int) ≤ 1) = true := rfl
      have hres1 : res = 1 := by rw [HR.out]; have := Tr.height_pos t; omega
      subst hres1
      go_enter Try.func73, Try.ntmps73
      go_wp2_with fail
      go_returns
      exact ⟨by first | rfl | simp, HB.out⟩
    have d0 : decide ((m : Int) ≤ 1) = false := by simp; omega
    go_enter Try.func73, Try.ntmps73
    go_upto_region 5 with (fail)
    generalize w.alloc (.cells #[.int .i64 t.kind, .int .u64 t.s0, .int .u64 t.s1, .int .u64 t.s2, .int .u64 t.s3, .int .i64 t.lo, .int .i64 t.hi, .slice A n c] 29) = w1 at HK HB ⊢
    go_loopw [5, 15] (fun v i wr => ∃ k acc : Nat, k ≤ n ∧ i = .int .i64 k ∧ v = .int .i64 (acc : Int) ∧ acc = heightL (t.kids.take k) ∧ acc + 1 < m ∧ Below w1.heap.size w1 wr) (fun _ i _ => n - (intOf i).toNat)
    case atStart => exact ⟨0, 0, by omega, rfl, rfl, by simp [heightL], by omega, Below.refl _ _⟩
    case round =>
      obtain ⟨k, acc, hkn, rfl, rfl, hacc, hlo, hb⟩ := hrel
      obtain ⟨w3, rfl⟩ : ∃ w3 : World, w3 = wr := ⟨_, rfl⟩
      have HBL := Lib.hid hb
      have HA := Lib.hid hacc
      clear hb hacc
      by_cases hlt : k < n
      · obtain ⟨b, o, rfl, hbl, p0, p1, p2, p3, p4, p5, p6, p7⟩ := (HK.out.keep HBL.out).eight hlt
        have hkid := (HK.out.keep HBL.out).kid k hlt
        have hmem : t.kids.getD k noTr ∈ t.kids := getD_mem (by omega)
        have IH := HIH.out _ hmem
        have hnext := heightL_snoc (t.kids.take k) (t.kids.getD k noTr)
        rw [← take_next t.kids k noTr (by omega)] at hnext
        obtain ⟨kid, hkid'⟩ : ∃ kid, kid = t.kids.getD k noTr := ⟨_, rfl⟩
        rw [← hkid'] at p0 p1 p2 p3 p4 p5 p6 hkid IH hnext
        have HKI := Lib.hid hkid
        have HIK := Lib.hid IH
        have HN := Lib.hid hnext
        have hble : Below w3.heap.size w3 (w3.alloc (.cells #[.int .i64 kid.kind, .int .u64 kid.s0, .int .u64 kid.s1, .int .u64 kid.s2, .int .u64 kid.s3, .int .i64 kid.lo, .int .i64 kid.hi, .slice (KA k) (KN k) (KC k)] 29)) := (Below.refl _ _).alloc (Nat.le_refl _) _
        have HKI2 := Lib.hid (hkid.keep hble)
        have HBE := Lib.hid hble
        clear hkid' hmem hkid IH hnext hble
        have ec : (m : Int) - 1 = ((m - 1 : Nat) : Int) := by omega
        have HEC := Lib.hid ec
        clear ec
        obtain ⟨r, hr⟩ : ∃ r : Nat, r = min kid.height (m - 1) := ⟨_, rfl⟩
        have hrb : r ≤ m - 1 := by omega
        have HRR := Lib.hid hr
        clear hr
        by_cases hra : acc < r
        · have d1 : decide ((acc : Int) < (r : Int)) = true := by simpa using hra
          by_cases hge : m - 1 ≤ r
          · have d2 : decide ((m : Int) - 1 ≤ (r : Int)) = true := by simp; omega
            go_wp2_with (go_at_call 73; rw [HEC.out]; refine (HIK.out (m - 1) _ _ _ _ (by omega) (by omega) HKI2.out).mono ?_; rintro e w4 ⟨rfl, hb4⟩; rw [← HRR.out]; have HB4 := Lib.hid hb4; clear hb4)
            go_returns
            exact ⟨by
              have h1 := HA.out
              have h2 := HN.out
              have h3 := HRR.out
              have h4 := heightL_take_le t.kids (k + 1)
              have h5 := HH.out
              rw [HR.out, show min t.height m = m by omega]; rfl, HB.out.trans ((HBL.out.trans ((HBE.out.trans (HB4.out.mono HBE.out.size)).mono HBL.out.size)).mono HB.out.size)⟩
          · have d2 : decide ((m : Int) - 1 ≤ (r : Int)) = false := by simp; omega
            go_wp2_with (go_at_call 73; rw [HEC.out]; refine (HIK.out (m - 1) _ _ _ _ (by omega) (by omega) HKI2.out).mono ?_; rintro e w4 ⟨rfl, hb4⟩; rw [← HRR.out]; have HB4 := Lib.hid hb4; clear hb4)
            go_roundw
            case rel =>
              have h1 := HA.out
              have h2 := HN.out
              have h3 := HRR.out
              exact ⟨k + 1, r, by omega, by go_num, by go_num, by omega, by omega, HBL.out.trans ((HBE.out.trans (HB4.out.mono HBE.out.size)).mono HBL.out.size)⟩
            case measure => simp [intOf]; omega
        · have d1 : decide ((acc : Int) < (r : Int)) = false := by simp; omega
          have d2 : decide ((m : Int) - 1 ≤ (acc : Int)) = false := by simp; omega
          go_wp2_with (go_at_call 73; rw [HEC.out]; refine (HIK.out (m - 1) _ _ _ _ (by omega) (by omega) HKI2.out).mono ?_; rintro e w4 ⟨rfl, hb4⟩; rw [← HRR.out]; have HB4 := Lib.hid hb4; clear hb4)
          go_roundw
          case rel =>
            have h1 := HA.out
            have h2 := HN.out
            have h3 := HRR.out
            exact ⟨k + 1, acc, by omega, by go_num, by go_num, by omega, by omega, HBL.out.trans ((HBE.out.trans (HB4.out.mono HBE.out.size)).mono HBL.out.size)⟩
          case measure => simp [intOf]; omega
      · obtain rfl : k = n := by omega
        go_wp2_with fail
        go_returns
        refine ⟨by
          have h1 := HA.out
          rw [List.take_of_length_le (by omega)] at h1
          have h3 := HH.out
          rw [HR.out, show min t.height m = acc + 1 by omega]; first | rfl | simp, HB.out.trans (HBL.out.mono HB.out.size)⟩
end Go.Proofs.Ytfjgfabochiflaa
/- Which trees may be: the reference's one, every. -/
namespace Go.Proofs.Ytfjgfabochiflaa
open Go.RowKit

theorem info22u : (Try.prog.info? 23).map (fun i => (i.zero, i.size, i.bytes)) = some (some (.int .u64 0), 1, 8) := by kernel_rfl
theorem cells22u : Try.prog.cellsOf 23 = 1 := by kernel_rfl
theorem eq23 (s0 s1 s2 s3 : Int) (W : World) : (Op.equalIn 9999 24 (.agg #[.int .u64 s0, .int .u64 s1, .int .u64 s2, .int .u64 s3]) (.agg #[.int .u64 0, .int .u64 0, .int .u64 0, .int .u64 0])).run Try.prog W = .ok (decide (s0 = 0 ∧ s1 = 0 ∧ s2 = 0 ∧ s3 = 0)) W := by
  obtain ⟨i, hi, _⟩ := info_parts info22u
  rw [run_equalIn_array W 9998 _ _ Try.underlying24 hi]
  by_cases h0 : s0 = 0 <;> by_cases h1 : s1 = 0 <;> by_cases h2 : s2 = 0 <;> by_cases h3 : s3 = 0 <;> simp [Op.eqItems, go_sem, cells22u, h0, h1, h2, h3]

/-- may a node be, its kids' own kids left aside? -/
def OkT (t : Tr) : Prop :=
  (t.kind = 1 ∧ t.lo = 0 ∧ t.hi = 0 ∧ t.kids.length = 0) ∨
  ((t.kind = 2 ∨ t.kind = 3) ∧ (t.s0 = 0 ∧ t.s1 = 0 ∧ t.s2 = 0 ∧ t.s3 = 0) ∧ t.lo = 0 ∧ t.hi = 0 ∧ t.kids.length ≠ 1 ∧ ¬ (t.kids.length = 0 ∧ t.kind = 3) ∧ ¬ AnyK (fun k => decide (k.kind = t.kind)) t.kids t.kids.length) ∨
  (t.kind = 4 ∧ (t.s0 = 0 ∧ t.s1 = 0 ∧ t.s2 = 0 ∧ t.s3 = 0) ∧ t.kids.length = 1 ∧ 0 ≤ t.lo ∧ t.lo ≤ 20 ∧ (t.hi = -1 ∨ (t.lo ≤ t.hi ∧ t.hi ≤ 20 ∧ ¬ (t.lo = 1 ∧ t.hi = 1))))
open Classical in
noncomputable def okT (t : Tr) : Bool := decide (OkT t)
inductive Shp : Tr → Prop
  | mk {t : Tr} : OkT t → (∀ k, k ∈ t.kids → Shp k) → Shp t
theorem Shp.ok {t : Tr} (h : Shp t) : OkT t := by cases h; assumption
theorem Shp.kid {t k : Tr} (h : Shp t) (hk : k ∈ t.kids) : Shp k := by cases h with | mk _ h => exact h k hk
open Classical in
noncomputable def shp (t : Tr) : Bool := decide (Shp t)
theorem shp_yes {t : Tr} (h : Shp t) : shp t = true := by unfold shp; simpa using h
theorem shp_no {t : Tr} (h : ¬ Shp t) : shp t = false := by unfold shp; simpa using h
theorem okT_yes {t : Tr} (h : OkT t) : okT t = true := by unfold okT; simpa using h
theorem okT_no {t : Tr} (h : ¬ OkT t) : okT t = false := by unfold okT; simpa using h

set_option maxRecDepth 100000 in
set_option maxHeartbeats 8000000 in
theorem one_any (t : Tr) (A : Option Addr) (n c : Nat) (w : World) (h : TrIn w t A n) :
    Calls Try.prog 107 #[.agg #[.int .i64 t.kind, .int .u64 t.s0, .int .u64 t.s1, .int .u64 t.s2, .int .u64 t.s3, .int .i64 t.lo, .int .i64 t.hi, .slice A n c]] w fun e w' =>
      e = .returned (.bool (okT t)) ∧ Below w.heap.size w w' := by
  have hb0 : Below w.heap.size w (w.alloc (.cells #[.int .i64 t.kind, .int .u64 t.s0, .int .u64 t.s1, .int .u64 t.s2, .int .u64 t.s3, .int .i64 t.lo, .int .i64 t.hi, .slice A n c] 29)) :=
    (Below.refl _ _).alloc (Nat.le_refl _) _
  obtain ⟨KA, KN, KC, hk⟩ := h.out
  have hlen := hk.len
  have hle := hk.le
  have HK := Lib.hid (hk.keep hb0)
  have HB := Lib.hid hb0
  clear hk h hb0
  obtain ⟨res, hres⟩ : ∃ res, res = okT t := ⟨_, rfl⟩
  rw [← hres]
  have HR := Lib.hid hres
  clear hres
  obtain ⟨z, hz⟩ : ∃ z, z = decide (t.s0 = 0 ∧ t.s1 = 0 ∧ t.s2 = 0 ∧ t.s3 = 0) := ⟨_, rfl⟩
  have heq := fun W => eq23 t.s0 t.s1 t.s2 t.s3 W
  rw [← hz] at heq
  have HZ := Lib.hid hz
  have hyes := okT_yes (t := t)
  have hno := okT_no (t := t)
  rw [← HR.out] at hyes hno
  have HY := Lib.hid hyes
  have HN := Lib.hid hno
  clear hz hyes hno
  by_cases k1 : t.kind = 1
  · have e1 : (t.kind == 1) = true := by simpa using k1
    have hok : OkT t ↔ t.lo = 0 ∧ t.hi = 0 ∧ n = 0 := by
      unfold OkT; rw [hlen]; omega
    have HOK := Lib.hid hok
    clear k1 hok heq
    by_cases c1 : t.lo = 0
    · have f1 : (t.lo == 0) = true := by simpa using c1
      by_cases c2 : t.hi = 0
      · have f2 : (t.hi == 0) = true := by simpa using c2
        by_cases c3 : n = 0
        · have f3 : ((n : Int) == 0) = true := by simpa using c3
          obtain rfl : res = true := HY.out (HOK.out.2 ⟨c1, c2, c3⟩)
          clear c1 c2 c3
          go_enter Try.func107, Try.ntmps107
          go_wp2_with fail
          go_returns
          exact ⟨by first | rfl | simp, HB.out⟩
        · have f3 : ((n : Int) == 0) = false := by simpa using c3
          obtain rfl : res = false := HN.out (fun h => c3 (HOK.out.1 h).2.2)
          clear c1 c2 c3
          go_enter Try.func107, Try.ntmps107
          go_wp2_with fail
          go_returns
          exact ⟨by first | rfl | simp, HB.out⟩
      · have f2 : (t.hi == 0) = false := by simpa using c2
        obtain rfl : res = false := HN.out (fun h => c2 (HOK.out.1 h).2.1)
        clear c1 c2
        go_enter Try.func107, Try.ntmps107
        go_wp2_with fail
        go_returns
        exact ⟨by first | rfl | simp, HB.out⟩
    · have f1 : (t.lo == 0) = false := by simpa using c1
      obtain rfl : res = false := HN.out (fun h => c1 (HOK.out.1 h).1)
      clear c1
      go_enter Try.func107, Try.ntmps107
      go_wp2_with fail
      go_returns
      exact ⟨by first | rfl | simp, HB.out⟩
  have e1 : (t.kind == 1) = false := by simpa using k1
  have q0 : (w.alloc (.cells #[.int .i64 t.kind, .int .u64 t.s0, .int .u64 t.s1, .int .u64 t.s2, .int .u64 t.s3, .int .i64 t.lo, .int .i64 t.hi, .slice A n c] 29)).cell? ⟨w.heap.size, 0, none⟩ = some (.int .i64 t.kind) := by simp
  have hgl : w.heap.size < (w.alloc (.cells #[.int .i64 t.kind, .int .u64 t.s0, .int .u64 t.s1, .int .u64 t.s2, .int .u64 t.s3, .int .i64 t.lo, .int .i64 t.hi, .slice A n c] 29)).heap.size := by simp
  by_cases k2 : t.kind = 2
  · have e2 : (t.kind == 2) = true := by simpa using k2
    have e3 : (t.kind == 3) = false := by simp; omega
    have hok : OkT t ↔ (t.s0 = 0 ∧ t.s1 = 0 ∧ t.s2 = 0 ∧ t.s3 = 0) ∧ t.lo = 0 ∧ t.hi = 0 ∧ n ≠ 1 ∧ ¬ AnyK (fun k => decide (k.kind = t.kind)) t.kids n := by
      unfold OkT; rw [hlen]
      constructor
      · rintro (h | ⟨_, h1, h2, h3, h4, h5, h6⟩ | h)
        · omega
        · exact ⟨h1, h2, h3, h4, h6⟩
        · omega
      · rintro ⟨h1, h2, h3, h4, h6⟩
        exact .inr (.inl ⟨.inl k2, h1, h2, h3, h4, by omega, h6⟩)
    have HOK := Lib.hid hok
    clear k1 k2 hok
    by_cases cz : t.s0 = 0 ∧ t.s1 = 0 ∧ t.s2 = 0 ∧ t.s3 = 0
    · obtain rfl : z = true := by rw [HZ.out]; simpa using cz
      by_cases c1 : t.lo = 0
      · have f_c1 : (t.lo != 0) = false := by simpa using c1
        by_cases c2 : t.hi = 0
        · have f_c2 : (t.hi != 0) = false := by simpa using c2
          by_cases c3 : n = 1
          · have f_c3 : ((n : Int) == 1) = true := by simp; omega --c3
            obtain rfl : res = false := HN.out (fun h => by have h9 := HOK.out.1 h; first | exact cz h9.1 | omega)
            clear cz c1 c2 c3
            go_enter Try.func107, Try.ntmps107
            go_wp2_with fail
            go_returns
            exact ⟨by first | rfl | simp, HB.out⟩
          · have f_c3 : ((n : Int) == 1) = false := by simp; omega --c3
            have hp2 : OkT t ↔ ¬ AnyK (fun k => decide (k.kind = t.kind)) t.kids n := HOK.out.trans ⟨fun h => h.2.2.2.2, fun h => ⟨cz, c1, c2, c3, h⟩⟩
            have HP := Lib.hid hp2
            clear cz c1 c2 c3 hp2
            by_cases c4 : n = 0
            · have f_c4 : ((n : Int) == 0) = true := by simpa using c4
              clear c4
              go_enter Try.func107, Try.ntmps107
              go_upto_region 9 with (fail)
              generalize w.alloc (.cells #[.int .i64 t.kind, .int .u64 t.s0, .int .u64 t.s1, .int .u64 t.s2, .int .u64 t.s3, .int .i64 t.lo, .int .i64 t.hi, .slice A n c] 29) = w1 at HK HB q0 hgl ⊢
              go_loopw [60] (fun i wr => ∃ k : Nat, k ≤ n ∧ i = .int .i64 k ∧ Below w1.heap.size w1 wr ∧ ¬ AnyK (fun k => decide (k.kind = t.kind)) t.kids k) (fun i _ => n - (intOf i).toNat)
              case atStart => exact ⟨0, by omega, rfl, Below.refl _ _, fun ⟨j, hj, _⟩ => absurd hj (by omega)⟩
              case round =>
                obtain ⟨k, hkn, rfl, hb, hno⟩ := hrel
                obtain ⟨w3, rfl⟩ : ∃ w3 : World, w3 = wr := ⟨_, rfl⟩
                have HBL := Lib.hid hb
                have HNO := Lib.hid hno
                have q3 : w3.cell? ⟨w.heap.size, 0, none⟩ = some (.int .i64 t.kind) := (hb.cell hgl).trans q0
                have hgl3 : w.heap.size < w3.heap.size := Nat.lt_of_lt_of_le hgl hb.size
                clear hb hno
                by_cases hlt : k < n
                · obtain ⟨b, o, rfl, hbl, p0, p1, p2, p3, p4, p5, p6, p7⟩ := (HK.out.keep HBL.out).eight hlt
                  have hble : Below w3.heap.size w3 (w3.alloc (.cells #[.int .i64 (t.kids.getD k noTr).kind, .int .u64 (t.kids.getD k noTr).s0, .int .u64 (t.kids.getD k noTr).s1, .int .u64 (t.kids.getD k noTr).s2, .int .u64 (t.kids.getD k noTr).s3, .int .i64 (t.kids.getD k noTr).lo, .int .i64 (t.kids.getD k noTr).hi, .slice (KA k) (KN k) (KC k)] 29)) := (Below.refl _ _).alloc (Nat.le_refl _) _
                  obtain ⟨kid, hkid'⟩ : ∃ kid, kid = t.kids.getD k noTr := ⟨_, rfl⟩
                  rw [← hkid'] at p0 p1 p2 p3 p4 p5 p6 hble
                  have HKE := Lib.hid hkid'
                  have HBE := Lib.hid hble
                  have q4 : (w3.alloc (.cells #[.int .i64 kid.kind, .int .u64 kid.s0, .int .u64 kid.s1, .int .u64 kid.s2, .int .u64 kid.s3, .int .i64 kid.lo, .int .i64 kid.hi, .slice (KA k) (KN k) (KC k)] 29)).cell? ⟨w.heap.size, 0, none⟩ = some (.int .i64 t.kind) := (World.cell?_alloc_lt _ _ _ hgl3).trans q3
                  clear hkid' hble
                  by_cases hke : kid.kind = t.kind
                  · have f_ke : (kid.kind == t.kind) = true := by simpa using hke
                    obtain rfl : res = false := HN.out (fun h => HP.out.1 h ⟨k, hlt, by rw [← HKE.out]; simpa using hke⟩)
                    clear hke
                    go_wp2_with fail
                    go_returns
                    exact ⟨by first | rfl | simp, HB.out.trans ((HBL.out.trans (HBE.out.mono HBL.out.size)).mono HB.out.size)⟩
                  · have f_ke : (kid.kind == t.kind) = false := by simpa using hke
                    have HKE2 := Lib.hid hke
                    clear hke
                    go_wp2_with fail
                    go_roundw
                    case rel => exact ⟨k + 1, by omega, by go_num, HBL.out.trans (HBE.out.mono HBL.out.size), fun ⟨j, hj, h9⟩ => by
                                  by_cases e9 : j = k
                                  · rw [e9, ← HKE.out] at h9; exact HKE2.out (by simpa using h9)
                                  · exact HNO.out ⟨j, by omega, h9⟩⟩
                    case measure => simp [intOf]; omega
                · obtain rfl : k = n := by omega
                  obtain rfl : res = true := HY.out (HP.out.2 HNO.out)
                  go_wp2_with fail
                  go_returns
                  exact ⟨by first | rfl | simp, HB.out.trans (HBL.out.mono HB.out.size)⟩
            · have f_c4 : ((n : Int) == 0) = false := by simpa using c4
              clear c4
              go_enter Try.func107, Try.ntmps107
              go_upto_region 9 with (fail)
              generalize w.alloc (.cells #[.int .i64 t.kind, .int .u64 t.s0, .int .u64 t.s1, .int .u64 t.s2, .int .u64 t.s3, .int .i64 t.lo, .int .i64 t.hi, .slice A n c] 29) = w1 at HK HB q0 hgl ⊢
              go_loopw [60] (fun i wr => ∃ k : Nat, k ≤ n ∧ i = .int .i64 k ∧ Below w1.heap.size w1 wr ∧ ¬ AnyK (fun k => decide (k.kind = t.kind)) t.kids k) (fun i _ => n - (intOf i).toNat)
              case atStart => exact ⟨0, by omega, rfl, Below.refl _ _, fun ⟨j, hj, _⟩ => absurd hj (by omega)⟩
              case round =>
                obtain ⟨k, hkn, rfl, hb, hno⟩ := hrel
                obtain ⟨w3, rfl⟩ : ∃ w3 : World, w3 = wr := ⟨_, rfl⟩
                have HBL := Lib.hid hb
                have HNO := Lib.hid hno
                have q3 : w3.cell? ⟨w.heap.size, 0, none⟩ = some (.int .i64 t.kind) := (hb.cell hgl).trans q0
                have hgl3 : w.heap.size < w3.heap.size := Nat.lt_of_lt_of_le hgl hb.size
                clear hb hno
                by_cases hlt : k < n
                · obtain ⟨b, o, rfl, hbl, p0, p1, p2, p3, p4, p5, p6, p7⟩ := (HK.out.keep HBL.out).eight hlt
                  have hble : Below w3.heap.size w3 (w3.alloc (.cells #[.int .i64 (t.kids.getD k noTr).kind, .int .u64 (t.kids.getD k noTr).s0, .int .u64 (t.kids.getD k noTr).s1, .int .u64 (t.kids.getD k noTr).s2, .int .u64 (t.kids.getD k noTr).s3, .int .i64 (t.kids.getD k noTr).lo, .int .i64 (t.kids.getD k noTr).hi, .slice (KA k) (KN k) (KC k)] 29)) := (Below.refl _ _).alloc (Nat.le_refl _) _
                  obtain ⟨kid, hkid'⟩ : ∃ kid, kid = t.kids.getD k noTr := ⟨_, rfl⟩
                  rw [← hkid'] at p0 p1 p2 p3 p4 p5 p6 hble
                  have HKE := Lib.hid hkid'
                  have HBE := Lib.hid hble
                  have q4 : (w3.alloc (.cells #[.int .i64 kid.kind, .int .u64 kid.s0, .int .u64 kid.s1, .int .u64 kid.s2, .int .u64 kid.s3, .int .i64 kid.lo, .int .i64 kid.hi, .slice (KA k) (KN k) (KC k)] 29)).cell? ⟨w.heap.size, 0, none⟩ = some (.int .i64 t.kind) := (World.cell?_alloc_lt _ _ _ hgl3).trans q3
                  clear hkid' hble
                  by_cases hke : kid.kind = t.kind
                  · have f_ke : (kid.kind == t.kind) = true := by simpa using hke
                    obtain rfl : res = false := HN.out (fun h => HP.out.1 h ⟨k, hlt, by rw [← HKE.out]; simpa using hke⟩)
                    clear hke
                    go_wp2_with fail
                    go_returns
                    exact ⟨by first | rfl | simp, HB.out.trans ((HBL.out.trans (HBE.out.mono HBL.out.size)).mono HB.out.size)⟩
                  · have f_ke : (kid.kind == t.kind) = false := by simpa using hke
                    have HKE2 := Lib.hid hke
                    clear hke
                    go_wp2_with fail
                    go_roundw
                    case rel => exact ⟨k + 1, by omega, by go_num, HBL.out.trans (HBE.out.mono HBL.out.size), fun ⟨j, hj, h9⟩ => by
                                  by_cases e9 : j = k
                                  · rw [e9, ← HKE.out] at h9; exact HKE2.out (by simpa using h9)
                                  · exact HNO.out ⟨j, by omega, h9⟩⟩
                    case measure => simp [intOf]; omega
                · obtain rfl : k = n := by omega
                  obtain rfl : res = true := HY.out (HP.out.2 HNO.out)
                  go_wp2_with fail
                  go_returns
                  exact ⟨by first | rfl | simp, HB.out.trans (HBL.out.mono HB.out.size)⟩
        · have f_c2 : (t.hi != 0) = true := by simpa using c2
          obtain rfl : res = false := HN.out (fun h => by have h9 := HOK.out.1 h; first | exact cz h9.1 | omega)
          clear cz c1 c2
          go_enter Try.func107, Try.ntmps107
          go_wp2_with fail
          go_returns
          exact ⟨by first | rfl | simp, HB.out⟩
      · have f_c1 : (t.lo != 0) = true := by simpa using c1
        obtain rfl : res = false := HN.out (fun h => by have h9 := HOK.out.1 h; first | exact cz h9.1 | omega)
        clear cz c1
        go_enter Try.func107, Try.ntmps107
        go_wp2_with fail
        go_returns
        exact ⟨by first | rfl | simp, HB.out⟩
    · obtain rfl : z = false := by rw [HZ.out]; simpa using cz
      obtain rfl : res = false := HN.out (fun h => by have h9 := HOK.out.1 h; first | exact cz h9.1 | omega)
      clear cz
      go_enter Try.func107, Try.ntmps107
      go_wp2_with fail
      go_returns
      exact ⟨by first | rfl | simp, HB.out⟩
  have e2 : (t.kind == 2) = false := by simpa using k2
  by_cases k3 : t.kind = 3
  · have e3 : (t.kind == 3) = true := by simpa using k3
    have hok : OkT t ↔ (t.s0 = 0 ∧ t.s1 = 0 ∧ t.s2 = 0 ∧ t.s3 = 0) ∧ t.lo = 0 ∧ t.hi = 0 ∧ n ≠ 1 ∧ n ≠ 0 ∧ ¬ AnyK (fun k => decide (k.kind = t.kind)) t.kids n := by
      unfold OkT; rw [hlen]
      constructor
      · rintro (h | ⟨_, h1, h2, h3, h4, h5, h6⟩ | h)
        · omega
        · exact ⟨h1, h2, h3, h4, fun h0 => h5 ⟨h0, k3⟩, h6⟩
        · omega
      · rintro ⟨h1, h2, h3, h4, h5, h6⟩
        exact .inr (.inl ⟨.inr k3, h1, h2, h3, h4, fun h0 => h5 h0.1, h6⟩)
    have HOK := Lib.hid hok
    clear k1 k2 k3 hok
    by_cases cz : t.s0 = 0 ∧ t.s1 = 0 ∧ t.s2 = 0 ∧ t.s3 = 0
    · obtain rfl : z = true := by rw [HZ.out]; simpa using cz
      by_cases c1 : t.lo = 0
      · have f_c1 : (t.lo != 0) = false := by simpa using c1
        by_cases c2 : t.hi = 0
        · have f_c2 : (t.hi != 0) = false := by simpa using c2
          by_cases c3 : n = 1
          · have f_c3 : ((n : Int) == 1) = true := by simp; omega --c3
            obtain rfl : res = false := HN.out (fun h => by have h9 := HOK.out.1 h; first | exact cz h9.1 | omega)
            clear cz c1 c2 c3
            go_enter Try.func107, Try.ntmps107
            go_wp2_with fail
            go_returns
            exact ⟨by first | rfl | simp, HB.out⟩
          · have f_c3 : ((n : Int) == 1) = false := by simp; omega --c3
            by_cases c4 : n = 0
            · have f_c4 : ((n : Int) == 0) = true := by simp; omega --c4
              obtain rfl : res = false := HN.out (fun h => by have h9 := HOK.out.1 h; first | exact cz h9.1 | omega)
              clear cz c1 c2 c3 c4
              go_enter Try.func107, Try.ntmps107
              go_wp2_with fail
              go_returns
              exact ⟨by first | rfl | simp, HB.out⟩
            · have f_c4 : ((n : Int) == 0) = false := by simp; omega --c4
              have hp2 : OkT t ↔ ¬ AnyK (fun k => decide (k.kind = t.kind)) t.kids n := HOK.out.trans ⟨fun h => h.2.2.2.2.2, fun h => ⟨cz, c1, c2, c3, c4, h⟩⟩
              have HP := Lib.hid hp2
              clear cz c1 c2 c3 c4 hp2
              go_enter Try.func107, Try.ntmps107
              go_upto_region 9 with (fail)
              generalize w.alloc (.cells #[.int .i64 t.kind, .int .u64 t.s0, .int .u64 t.s1, .int .u64 t.s2, .int .u64 t.s3, .int .i64 t.lo, .int .i64 t.hi, .slice A n c] 29) = w1 at HK HB q0 hgl ⊢
              go_loopw [60] (fun i wr => ∃ k : Nat, k ≤ n ∧ i = .int .i64 k ∧ Below w1.heap.size w1 wr ∧ ¬ AnyK (fun k => decide (k.kind = t.kind)) t.kids k) (fun i _ => n - (intOf i).toNat)
              case atStart => exact ⟨0, by omega, rfl, Below.refl _ _, fun ⟨j, hj, _⟩ => absurd hj (by omega)⟩
              case round =>
                obtain ⟨k, hkn, rfl, hb, hno⟩ := hrel
                obtain ⟨w3, rfl⟩ : ∃ w3 : World, w3 = wr := ⟨_, rfl⟩
                have HBL := Lib.hid hb
                have HNO := Lib.hid hno
                have q3 : w3.cell? ⟨w.heap.size, 0, none⟩ = some (.int .i64 t.kind) := (hb.cell hgl).trans q0
                have hgl3 : w.heap.size < w3.heap.size := Nat.lt_of_lt_of_le hgl hb.size
                clear hb hno
                by_cases hlt : k < n
                · obtain ⟨b, o, rfl, hbl, p0, p1, p2, p3, p4, p5, p6, p7⟩ := (HK.out.keep HBL.out).eight hlt
                  have hble : Below w3.heap.size w3 (w3.alloc (.cells #[.int .i64 (t.kids.getD k noTr).kind, .int .u64 (t.kids.getD k noTr).s0, .int .u64 (t.kids.getD k noTr).s1, .int .u64 (t.kids.getD k noTr).s2, .int .u64 (t.kids.getD k noTr).s3, .int .i64 (t.kids.getD k noTr).lo, .int .i64 (t.kids.getD k noTr).hi, .slice (KA k) (KN k) (KC k)] 29)) := (Below.refl _ _).alloc (Nat.le_refl _) _
                  obtain ⟨kid, hkid'⟩ : ∃ kid, kid = t.kids.getD k noTr := ⟨_, rfl⟩
                  rw [← hkid'] at p0 p1 p2 p3 p4 p5 p6 hble
                  have HKE := Lib.hid hkid'
                  have HBE := Lib.hid hble
                  have q4 : (w3.alloc (.cells #[.int .i64 kid.kind, .int .u64 kid.s0, .int .u64 kid.s1, .int .u64 kid.s2, .int .u64 kid.s3, .int .i64 kid.lo, .int .i64 kid.hi, .slice (KA k) (KN k) (KC k)] 29)).cell? ⟨w.heap.size, 0, none⟩ = some (.int .i64 t.kind) := (World.cell?_alloc_lt _ _ _ hgl3).trans q3
                  clear hkid' hble
                  by_cases hke : kid.kind = t.kind
                  · have f_ke : (kid.kind == t.kind) = true := by simpa using hke
                    obtain rfl : res = false := HN.out (fun h => HP.out.1 h ⟨k, hlt, by rw [← HKE.out]; simpa using hke⟩)
                    clear hke
                    go_wp2_with fail
                    go_returns
                    exact ⟨by first | rfl | simp, HB.out.trans ((HBL.out.trans (HBE.out.mono HBL.out.size)).mono HB.out.size)⟩
                  · have f_ke : (kid.kind == t.kind) = false := by simpa using hke
                    have HKE2 := Lib.hid hke
                    clear hke
                    go_wp2_with fail
                    go_roundw
                    case rel => exact ⟨k + 1, by omega, by go_num, HBL.out.trans (HBE.out.mono HBL.out.size), fun ⟨j, hj, h9⟩ => by
                                  by_cases e9 : j = k
                                  · rw [e9, ← HKE.out] at h9; exact HKE2.out (by simpa using h9)
                                  · exact HNO.out ⟨j, by omega, h9⟩⟩
                    case measure => simp [intOf]; omega
                · obtain rfl : k = n := by omega
                  obtain rfl : res = true := HY.out (HP.out.2 HNO.out)
                  go_wp2_with fail
                  go_returns
                  exact ⟨by first | rfl | simp, HB.out.trans (HBL.out.mono HB.out.size)⟩
        · have f_c2 : (t.hi != 0) = true := by simpa using c2
          obtain rfl : res = false := HN.out (fun h => by have h9 := HOK.out.1 h; first | exact cz h9.1 | omega)
          clear cz c1 c2
          go_enter Try.func107, Try.ntmps107
          go_wp2_with fail
          go_returns
          exact ⟨by first | rfl | simp, HB.out⟩
      · have f_c1 : (t.lo != 0) = true := by simpa using c1
        obtain rfl : res = false := HN.out (fun h => by have h9 := HOK.out.1 h; first | exact cz h9.1 | omega)
        clear cz c1
        go_enter Try.func107, Try.ntmps107
        go_wp2_with fail
        go_returns
        exact ⟨by first | rfl | simp, HB.out⟩
    · obtain rfl : z = false := by rw [HZ.out]; simpa using cz
      obtain rfl : res = false := HN.out (fun h => by have h9 := HOK.out.1 h; first | exact cz h9.1 | omega)
      clear cz
      go_enter Try.func107, Try.ntmps107
      go_wp2_with fail
      go_returns
      exact ⟨by first | rfl | simp, HB.out⟩
  have e3 : (t.kind == 3) = false := by simpa using k3
  by_cases k4 : t.kind = 4
  · have e4 : (t.kind == 4) = true := by simpa using k4
    have hok : OkT t ↔ (t.s0 = 0 ∧ t.s1 = 0 ∧ t.s2 = 0 ∧ t.s3 = 0) ∧ n = 1 ∧ 0 ≤ t.lo ∧ t.lo ≤ 20 ∧ (t.hi = -1 ∨ (t.lo ≤ t.hi ∧ t.hi ≤ 20 ∧ ¬ (t.lo = 1 ∧ t.hi = 1))) := by
      unfold OkT; rw [hlen]; omega
    have HOK := Lib.hid hok
    clear k1 k2 k3 k4 hok
    by_cases cz : t.s0 = 0 ∧ t.s1 = 0 ∧ t.s2 = 0 ∧ t.s3 = 0
    · obtain rfl : z = true := by rw [HZ.out]; simpa using cz
      by_cases c1 : n = 1
      · have f_c1 : ((n : Int) != 1) = false := by simp; omega
        by_cases c2 : t.lo < 0
        · have f_c2 : decide (t.lo < 0) = true := by simpa using c2
          obtain rfl : res = false := HN.out (fun h => by have := HOK.out.1 h; omega)
          clear cz c1 c2
          go_enter Try.func107, Try.ntmps107
          go_wp2_with fail
          go_returns
          exact ⟨by first | rfl | simp, HB.out⟩
        · have f_c2 : decide (t.lo < 0) = false := by simpa using c2
          by_cases c3 : 20 < t.lo
          · have f_c3 : decide (20 < t.lo) = true := by simpa using c3
            obtain rfl : res = false := HN.out (fun h => by have := HOK.out.1 h; omega)
            clear cz c1 c2 c3
            go_enter Try.func107, Try.ntmps107
            go_wp2_with fail
            go_returns
            exact ⟨by first | rfl | simp, HB.out⟩
          · have f_c3 : decide (20 < t.lo) = false := by simpa using c3
            by_cases d1 : t.hi = -1
            · have f_d1 : (t.hi == -1) = true := by simpa using d1
              obtain rfl : res = true := HY.out (HOK.out.2 (by omega))
              clear cz c1 c2 c3 d1
              go_enter Try.func107, Try.ntmps107
              go_wp2_with fail
              go_returns
              exact ⟨by first | rfl | simp, HB.out⟩
            · have f_d1 : (t.hi == -1) = false := by simpa using d1
              by_cases d2 : t.lo ≤ t.hi
              · have f_d2 : decide (t.lo ≤ t.hi) = true := by simpa using d2
                by_cases d3 : t.hi ≤ 20
                · have f_d3 : decide (t.hi ≤ 20) = true := by simpa using d3
                  by_cases d4 : t.lo = 1
                  · have f_d4 : (t.lo != 1) = false := by simpa using d4
                    by_cases d5 : t.hi = 1
                    · have f_d5 : (t.hi != 1) = false := by simpa using d5
                      obtain rfl : res = false := HN.out (fun h => by have := HOK.out.1 h; omega)
                      clear cz c1 c2 c3 d1 d2 d3 d4 d5
                      go_enter Try.func107, Try.ntmps107
                      go_wp2_with fail
                      go_returns
                      exact ⟨by first | rfl | simp, HB.out⟩
                    · have f_d5 : (t.hi != 1) = true := by simpa using d5
                      obtain rfl : res = true := HY.out (HOK.out.2 (by omega))
                      clear cz c1 c2 c3 d1 d2 d3 d4 d5
                      go_enter Try.func107, Try.ntmps107
                      go_wp2_with fail
                      go_returns
                      exact ⟨by first | rfl | simp, HB.out⟩
                  · have f_d4 : (t.lo != 1) = true := by simpa using d4
                    obtain rfl : res = true := HY.out (HOK.out.2 (by omega))
                    clear cz c1 c2 c3 d1 d2 d3 d4
                    go_enter Try.func107, Try.ntmps107
                    go_wp2_with fail
                    go_returns
                    exact ⟨by first | rfl | simp, HB.out⟩
                · have f_d3 : decide (t.hi ≤ 20) = false := by simpa using d3
                  obtain rfl : res = false := HN.out (fun h => by have := HOK.out.1 h; omega)
                  clear cz c1 c2 c3 d1 d2 d3
                  go_enter Try.func107, Try.ntmps107
                  go_wp2_with fail
                  go_returns
                  exact ⟨by first | rfl | simp, HB.out⟩
              · have f_d2 : decide (t.lo ≤ t.hi) = false := by simpa using d2
                obtain rfl : res = false := HN.out (fun h => by have := HOK.out.1 h; omega)
                clear cz c1 c2 c3 d1 d2
                go_enter Try.func107, Try.ntmps107
                go_wp2_with fail
                go_returns
                exact ⟨by first | rfl | simp, HB.out⟩
      · have f_c1 : ((n : Int) != 1) = true := by simp; omega
        obtain rfl : res = false := HN.out (fun h => by have := HOK.out.1 h; omega)
        clear cz c1
        go_enter Try.func107, Try.ntmps107
        go_wp2_with fail
        go_returns
        exact ⟨by first | rfl | simp, HB.out⟩
    · obtain rfl : z = false := by rw [HZ.out]; simpa using cz
      obtain rfl : res = false := HN.out (fun h => by have := HOK.out.1 h; omega)
      clear cz
      go_enter Try.func107, Try.ntmps107
      go_wp2_with fail
      go_returns
      exact ⟨by first | rfl | simp, HB.out⟩
  · have e4 : (t.kind == 4) = false := by simpa using k4
    obtain rfl : res = false := HN.out (by unfold OkT; omega)
    clear k1 k2 k3 k4
    go_enter Try.func107, Try.ntmps107
    go_wp2_with fail
    go_returns
    exact ⟨by first | rfl | simp, HB.out⟩
end Go.Proofs.Ytfjgfabochiflaa
/- The reference's every and Right. -/
namespace Go.Proofs.Ytfjgfabochiflaa
open Go.RowKit

def EveryAt (t : Tr) : Prop := ∀ (A : Option Addr) (n c : Nat) (w : World), TrIn w t A n →
  Calls Try.prog 75 #[.agg #[.int .i64 t.kind, .int .u64 t.s0, .int .u64 t.s1, .int .u64 t.s2, .int .u64 t.s3, .int .i64 t.lo, .int .i64 t.hi, .slice A n c]] w fun e w' =>
    e = .returned (.bool (shp t)) ∧ Below w.heap.size w w'

set_option maxRecDepth 100000 in
set_option maxHeartbeats 4000000 in
theorem every_any (t : Tr) : EveryAt t := by
  induction t using Tr.ind with
  | h t ih =>
    intro A n c w h
    have hb0 : Below w.heap.size w (w.alloc (.cells #[.int .i64 t.kind, .int .u64 t.s0, .int .u64 t.s1, .int .u64 t.s2, .int .u64 t.s3, .int .i64 t.lo, .int .i64 t.hi, .slice A n c] 29)) :=
      (Below.refl _ _).alloc (Nat.le_refl _) _
    have hgl : w.heap.size < (w.alloc (.cells #[.int .i64 t.kind, .int .u64 t.s0, .int .u64 t.s1, .int .u64 t.s2, .int .u64 t.s3, .int .i64 t.lo, .int .i64 t.hi, .slice A n c] 29)).heap.size := by simp
    have q7 : (w.alloc (.cells #[.int .i64 t.kind, .int .u64 t.s0, .int .u64 t.s1, .int .u64 t.s2, .int .u64 t.s3, .int .i64 t.lo, .int .i64 t.hi, .slice A n c] 29)).cell? ⟨w.heap.size, 7, none⟩ = some (.slice A n c) := by simp
    obtain ⟨KA, KN, KC, hk⟩ := h.out
    have hlen := hk.len
    have hle := hk.le
    have HK := Lib.hid (hk.keep hb0)
    have HT := Lib.hid (h.keep hb0)
    have HB := Lib.hid hb0
    have HIH := Lib.hid ih
    clear hk h hb0 ih
    have hyes := shp_yes (t := t)
    have hno := shp_no (t := t)
    obtain ⟨res, hres⟩ : ∃ res, res = shp t := ⟨_, rfl⟩
    rw [← hres] at hyes hno ⊢
    have HY := Lib.hid hyes
    have HN := Lib.hid hno
    clear hres hyes hno
    have HON := Lib.hid (fun w' h => one_any t A n c w' h)
    by_cases hok : OkT t
    · have ho := okT_yes hok
      have HOT := Lib.hid ho
      have HOK := Lib.hid hok
      clear ho hok
      go_enter Try.func75, Try.ntmps75
      go_upto_region 4 with (go_at_call 107; refine (HON.out _ HT.out).mono ?_; rintro e w2 ⟨rfl, hb2⟩; rw [HOT.out]; have q72 := (hb2.cell (p := ⟨w.heap.size, 7, none⟩) hgl).trans q7; have HB2 := Lib.hid hb2; clear hb2)
      have hk2 := HK.out.keep HB2.out
      have HK2 := Lib.hid hk2
      clear hk2 HK HT
      have hbx : Below w.heap.size w w2 := HB.out.trans (HB2.out.mono HB.out.size)
      have HBX := Lib.hid hbx
      clear hbx HB2 HB q7 hgl
      go_loopw [11] (fun i wr => ∃ k : Nat, k ≤ n ∧ i = .int .i64 k ∧ Below w2.heap.size w2 wr ∧ ∀ j, j < k → Shp (t.kids.getD j noTr)) (fun i _ => n - (intOf i).toNat)
      case atStart => exact ⟨0, by omega, rfl, Below.refl _ _, fun j hj => absurd hj (by omega)⟩
      case round =>
        obtain ⟨k, hkn, rfl, hb, hall⟩ := hrel
        obtain ⟨w3, rfl⟩ : ∃ w3 : World, w3 = wr := ⟨_, rfl⟩
        have HBL := Lib.hid hb
        have HALL := Lib.hid hall
        clear hb hall
        by_cases hlt : k < n
        · obtain ⟨b, o, rfl, hbl, p0, p1, p2, p3, p4, p5, p6, p7⟩ := (HK2.out.keep HBL.out).eight hlt
          have hkid := (HK2.out.keep HBL.out).kid k hlt
          have hmem : t.kids.getD k noTr ∈ t.kids := getD_mem (by omega)
          have IH := HIH.out _ hmem
          obtain ⟨kid, hkid'⟩ : ∃ kid, kid = t.kids.getD k noTr := ⟨_, rfl⟩
          rw [← hkid'] at p0 p1 p2 p3 p4 p5 p6 hkid IH hmem
          have hble : Below w3.heap.size w3 (w3.alloc (.cells #[.int .i64 kid.kind, .int .u64 kid.s0, .int .u64 kid.s1, .int .u64 kid.s2, .int .u64 kid.s3, .int .i64 kid.lo, .int .i64 kid.hi, .slice (KA k) (KN k) (KC k)] 29)) := (Below.refl _ _).alloc (Nat.le_refl _) _
          have HIK := Lib.hid IH
          have HKI2 := Lib.hid (hkid.keep hble)
          have HBE := Lib.hid hble
          have HME := Lib.hid hmem
          have HKE := Lib.hid hkid'
          clear hkid' hmem hkid IH hble
          by_cases hsk : Shp kid
          · have HS := Lib.hid hsk
            clear hsk
            go_wp2_with (go_at_call 75; refine (HIK.out _ _ _ _ HKI2.out).mono ?_; rintro e w4 ⟨rfl, hb4⟩; rw [shp_yes HS.out]; have HB4 := Lib.hid hb4; clear hb4)
            go_roundw
            case rel =>
              refine ⟨k + 1, by omega, by go_num, HBL.out.trans ((HBE.out.trans (HB4.out.mono HBE.out.size)).mono HBL.out.size), fun j hj => ?_⟩
              by_cases e9 : j = k
              · rw [e9, ← HKE.out]; exact HS.out
              · exact HALL.out j (by omega)
            case measure => simp [intOf]; omega
          · have HS := Lib.hid hsk
            obtain rfl : res = false := HN.out (fun h => hsk (h.kid HME.out))
            clear hsk
            go_wp2_with (go_at_call 75; refine (HIK.out _ _ _ _ HKI2.out).mono ?_; rintro e w4 ⟨rfl, hb4⟩; rw [shp_no HS.out]; have HB4 := Lib.hid hb4; clear hb4)
            go_returns
            exact ⟨by first | rfl | simp, HBX.out.trans ((HBL.out.trans ((HBE.out.trans (HB4.out.mono HBE.out.size)).mono HBL.out.size)).mono HBX.out.size)⟩
        · obtain rfl : k = n := by omega
          obtain rfl : res = true := HY.out (.mk HOK.out (fun k hk => by
            obtain ⟨j, hj, rfl⟩ := List.getElem_of_mem hk
            have := HALL.out j (by omega)
            rwa [show t.kids.getD j noTr = t.kids[j] by simp [hj]] at this))
          go_wp2_with fail
          go_returns
          exact ⟨by first | rfl | simp, HBX.out.trans (HBL.out.mono HBX.out.size)⟩
    · have ho := okT_no hok
      have HOT := Lib.hid ho
      obtain rfl : res = false := HN.out (fun h => hok h.ok)
      clear ho hok
      go_enter Try.func75, Try.ntmps75
      go_wp2_with (go_at_call 107; refine (HON.out _ HT.out).mono ?_; rintro e w2 ⟨rfl, hb2⟩; rw [HOT.out]; have HB2 := Lib.hid hb2; clear hb2)
      go_returns
      exact ⟨by first | rfl | simp, HB.out.trans (HB2.out.mono HB.out.size)⟩

/-- what stands in a tree's way: 0, 2 (too long), 61 (no tree) -/
noncomputable def wrongT (t : Tr) : Int := if 30 < t.height ∨ 512 < t.nodes then 2 else if shp t = true then 0 else 61
set_option maxRecDepth 100000 in
set_option maxHeartbeats 4000000 in
theorem rright_any (t : Tr) (A : Option Addr) (n c : Nat) (w : World) (h : TrIn w t A n) :
    Calls Try.prog 38 #[.agg #[.int .i64 t.kind, .int .u64 t.s0, .int .u64 t.s1, .int .u64 t.s2, .int .u64 t.s3, .int .i64 t.lo, .int .i64 t.hi, .slice A n c]] w fun e w' =>
      e = .returned (.int .i64 (wrongT t)) ∧ Below w.heap.size w w' := by
  have hb0 : Below w.heap.size w (w.alloc (.cells #[.int .i64 t.kind, .int .u64 t.s0, .int .u64 t.s1, .int .u64 t.s2, .int .u64 t.s3, .int .i64 t.lo, .int .i64 t.hi, .slice A n c] 29)) :=
    (Below.refl _ _).alloc (Nat.le_refl _) _
  have hgl : w.heap.size < (w.alloc (.cells #[.int .i64 t.kind, .int .u64 t.s0, .int .u64 t.s1, .int .u64 t.s2, .int .u64 t.s3, .int .i64 t.lo, .int .i64 t.hi, .slice A n c] 29)).heap.size := by simp
  obtain ⟨w1, hw1⟩ : ∃ w1, w1 = w.alloc (.cells #[.int .i64 t.kind, .int .u64 t.s0, .int .u64 t.s1, .int .u64 t.s2, .int .u64 t.s3, .int .i64 t.lo, .int .i64 t.hi, .slice A n c] 29) := ⟨_, rfl⟩
  have q0 : w1.cell? ⟨w.heap.size, 0, none⟩ = some (.int .i64 t.kind) := by rw [hw1]; simp
  have q1 : w1.cell? ⟨w.heap.size, 1, none⟩ = some (.int .u64 t.s0) := by rw [hw1]; simp
  have q2 : w1.cell? ⟨w.heap.size, 2, none⟩ = some (.int .u64 t.s1) := by rw [hw1]; simp
  have q3 : w1.cell? ⟨w.heap.size, 3, none⟩ = some (.int .u64 t.s2) := by rw [hw1]; simp
  have q4 : w1.cell? ⟨w.heap.size, 4, none⟩ = some (.int .u64 t.s3) := by rw [hw1]; simp
  have q5 : w1.cell? ⟨w.heap.size, 5, none⟩ = some (.int .i64 t.lo) := by rw [hw1]; simp
  have q6 : w1.cell? ⟨w.heap.size, 6, none⟩ = some (.int .i64 t.hi) := by rw [hw1]; simp
  have q7 : w1.cell? ⟨w.heap.size, 7, none⟩ = some (.slice A n c) := by rw [hw1]; simp
  rw [← hw1] at hb0 hgl
  have HT := Lib.hid (h.keep hb0)
  have HB := Lib.hid hb0
  clear h hb0
  have go : ∀ (w2 : World), Below w1.heap.size w1 w2 → ∀ j v, w1.cell? ⟨w.heap.size, j, none⟩ = some v → w2.cell? ⟨w.heap.size, j, none⟩ = some v := fun w2 hb j v hv => (hb.cell (p := ⟨w.heap.size, j, none⟩) hgl).trans hv
  have GO := Lib.hid go
  clear go
  obtain ⟨res, hres⟩ : ∃ res, res = wrongT t := ⟨_, rfl⟩
  rw [← hres]
  have HR := Lib.hid hres
  clear hres
  obtain ⟨dd, hdd⟩ : ∃ dd, dd = min t.height 31 := ⟨_, rfl⟩
  obtain ⟨nn, hnn⟩ : ∃ nn, nn = min t.nodes 513 := ⟨_, rfl⟩
  have HD := Lib.hid (fun w' h => rdeep_any t 31 A n c w' (by omega) (by omega) h)
  have HNN := Lib.hid (fun w' h => rnodes_any t 513 A n c w' (by omega) (by omega) h)
  have HE := Lib.hid (fun w' h => every_any t A n c w' h)
  rw [← hdd] at HD
  rw [← hnn] at HNN
  have arm : True := trivial
  by_cases hh : 30 < t.height
  · have d1 : decide (30 < (dd : Int)) = true := by simp; omega
    obtain rfl : res = 2 := by rw [HR.out]; unfold wrongT; rw [if_pos (.inl hh)]
    clear hh hdd hnn
    go_enter Try.func38, Try.ntmps38
    go_upto_region 1 with (fail)
    rw [← hw1]
    clear hw1
    go_wp2_with (go_at_call 73; refine (HD.out _ HT.out).mono ?_; rintro e w2 ⟨rfl, hb2⟩; have HB2 := Lib.hid hb2; clear hb2)
    go_returns
    exact ⟨by first | rfl | simp, HB.out.trans (HB2.out.mono HB.out.size)⟩
  · have d1 : decide (30 < (dd : Int)) = false := by simp; omega
    by_cases hn : 512 < t.nodes
    · have d2 : decide (512 < (nn : Int)) = true := by simp; omega
      obtain rfl : res = 2 := by rw [HR.out]; unfold wrongT; rw [if_pos (.inr hn)]
      clear hh hn hdd hnn
      go_enter Try.func38, Try.ntmps38
      go_upto_region 1 with (fail)
      rw [← hw1]
      clear hw1
      go_wp2_with first
        | (go_at_call 73; refine (HD.out _ HT.out).mono ?_; rintro e w2 ⟨rfl, hb2⟩; have r0 := GO.out _ hb2 _ _ q0; have r1 := GO.out _ hb2 _ _ q1; have r2 := GO.out _ hb2 _ _ q2; have r3 := GO.out _ hb2 _ _ q3; have r4 := GO.out _ hb2 _ _ q4; have r5 := GO.out _ hb2 _ _ q5; have r6 := GO.out _ hb2 _ _ q6; have r7 := GO.out _ hb2 _ _ q7; have HB2 := Lib.hid hb2; clear hb2)
        | (go_at_call 74; refine (HNN.out _ (HT.out.keep HB2.out)).mono ?_; rintro e w3 ⟨rfl, hb3⟩; have HB3 := Lib.hid hb3; clear hb3)
      go_returns
      exact ⟨by first | rfl | simp, HB.out.trans ((HB2.out.trans (HB3.out.mono HB2.out.size)).mono HB.out.size)⟩
    · have d2 : decide (512 < (nn : Int)) = false := by simp; omega
      have hr : res = if shp t = true then 0 else 61 := by rw [HR.out]; unfold wrongT; rw [if_neg (by omega)]
      obtain ⟨z, hz⟩ : ∃ z, z = shp t := ⟨_, rfl⟩
      rw [← hz] at HE hr
      clear hh hn hdd hnn hz
      cases z
      · obtain rfl : res = 61 := hr
        go_enter Try.func38, Try.ntmps38
        go_upto_region 1 with (fail)
        rw [← hw1]
        clear hw1
        go_wp2_with first
          | (go_at_call 73; refine (HD.out _ HT.out).mono ?_; rintro e w2 ⟨rfl, hb2⟩; have r0 := GO.out _ hb2 _ _ q0; have r1 := GO.out _ hb2 _ _ q1; have r2 := GO.out _ hb2 _ _ q2; have r3 := GO.out _ hb2 _ _ q3; have r4 := GO.out _ hb2 _ _ q4; have r5 := GO.out _ hb2 _ _ q5; have r6 := GO.out _ hb2 _ _ q6; have r7 := GO.out _ hb2 _ _ q7; have HB2 := Lib.hid hb2; clear hb2)
          | (go_at_call 74; refine (HNN.out _ (HT.out.keep HB2.out)).mono ?_; rintro e w3 ⟨rfl, hb3⟩; have hb3 := HB2.out.trans (hb3.mono HB2.out.size); have t0 := GO.out _ hb3 _ _ q0; have t1 := GO.out _ hb3 _ _ q1; have t2 := GO.out _ hb3 _ _ q2; have t3 := GO.out _ hb3 _ _ q3; have t4 := GO.out _ hb3 _ _ q4; have t5 := GO.out _ hb3 _ _ q5; have t6 := GO.out _ hb3 _ _ q6; have t7 := GO.out _ hb3 _ _ q7; have HB3 := Lib.hid hb3; clear hb3)
          | (go_at_call 75; refine (HE.out _ (HT.out.keep HB3.out)).mono ?_; rintro e w4 ⟨rfl, hb4⟩; have HB4 := Lib.hid hb4; clear hb4)
        go_returns
        exact ⟨by first | rfl | simp, HB.out.trans ((HB3.out.trans (HB4.out.mono HB3.out.size)).mono HB.out.size)⟩
      · obtain rfl : res = 0 := hr
        go_enter Try.func38, Try.ntmps38
        go_upto_region 1 with (fail)
        rw [← hw1]
        clear hw1
        go_wp2_with first
          | (go_at_call 73; refine (HD.out _ HT.out).mono ?_; rintro e w2 ⟨rfl, hb2⟩; have r0 := GO.out _ hb2 _ _ q0; have r1 := GO.out _ hb2 _ _ q1; have r2 := GO.out _ hb2 _ _ q2; have r3 := GO.out _ hb2 _ _ q3; have r4 := GO.out _ hb2 _ _ q4; have r5 := GO.out _ hb2 _ _ q5; have r6 := GO.out _ hb2 _ _ q6; have r7 := GO.out _ hb2 _ _ q7; have HB2 := Lib.hid hb2; clear hb2)
          | (go_at_call 74; refine (HNN.out _ (HT.out.keep HB2.out)).mono ?_; rintro e w3 ⟨rfl, hb3⟩; have hb3 := HB2.out.trans (hb3.mono HB2.out.size); have t0 := GO.out _ hb3 _ _ q0; have t1 := GO.out _ hb3 _ _ q1; have t2 := GO.out _ hb3 _ _ q2; have t3 := GO.out _ hb3 _ _ q3; have t4 := GO.out _ hb3 _ _ q4; have t5 := GO.out _ hb3 _ _ q5; have t6 := GO.out _ hb3 _ _ q6; have t7 := GO.out _ hb3 _ _ q7; have HB3 := Lib.hid hb3; clear hb3)
          | (go_at_call 75; refine (HE.out _ (HT.out.keep HB3.out)).mono ?_; rintro e w4 ⟨rfl, hb4⟩; have HB4 := Lib.hid hb4; clear hb4)
        go_returns
        exact ⟨by first | rfl | simp, HB.out.trans ((HB3.out.trans (HB4.out.mono HB3.out.size)).mono HB.out.size)⟩
end Go.Proofs.Ytfjgfabochiflaa
/- The closures of regex.shaped. -/
namespace Go.Proofs.Ytfjgfabochiflaa
open Go.RowKit

theorem clo38 (k : Tr) (kd : Int) (A : Option Addr) (n c p : Nat) (w : World) (hp : w.cell? ⟨p, 0, none⟩ = some (.int .i64 kd)) (hpl : p < w.heap.size) :
    Calls Try.prog 131 #[.agg #[.int .i64 k.kind, .int .u64 k.s0, .int .u64 k.s1, .int .u64 k.s2, .int .u64 k.s3, .int .i64 k.lo, .int .i64 k.hi, .slice A n c], .pointer (some ⟨p, 0, none⟩)] w fun e w' =>
      e = .returned (.bool (decide (k.kind = kd))) ∧ Below w.heap.size w w' := by
  obtain ⟨q, hq⟩ : ∃ q, q = decide (k.kind = kd) := ⟨_, rfl⟩
  rw [← hq]
  have hbe : (k.kind == kd) = q := by rw [hq]; rfl
  have hp2 : (w.alloc (.cells #[.int .i64 k.kind, .int .u64 k.s0, .int .u64 k.s1, .int .u64 k.s2, .int .u64 k.s3, .int .i64 k.lo, .int .i64 k.hi, .slice A n c] 29)).cell? ⟨p, 0, none⟩ = some (.int .i64 kd) := (World.cell?_alloc_lt _ _ _ hpl).trans hp
  have hb0 : Below w.heap.size w (w.alloc (.cells #[.int .i64 k.kind, .int .u64 k.s0, .int .u64 k.s1, .int .u64 k.s2, .int .u64 k.s3, .int .i64 k.lo, .int .i64 k.hi, .slice A n c] 29)) := (Below.refl _ _).alloc (Nat.le_refl _) _
  have HB := Lib.hid hb0
  clear hb0 hq
  go_enter Try.func131, Try.ntmps131
  go_wp2_with fail
  go_returns
  exact ⟨by first | rfl | simp, HB.out⟩

set_option maxRecDepth 100000 in
set_option maxHeartbeats 4000000 in
theorem idx38 (t : Tr) (kd : Int) (A : Option Addr) (n c p : Nat) (w : World) (h : TrIn w t A n) (hp : w.cell? ⟨p, 0, none⟩ = some (.int .i64 kd)) (hpl : p < w.heap.size) :
    Calls Try.prog 140 #[.slice A n c, .func (.func 131) #[] #[.pointer (some ⟨p, 0, none⟩)]] w fun e w' =>
      (∃ r : Int, e = .returned (.int .i64 r) ∧ decide (0 ≤ r) = anyK (fun k => decide (k.kind = kd)) t.kids n) ∧ Below w.heap.size w w' := by
  obtain ⟨KA, KN, KC, hk⟩ := h.out
  have hle := hk.le
  have hlen := hk.len
  have HK := Lib.hid hk
  clear h hk
  obtain ⟨f, hf⟩ : ∃ f : Tr → Bool, f = fun k => decide (k.kind = kd) := ⟨_, rfl⟩
  rw [← hf]
  have HF := Lib.hid hf
  clear hf
  go_enter Try.func140, Try.ntmps140
  go_wp2_with fail
  go_loopw [8] (fun i wr => ∃ k : Nat, k ≤ n ∧ i = .int .i64 k ∧ Below w.heap.size w wr ∧ ¬ AnyK f t.kids k) (fun i _ => n - (intOf i).toNat)
  case atStart => exact ⟨0, by omega, rfl, Below.refl _ _, fun ⟨j, hj, _⟩ => absurd hj (by omega)⟩
  case round =>
    obtain ⟨k, hkn, rfl, hb, hno⟩ := hrel
    obtain ⟨w3, rfl⟩ : ∃ w3 : World, w3 = wr := ⟨_, rfl⟩
    have HB := Lib.hid hb
    have HNO := Lib.hid hno
    have hp3 : w3.cell? ⟨p, 0, none⟩ = some (.int .i64 kd) := (hb.cell hpl).trans hp
    have hpl3 : p < w3.heap.size := Nat.lt_of_lt_of_le hpl hb.size
    clear hb hno
    by_cases hlt : k < n
    · obtain ⟨b, o, rfl, hbl, p0, p1, p2, p3, p4, p5, p6, p7⟩ := (HK.out.keep HB.out).eight hlt
      have hkid := (HK.out.keep HB.out).kid k hlt
      have hmem : t.kids.getD k noTr ∈ t.kids := getD_mem (by omega)
      obtain ⟨kid, hkid'⟩ : ∃ kid, kid = t.kids.getD k noTr := ⟨_, rfl⟩
      rw [← hkid'] at p0 p1 p2 p3 p4 p5 p6 hkid
      have HKE := Lib.hid hkid'
      clear hkid' hmem hkid
      have hval : decide (kid.kind = kd) = f kid := by rw [HF.out]
      obtain ⟨q, hq⟩ : ∃ q, q = f kid := ⟨_, rfl⟩
      have HQ := Lib.hid hq
      have HV := Lib.hid hval
      clear hq hval
      cases q with
      | true =>
        go_wp2_with (go_at_call 131; refine (clo38 kid kd _ _ _ p _ hp3 hpl3).mono ?_; rintro e w4 ⟨rfl, hb4⟩; rw [HV.out, ← HQ.out]; have HB4 := Lib.hid hb4; clear hb4)
        go_returns
        refine ⟨⟨_, rfl, ?_⟩, HB.out.trans (HB4.out.mono HB.out.size)⟩
        rw [anyK_yes ⟨k, hlt, by rw [← HKE.out]; exact HQ.out.symm⟩]
        simp
      | false =>
        go_wp2_with (go_at_call 131; refine (clo38 kid kd _ _ _ p _ hp3 hpl3).mono ?_; rintro e w4 ⟨rfl, hb4⟩; rw [HV.out, ← HQ.out]; have HB4 := Lib.hid hb4; clear hb4)
        go_roundw
        case rel => exact ⟨k + 1, by omega, by go_num, HB.out.trans (HB4.out.mono HB.out.size), fun ⟨j, hj, h9⟩ => by
                      by_cases e9 : j = k
                      · rw [e9, ← HKE.out, ← HQ.out] at h9; cases h9
                      · exact HNO.out ⟨j, by omega, h9⟩⟩
        case measure => simp [intOf]; omega
    · obtain rfl : k = n := by omega
      go_wp2_with fail
      go_returns
      exact ⟨⟨_, rfl, by rw [anyK_no HNO.out]; simp⟩, HB.out⟩

set_option maxRecDepth 100000 in
theorem cf38 (t : Tr) (kd : Int) (A : Option Addr) (n c p : Nat) (w : World) (h : TrIn w t A n) (hp : w.cell? ⟨p, 0, none⟩ = some (.int .i64 kd)) (hpl : p < w.heap.size) :
    Calls Try.prog 129 #[.slice A n c, .func (.func 131) #[] #[.pointer (some ⟨p, 0, none⟩)]] w fun e w' =>
      e = .returned (.bool (anyK (fun k => decide (k.kind = kd)) t.kids n)) ∧ Below w.heap.size w w' := by
  have HC := Lib.hid (idx38 t kd A n c p w h hp hpl)
  clear h
  go_enter Try.func129, Try.ntmps129
  go_wp2_with (go_at_call 140; refine HC.out.mono ?_; rintro e w4 ⟨⟨r, rfl, hr⟩, hb4⟩; have HB4 := Lib.hid hb4; have HR := Lib.hid hr; clear hb4 hr)
  go_returns
  exact ⟨by first | rfl | rw [← HR.out]; simp, HB4.out⟩

def ShapedAt (t : Tr) : Prop := ∀ (A : Option Addr) (n c : Nat) (w : World), TrIn w t A n →
  Calls Try.prog 102 #[.agg #[.int .i64 t.kind, .int .u64 t.s0, .int .u64 t.s1, .int .u64 t.s2, .int .u64 t.s3, .int .i64 t.lo, .int .i64 t.hi, .slice A n c]] w fun e w' =>
    e = .returned (.bool (shp t)) ∧ Below w.heap.size w w'

theorem clo39 (k : Tr) (ih : ShapedAt k) (A : Option Addr) (n c : Nat) (w : World) (h : TrIn w k A n) :
    Calls Try.prog 132 #[.agg #[.int .i64 k.kind, .int .u64 k.s0, .int .u64 k.s1, .int .u64 k.s2, .int .u64 k.s3, .int .i64 k.lo, .int .i64 k.hi, .slice A n c]] w fun e w' =>
      e = .returned (.bool (!shp k)) ∧ Below w.heap.size w w' := by
  obtain ⟨q, hq⟩ : ∃ q, q = shp k := ⟨_, rfl⟩
  rw [← hq]
  have HQ := Lib.hid hq
  clear hq
  have hb0 : Below w.heap.size w (w.alloc (.cells #[.int .i64 k.kind, .int .u64 k.s0, .int .u64 k.s1, .int .u64 k.s2, .int .u64 k.s3, .int .i64 k.lo, .int .i64 k.hi, .slice A n c] 29)) := (Below.refl _ _).alloc (Nat.le_refl _) _
  have HT := Lib.hid (h.keep hb0)
  have HB := Lib.hid hb0
  clear h hb0
  go_enter Try.func132, Try.ntmps132
  go_wp2_with (go_at_call 102; refine (ih A n c _ HT.out).mono ?_; rintro e w2 ⟨rfl, hb2⟩; rw [← HQ.out]; have HB2 := Lib.hid hb2; clear hb2)
  go_returns
  exact ⟨by first | rfl | simp, HB.out.trans (HB2.out.mono (by simp))⟩

set_option maxRecDepth 100000 in
set_option maxHeartbeats 4000000 in
theorem idx39 (t : Tr) (ih : ∀ k, k ∈ t.kids → ShapedAt k) (A : Option Addr) (n c : Nat) (w : World) (h : TrIn w t A n) :
    Calls Try.prog 140 #[.slice A n c, .func (.func 132) #[] #[]] w fun e w' =>
      (∃ r : Int, e = .returned (.int .i64 r) ∧ decide (0 ≤ r) = anyK (fun k => !shp k) t.kids n) ∧ Below w.heap.size w w' := by
  obtain ⟨KA, KN, KC, hk⟩ := h.out
  have hle := hk.le
  have hlen := hk.len
  have HK := Lib.hid hk
  clear h hk
  obtain ⟨f, hf⟩ : ∃ f : Tr → Bool, f = fun k => !shp k := ⟨_, rfl⟩
  rw [← hf]
  have HF := Lib.hid hf
  clear hf
  go_enter Try.func140, Try.ntmps140
  go_wp2_with fail
  go_loopw [8] (fun i wr => ∃ k : Nat, k ≤ n ∧ i = .int .i64 k ∧ Below w.heap.size w wr ∧ ¬ AnyK f t.kids k) (fun i _ => n - (intOf i).toNat)
  case atStart => exact ⟨0, by omega, rfl, Below.refl _ _, fun ⟨j, hj, _⟩ => absurd hj (by omega)⟩
  case round =>
    obtain ⟨k, hkn, rfl, hb, hno⟩ := hrel
    obtain ⟨w3, rfl⟩ : ∃ w3 : World, w3 = wr := ⟨_, rfl⟩
    have HB := Lib.hid hb
    have HNO := Lib.hid hno
    clear hb hno
    by_cases hlt : k < n
    · obtain ⟨b, o, rfl, hbl, p0, p1, p2, p3, p4, p5, p6, p7⟩ := (HK.out.keep HB.out).eight hlt
      have hkid := (HK.out.keep HB.out).kid k hlt
      have hmem : t.kids.getD k noTr ∈ t.kids := getD_mem (by omega)
      have IH := ih _ hmem
      obtain ⟨kid, hkid'⟩ : ∃ kid, kid = t.kids.getD k noTr := ⟨_, rfl⟩
      rw [← hkid'] at p0 p1 p2 p3 p4 p5 p6 hkid IH
      have HKE := Lib.hid hkid'
      have HKI := Lib.hid hkid
      have HIH := Lib.hid IH
      clear hkid' hmem hkid IH
      have hval : (!shp kid) = f kid := by rw [HF.out]
      obtain ⟨q, hq⟩ : ∃ q, q = f kid := ⟨_, rfl⟩
      have HQ := Lib.hid hq
      have HV := Lib.hid hval
      clear hq hval
      cases q with
      | true =>
        go_wp2_with (go_at_call 132; refine (clo39 kid HIH.out _ _ _ _ HKI.out).mono ?_; rintro e w4 ⟨rfl, hb4⟩; rw [HV.out, ← HQ.out]; have HB4 := Lib.hid hb4; clear hb4)
        go_returns
        refine ⟨⟨_, rfl, ?_⟩, HB.out.trans (HB4.out.mono HB.out.size)⟩
        rw [anyK_yes ⟨k, hlt, by rw [← HKE.out]; exact HQ.out.symm⟩]
        simp
      | false =>
        go_wp2_with (go_at_call 132; refine (clo39 kid HIH.out _ _ _ _ HKI.out).mono ?_; rintro e w4 ⟨rfl, hb4⟩; rw [HV.out, ← HQ.out]; have HB4 := Lib.hid hb4; clear hb4)
        go_roundw
        case rel => exact ⟨k + 1, by omega, by go_num, HB.out.trans (HB4.out.mono HB.out.size), fun ⟨j, hj, h9⟩ => by
                      by_cases e9 : j = k
                      · rw [e9, ← HKE.out, ← HQ.out] at h9; cases h9
                      · exact HNO.out ⟨j, by omega, h9⟩⟩
        case measure => simp [intOf]; omega
    · obtain rfl : k = n := by omega
      go_wp2_with fail
      go_returns
      exact ⟨⟨_, rfl, by rw [anyK_no HNO.out]; simp⟩, HB.out⟩

set_option maxRecDepth 100000 in
theorem cf39 (t : Tr) (ih : ∀ k, k ∈ t.kids → ShapedAt k) (A : Option Addr) (n c : Nat) (w : World) (h : TrIn w t A n) :
    Calls Try.prog 129 #[.slice A n c, .func (.func 132) #[] #[]] w fun e w' =>
      e = .returned (.bool (anyK (fun k => !shp k) t.kids n)) ∧ Below w.heap.size w w' := by
  have HC := Lib.hid (idx39 t ih A n c w h)
  clear h ih
  go_enter Try.func129, Try.ntmps129
  go_wp2_with (go_at_call 140; refine HC.out.mono ?_; rintro e w4 ⟨⟨r, rfl, hr⟩, hb4⟩; have HB4 := Lib.hid hb4; have HR := Lib.hid hr; clear hb4 hr)
  go_returns
  exact ⟨by first | rfl | rw [← HR.out]; simp, HB4.out⟩

theorem anyK_shp (t : Tr) (n : Nat) (hn : t.kids.length = n) (h : OkT t) : shp t = !anyK (fun k => !shp k) t.kids n := by
  by_cases hs : Shp t
  · rw [shp_yes hs, anyK_no]
    · rfl
    · rintro ⟨j, hj, h9⟩
      have h9 : (!shp (t.kids.getD j noTr)) = true := h9
      rw [shp_yes (hs.kid (getD_mem (by omega)))] at h9
      cases h9
  · rw [shp_no hs, anyK_yes]
    · rfl
    · refine Classical.byContradiction fun h9 => hs (.mk h fun k hk => ?_)
      obtain ⟨j, hj, rfl⟩ := List.getElem_of_mem hk
      refine Classical.byContradiction fun h8 => h9 ⟨j, by omega, ?_⟩
      show (!shp (t.kids.getD j noTr)) = true
      rw [show t.kids.getD j noTr = t.kids[j] by simp [hj], shp_no h8]
      rfl
end Go.Proofs.Ytfjgfabochiflaa
/- regex.shaped. -/
namespace Go.Proofs.Ytfjgfabochiflaa
open Go.RowKit

set_option maxRecDepth 100000 in
set_option maxHeartbeats 8000000 in
theorem shaped_any (t : Tr) : ShapedAt t := by
  induction t using Tr.ind with
  | h t ih =>
  intro A n c w h
  have hb0 : Below w.heap.size w (w.alloc (.cells #[.int .i64 t.kind, .int .u64 t.s0, .int .u64 t.s1, .int .u64 t.s2, .int .u64 t.s3, .int .i64 t.lo, .int .i64 t.hi, .slice A n c] 29)) := (Below.refl _ _).alloc (Nat.le_refl _) _
  obtain ⟨KA, KN, KC, hk⟩ := h.out
  have hlen := hk.len
  have hle := hk.le
  have HLE := Lib.hid hlen
  have hc9 := cf39 t ih A n c
  obtain ⟨vb, hvb⟩ : ∃ vb, vb = anyK (fun k => !shp k) t.kids n := ⟨_, rfl⟩
  rw [← hvb] at hc9
  have HVB := Lib.hid hvb
  have HC9 := Lib.hid hc9
  have hc8 := cf38 t t.kind A n c
  obtain ⟨sb, hsb⟩ : ∃ sb, sb = anyK (fun k => decide (k.kind = t.kind)) t.kids n := ⟨_, rfl⟩
  rw [← hsb] at hc8
  have HSB := Lib.hid hsb
  have HC8 := Lib.hid hc8
  obtain ⟨w1, hw1⟩ : ∃ w1, w1 = (w.alloc (.cells #[.int .i64 t.kind, .int .u64 t.s0, .int .u64 t.s1, .int .u64 t.s2, .int .u64 t.s3, .int .i64 t.lo, .int .i64 t.hi, .slice A n c] 29)) := ⟨_, rfl⟩
  rw [← hw1] at hb0
  have hgl : w.heap.size < w1.heap.size := by rw [hw1]; simp
  have q0 : w1.cell? ⟨w.heap.size, 0, none⟩ = some (.int .i64 t.kind) := by rw [hw1]; simp
  have q1 : w1.cell? ⟨w.heap.size, 1, none⟩ = some (.int .u64 t.s0) := by rw [hw1]; simp
  have q2 : w1.cell? ⟨w.heap.size, 2, none⟩ = some (.int .u64 t.s1) := by rw [hw1]; simp
  have q3 : w1.cell? ⟨w.heap.size, 3, none⟩ = some (.int .u64 t.s2) := by rw [hw1]; simp
  have q4 : w1.cell? ⟨w.heap.size, 4, none⟩ = some (.int .u64 t.s3) := by rw [hw1]; simp
  have q5 : w1.cell? ⟨w.heap.size, 5, none⟩ = some (.int .i64 t.lo) := by rw [hw1]; simp
  have q6 : w1.cell? ⟨w.heap.size, 6, none⟩ = some (.int .i64 t.hi) := by rw [hw1]; simp
  have q7 : w1.cell? ⟨w.heap.size, 7, none⟩ = some (.slice A n c) := by rw [hw1]; simp
  have HT := Lib.hid (h.keep hb0)
  have HB := Lib.hid hb0
  clear hvb hc9 hsb hc8 hk h hb0 ih
  obtain ⟨res, hres⟩ : ∃ res, res = shp t := ⟨_, rfl⟩
  have hno := shp_no (t := t)
  rw [← hres] at hno ⊢
  have HN := Lib.hid hno
  have hy : OkT t → res = !vb := fun h => by rw [hres, HVB.out]; exact anyK_shp t n HLE.out h
  have HY := Lib.hid hy
  clear hno hy hres
  obtain ⟨z, hz⟩ : ∃ z, z = decide (t.s0 = 0 ∧ t.s1 = 0 ∧ t.s2 = 0 ∧ t.s3 = 0) := ⟨_, rfl⟩
  have heq := fun W => eq23 t.s0 t.s1 t.s2 t.s3 W
  rw [← hz] at heq
  have HZ := Lib.hid hz
  clear hz
  by_cases k1 : t.kind = 1
  · have e1 : (t.kind == 1) = true := by simpa using k1
    have hok : OkT t ↔ t.lo = 0 ∧ t.hi = 0 ∧ n = 0 := by
      unfold OkT; rw [hlen]; omega
    have HOK := Lib.hid hok
    clear k1 hok heq
    by_cases c1 : t.lo = 0
    · have f_c1 : (t.lo == 0) = true := by simpa using c1
      by_cases c2 : t.hi = 0
      · have f_c2 : (t.hi == 0) = true := by simpa using c2
        by_cases c3 : n = 0
        · have f_c3 : ((n : Int) == 0) = true := by simp; omega
          obtain rfl : res = !vb := HY.out (HOK.out.2 (by omega))
          clear c1 c2 c3
          go_enter Try.func102, Try.ntmps102
          go_upto_region 1 with (fail)
          rw [← hw1]
          clear hw1
          go_upto_region 12 with (fail)
          go_wp2_with (go_at_call 129; refine (HC9.out _ HT.out).mono ?_; rintro e w2 ⟨rfl, hb2⟩; have HB2 := Lib.hid hb2; clear hb2)
          go_returns
          exact ⟨by first | rfl | simp, HB.out.trans (HB2.out.mono HB.out.size)⟩
        · have f_c3 : ((n : Int) == 0) = false := by simp; omega
          obtain rfl : res = false := HN.out (fun h => by have h9 := HOK.out.1 h.ok; omega)
          clear c1 c2 c3
          go_enter Try.func102, Try.ntmps102
          go_upto_region 1 with (fail)
          rw [← hw1]
          clear hw1
          go_wp2_with fail
          go_returns
          exact ⟨by first | rfl | simp, HB.out⟩
      · have f_c2 : (t.hi == 0) = false := by simpa using c2
        obtain rfl : res = false := HN.out (fun h => by have h9 := HOK.out.1 h.ok; omega)
        clear c1 c2
        go_enter Try.func102, Try.ntmps102
        go_upto_region 1 with (fail)
        rw [← hw1]
        clear hw1
        go_wp2_with fail
        go_returns
        exact ⟨by first | rfl | simp, HB.out⟩
    · have f_c1 : (t.lo == 0) = false := by simpa using c1
      obtain rfl : res = false := HN.out (fun h => by have h9 := HOK.out.1 h.ok; omega)
      clear c1
      go_enter Try.func102, Try.ntmps102
      go_upto_region 1 with (fail)
      rw [← hw1]
      clear hw1
      go_wp2_with fail
      go_returns
      exact ⟨by first | rfl | simp, HB.out⟩
  have e1 : (t.kind == 1) = false := by simpa using k1
  by_cases k2 : t.kind = 2
  · have e2 : (t.kind == 2) = true := by simpa using k2
    have e3 : (t.kind == 3) = false := by simp; omega
    have hok : OkT t ↔ (t.s0 = 0 ∧ t.s1 = 0 ∧ t.s2 = 0 ∧ t.s3 = 0) ∧ t.lo = 0 ∧ t.hi = 0 ∧ n ≠ 1 ∧ ¬ AnyK (fun k => decide (k.kind = t.kind)) t.kids n := by
      unfold OkT; rw [hlen]
      constructor
      · rintro (h | ⟨_, h1, h2, h3, h4, h5, h6⟩ | h)
        · omega
        · exact ⟨h1, h2, h3, h4, h6⟩
        · omega
      · rintro ⟨h1, h2, h3, h4, h6⟩
        exact .inr (.inl ⟨.inl k2, h1, h2, h3, h4, by omega, h6⟩)
    have HOK := Lib.hid hok
    clear k1 k2 hok
    by_cases cz : t.s0 = 0 ∧ t.s1 = 0 ∧ t.s2 = 0 ∧ t.s3 = 0
    · obtain rfl : z = true := by rw [HZ.out]; simpa using cz
      by_cases c1 : t.lo = 0
      · have f_c1 : (t.lo == 0) = true := by simpa using c1
        by_cases c2 : t.hi = 0
        · have f_c2 : (t.hi == 0) = true := by simpa using c2
          by_cases c3 : 2 ≤ n
          · have f_c3 : decide (2 ≤ (n : Int)) = true := by simp; omega
            cases sb with
            | true =>
              obtain rfl : res = false := HN.out (fun h => (HOK.out.1 h.ok).2.2.2.2 (by have h9 := HSB.out; unfold anyK at h9; simpa using h9.symm))
              clear cz c1 c2 c3
              go_enter Try.func102, Try.ntmps102
              go_upto_region 1 with (fail)
              rw [← hw1]
              clear hw1
              go_wp2_with (go_at_call 129; refine (HC8.out w.heap.size _ HT.out q0 hgl).mono ?_; rintro e w2 ⟨rfl, hb2⟩; have r7 := (hb2.cell (p := ⟨w.heap.size, 7, none⟩) hgl).trans q7; have HB2 := Lib.hid hb2; clear hb2)
              go_returns
              exact ⟨by first | rfl | simp, HB.out.trans (HB2.out.mono HB.out.size)⟩
            | false =>
              obtain rfl : res = !vb := HY.out (HOK.out.2 ⟨cz, c1, c2, by omega, by have h9 := HSB.out; unfold anyK at h9; simpa using h9.symm⟩)
              clear cz c1 c2 c3
              go_enter Try.func102, Try.ntmps102
              go_upto_region 1 with (fail)
              rw [← hw1]
              clear hw1
              go_upto_region 12 with (go_at_call 129; refine (HC8.out w.heap.size _ HT.out q0 hgl).mono ?_; rintro e w2 ⟨rfl, hb2⟩; have r7 := (hb2.cell (p := ⟨w.heap.size, 7, none⟩) hgl).trans q7; have HB2 := Lib.hid hb2; clear hb2)
              go_wp2_with (go_at_call 129; refine (HC9.out _ (HT.out.keep HB2.out)).mono ?_; rintro e w3 ⟨rfl, hb3⟩; have HB3 := Lib.hid hb3; clear hb3)
              go_returns
              exact ⟨by first | rfl | simp, HB.out.trans ((HB2.out.trans (HB3.out.mono HB2.out.size)).mono HB.out.size)⟩
          · have f_c3 : decide (2 ≤ (n : Int)) = false := by simp; omega
            by_cases c4 : n = 0
            · have f_c4 : ((n : Int) == 0) = true := by simp; omega
              cases sb with
              | true =>
                obtain rfl : res = false := HN.out (fun h => (HOK.out.1 h.ok).2.2.2.2 (by have h9 := HSB.out; unfold anyK at h9; simpa using h9.symm))
                clear cz c1 c2 c3 c4
                go_enter Try.func102, Try.ntmps102
                go_upto_region 1 with (fail)
                rw [← hw1]
                clear hw1
                go_wp2_with (go_at_call 129; refine (HC8.out w.heap.size _ HT.out q0 hgl).mono ?_; rintro e w2 ⟨rfl, hb2⟩; have r7 := (hb2.cell (p := ⟨w.heap.size, 7, none⟩) hgl).trans q7; have HB2 := Lib.hid hb2; clear hb2)
                go_returns
                exact ⟨by first | rfl | simp, HB.out.trans (HB2.out.mono HB.out.size)⟩
              | false =>
                obtain rfl : res = !vb := HY.out (HOK.out.2 ⟨cz, c1, c2, by omega, by have h9 := HSB.out; unfold anyK at h9; simpa using h9.symm⟩)
                clear cz c1 c2 c3 c4
                go_enter Try.func102, Try.ntmps102
                go_upto_region 1 with (fail)
                rw [← hw1]
                clear hw1
                go_upto_region 12 with (go_at_call 129; refine (HC8.out w.heap.size _ HT.out q0 hgl).mono ?_; rintro e w2 ⟨rfl, hb2⟩; have r7 := (hb2.cell (p := ⟨w.heap.size, 7, none⟩) hgl).trans q7; have HB2 := Lib.hid hb2; clear hb2)
                go_wp2_with (go_at_call 129; refine (HC9.out _ (HT.out.keep HB2.out)).mono ?_; rintro e w3 ⟨rfl, hb3⟩; have HB3 := Lib.hid hb3; clear hb3)
                go_returns
                exact ⟨by first | rfl | simp, HB.out.trans ((HB2.out.trans (HB3.out.mono HB2.out.size)).mono HB.out.size)⟩
            · have f_c4 : ((n : Int) == 0) = false := by simp; omega
              obtain rfl : res = false := HN.out (fun h => by have h9 := HOK.out.1 h.ok; first | exact cz h9.1 | omega)
              clear cz c1 c2 c3 c4
              go_enter Try.func102, Try.ntmps102
              go_upto_region 1 with (fail)
              rw [← hw1]
              clear hw1
              go_wp2_with fail
              go_returns
              exact ⟨by first | rfl | simp, HB.out⟩
        · have f_c2 : (t.hi == 0) = false := by simpa using c2
          obtain rfl : res = false := HN.out (fun h => by have h9 := HOK.out.1 h.ok; first | exact cz h9.1 | omega)
          clear cz c1 c2
          go_enter Try.func102, Try.ntmps102
          go_upto_region 1 with (fail)
          rw [← hw1]
          clear hw1
          go_wp2_with fail
          go_returns
          exact ⟨by first | rfl | simp, HB.out⟩
      · have f_c1 : (t.lo == 0) = false := by simpa using c1
        obtain rfl : res = false := HN.out (fun h => by have h9 := HOK.out.1 h.ok; first | exact cz h9.1 | omega)
        clear cz c1
        go_enter Try.func102, Try.ntmps102
        go_upto_region 1 with (fail)
        rw [← hw1]
        clear hw1
        go_wp2_with fail
        go_returns
        exact ⟨by first | rfl | simp, HB.out⟩
    · obtain rfl : z = false := by rw [HZ.out]; simpa using cz
      obtain rfl : res = false := HN.out (fun h => by have h9 := HOK.out.1 h.ok; first | exact cz h9.1 | omega)
      clear cz
      go_enter Try.func102, Try.ntmps102
      go_upto_region 1 with (fail)
      rw [← hw1]
      clear hw1
      go_wp2_with fail
      go_returns
      exact ⟨by first | rfl | simp, HB.out⟩
  have e2 : (t.kind == 2) = false := by simpa using k2
  by_cases k3 : t.kind = 3
  · have e3 : (t.kind == 3) = true := by simpa using k3
    have hok : OkT t ↔ (t.s0 = 0 ∧ t.s1 = 0 ∧ t.s2 = 0 ∧ t.s3 = 0) ∧ t.lo = 0 ∧ t.hi = 0 ∧ (n ≠ 1 ∧ n ≠ 0) ∧ ¬ AnyK (fun k => decide (k.kind = t.kind)) t.kids n := by
      unfold OkT; rw [hlen]
      constructor
      · rintro (h | ⟨_, h1, h2, h3, h4, h5, h6⟩ | h)
        · omega
        · exact ⟨h1, h2, h3, ⟨h4, fun h0 => h5 ⟨h0, k3⟩⟩, h6⟩
        · omega
      · rintro ⟨h1, h2, h3, ⟨h4, h5⟩, h6⟩
        exact .inr (.inl ⟨.inr k3, h1, h2, h3, h4, fun h0 => h5 h0.1, h6⟩)
    have HOK := Lib.hid hok
    clear k1 k2 k3 hok
    by_cases cz : t.s0 = 0 ∧ t.s1 = 0 ∧ t.s2 = 0 ∧ t.s3 = 0
    · obtain rfl : z = true := by rw [HZ.out]; simpa using cz
      by_cases c1 : t.lo = 0
      · have f_c1 : (t.lo == 0) = true := by simpa using c1
        by_cases c2 : t.hi = 0
        · have f_c2 : (t.hi == 0) = true := by simpa using c2
          by_cases c3 : 2 ≤ n
          · have f_c3 : decide (2 ≤ (n : Int)) = true := by simp; omega
            cases sb with
            | true =>
              obtain rfl : res = false := HN.out (fun h => (HOK.out.1 h.ok).2.2.2.2 (by have h9 := HSB.out; unfold anyK at h9; simpa using h9.symm))
              clear cz c1 c2 c3
              go_enter Try.func102, Try.ntmps102
              go_upto_region 1 with (fail)
              rw [← hw1]
              clear hw1
              go_wp2_with (go_at_call 129; refine (HC8.out w.heap.size _ HT.out q0 hgl).mono ?_; rintro e w2 ⟨rfl, hb2⟩; have r7 := (hb2.cell (p := ⟨w.heap.size, 7, none⟩) hgl).trans q7; have HB2 := Lib.hid hb2; clear hb2)
              go_returns
              exact ⟨by first | rfl | simp, HB.out.trans (HB2.out.mono HB.out.size)⟩
            | false =>
              obtain rfl : res = !vb := HY.out (HOK.out.2 ⟨cz, c1, c2, by omega, by have h9 := HSB.out; unfold anyK at h9; simpa using h9.symm⟩)
              clear cz c1 c2 c3
              go_enter Try.func102, Try.ntmps102
              go_upto_region 1 with (fail)
              rw [← hw1]
              clear hw1
              go_upto_region 12 with (go_at_call 129; refine (HC8.out w.heap.size _ HT.out q0 hgl).mono ?_; rintro e w2 ⟨rfl, hb2⟩; have r7 := (hb2.cell (p := ⟨w.heap.size, 7, none⟩) hgl).trans q7; have HB2 := Lib.hid hb2; clear hb2)
              go_wp2_with (go_at_call 129; refine (HC9.out _ (HT.out.keep HB2.out)).mono ?_; rintro e w3 ⟨rfl, hb3⟩; have HB3 := Lib.hid hb3; clear hb3)
              go_returns
              exact ⟨by first | rfl | simp, HB.out.trans ((HB2.out.trans (HB3.out.mono HB2.out.size)).mono HB.out.size)⟩
          · have f_c3 : decide (2 ≤ (n : Int)) = false := by simp; omega
            obtain rfl : res = false := HN.out (fun h => by have h9 := HOK.out.1 h.ok; first | exact cz h9.1 | omega)
            clear cz c1 c2 c3
            go_enter Try.func102, Try.ntmps102
            go_upto_region 1 with (fail)
            rw [← hw1]
            clear hw1
            go_wp2_with fail
            go_returns
            exact ⟨by first | rfl | simp, HB.out⟩
        · have f_c2 : (t.hi == 0) = false := by simpa using c2
          obtain rfl : res = false := HN.out (fun h => by have h9 := HOK.out.1 h.ok; first | exact cz h9.1 | omega)
          clear cz c1 c2
          go_enter Try.func102, Try.ntmps102
          go_upto_region 1 with (fail)
          rw [← hw1]
          clear hw1
          go_wp2_with fail
          go_returns
          exact ⟨by first | rfl | simp, HB.out⟩
      · have f_c1 : (t.lo == 0) = false := by simpa using c1
        obtain rfl : res = false := HN.out (fun h => by have h9 := HOK.out.1 h.ok; first | exact cz h9.1 | omega)
        clear cz c1
        go_enter Try.func102, Try.ntmps102
        go_upto_region 1 with (fail)
        rw [← hw1]
        clear hw1
        go_wp2_with fail
        go_returns
        exact ⟨by first | rfl | simp, HB.out⟩
    · obtain rfl : z = false := by rw [HZ.out]; simpa using cz
      obtain rfl : res = false := HN.out (fun h => by have h9 := HOK.out.1 h.ok; first | exact cz h9.1 | omega)
      clear cz
      go_enter Try.func102, Try.ntmps102
      go_upto_region 1 with (fail)
      rw [← hw1]
      clear hw1
      go_wp2_with fail
      go_returns
      exact ⟨by first | rfl | simp, HB.out⟩
  have e3 : (t.kind == 3) = false := by simpa using k3
  by_cases k4 : t.kind = 4
  · have e4 : (t.kind == 4) = true := by simpa using k4
    have hok : OkT t ↔ (t.s0 = 0 ∧ t.s1 = 0 ∧ t.s2 = 0 ∧ t.s3 = 0) ∧ n = 1 ∧ 0 ≤ t.lo ∧ t.lo ≤ 20 ∧ (t.hi = -1 ∨ (t.lo ≤ t.hi ∧ t.hi ≤ 20 ∧ ¬ (t.lo = 1 ∧ t.hi = 1))) := by
      unfold OkT; rw [hlen]; omega
    have HOK := Lib.hid hok
    clear k1 k2 k3 k4 hok
    by_cases d1 : t.hi = -1
    · have f_d1 : (t.hi == -1) = true := by simpa using d1
      by_cases cz : t.s0 = 0 ∧ t.s1 = 0 ∧ t.s2 = 0 ∧ t.s3 = 0
      · obtain rfl : z = true := by rw [HZ.out]; simpa using cz
        by_cases c1 : n = 1
        · have f_c1 : ((n : Int) == 1) = true := by simp; omega
          by_cases c2 : 0 ≤ t.lo
          · have f_c2 : decide (0 ≤ t.lo) = true := by simpa using c2
            by_cases c3 : t.lo ≤ 20
            · have f_c3 : decide (t.lo ≤ 20) = true := by simpa using c3
              obtain rfl : res = !vb := HY.out (HOK.out.2 (by omega))
              clear d1 cz c1 c2 c3
              go_enter Try.func102, Try.ntmps102
              go_upto_region 1 with (fail)
              rw [← hw1]
              clear hw1
              go_upto_region 12 with (fail)
              go_wp2_with (go_at_call 129; refine (HC9.out _ HT.out).mono ?_; rintro e w2 ⟨rfl, hb2⟩; have HB2 := Lib.hid hb2; clear hb2)
              go_returns
              exact ⟨by first | rfl | simp, HB.out.trans (HB2.out.mono HB.out.size)⟩
            · have f_c3 : decide (t.lo ≤ 20) = false := by simpa using c3
              obtain rfl : res = false := HN.out (fun h => by have h9 := HOK.out.1 h.ok; first | exact cz h9.1 | omega)
              clear d1 cz c1 c2 c3
              go_enter Try.func102, Try.ntmps102
              go_upto_region 1 with (fail)
              rw [← hw1]
              clear hw1
              go_wp2_with fail
              go_returns
              exact ⟨by first | rfl | simp, HB.out⟩
          · have f_c2 : decide (0 ≤ t.lo) = false := by simpa using c2
            obtain rfl : res = false := HN.out (fun h => by have h9 := HOK.out.1 h.ok; first | exact cz h9.1 | omega)
            clear d1 cz c1 c2
            go_enter Try.func102, Try.ntmps102
            go_upto_region 1 with (fail)
            rw [← hw1]
            clear hw1
            go_wp2_with fail
            go_returns
            exact ⟨by first | rfl | simp, HB.out⟩
        · have f_c1 : ((n : Int) == 1) = false := by simp; omega
          obtain rfl : res = false := HN.out (fun h => by have h9 := HOK.out.1 h.ok; first | exact cz h9.1 | omega)
          clear d1 cz c1
          go_enter Try.func102, Try.ntmps102
          go_upto_region 1 with (fail)
          rw [← hw1]
          clear hw1
          go_wp2_with fail
          go_returns
          exact ⟨by first | rfl | simp, HB.out⟩
      · obtain rfl : z = false := by rw [HZ.out]; simpa using cz
        obtain rfl : res = false := HN.out (fun h => by have h9 := HOK.out.1 h.ok; first | exact cz h9.1 | omega)
        clear d1 cz
        go_enter Try.func102, Try.ntmps102
        go_upto_region 1 with (fail)
        rw [← hw1]
        clear hw1
        go_wp2_with fail
        go_returns
        exact ⟨by first | rfl | simp, HB.out⟩
    · have f_d1 : (t.hi == -1) = false := by simpa using d1
      by_cases d2 : t.lo ≤ t.hi
      · have f_d2 : decide (t.lo ≤ t.hi) = true := by simpa using d2
        by_cases d3 : t.hi ≤ 20
        · have f_d3 : decide (t.hi ≤ 20) = true := by simpa using d3
          by_cases d4 : t.lo = 1
          · have f_d4 : (t.lo == 1) = true := by simpa using d4
            by_cases d5 : t.hi = 1
            · have f_d5 : (t.hi == 1) = true := by simpa using d5
              by_cases cz : t.s0 = 0 ∧ t.s1 = 0 ∧ t.s2 = 0 ∧ t.s3 = 0
              · obtain rfl : z = true := by rw [HZ.out]; simpa using cz
                by_cases c1 : n = 1
                · have f_c1 : ((n : Int) == 1) = true := by simp; omega
                  by_cases c2 : 0 ≤ t.lo
                  · have f_c2 : decide (0 ≤ t.lo) = true := by simpa using c2
                    by_cases c3 : t.lo ≤ 20
                    · have f_c3 : decide (t.lo ≤ 20) = true := by simpa using c3
                      obtain rfl : res = false := HN.out (fun h => by have h9 := HOK.out.1 h.ok; first | exact cz h9.1 | omega)
                      clear d1 d2 d3 d4 d5 cz c1 c2 c3
                      go_enter Try.func102, Try.ntmps102
                      go_upto_region 1 with (fail)
                      rw [← hw1]
                      clear hw1
                      go_wp2_with fail
                      go_returns
                      exact ⟨by first | rfl | simp, HB.out⟩
                    · have f_c3 : decide (t.lo ≤ 20) = false := by simpa using c3
                      obtain rfl : res = false := HN.out (fun h => by have h9 := HOK.out.1 h.ok; first | exact cz h9.1 | omega)
                      clear d1 d2 d3 d4 d5 cz c1 c2 c3
                      go_enter Try.func102, Try.ntmps102
                      go_upto_region 1 with (fail)
                      rw [← hw1]
                      clear hw1
                      go_wp2_with fail
                      go_returns
                      exact ⟨by first | rfl | simp, HB.out⟩
                  · have f_c2 : decide (0 ≤ t.lo) = false := by simpa using c2
                    obtain rfl : res = false := HN.out (fun h => by have h9 := HOK.out.1 h.ok; first | exact cz h9.1 | omega)
                    clear d1 d2 d3 d4 d5 cz c1 c2
                    go_enter Try.func102, Try.ntmps102
                    go_upto_region 1 with (fail)
                    rw [← hw1]
                    clear hw1
                    go_wp2_with fail
                    go_returns
                    exact ⟨by first | rfl | simp, HB.out⟩
                · have f_c1 : ((n : Int) == 1) = false := by simp; omega
                  obtain rfl : res = false := HN.out (fun h => by have h9 := HOK.out.1 h.ok; first | exact cz h9.1 | omega)
                  clear d1 d2 d3 d4 d5 cz c1
                  go_enter Try.func102, Try.ntmps102
                  go_upto_region 1 with (fail)
                  rw [← hw1]
                  clear hw1
                  go_wp2_with fail
                  go_returns
                  exact ⟨by first | rfl | simp, HB.out⟩
              · obtain rfl : z = false := by rw [HZ.out]; simpa using cz
                obtain rfl : res = false := HN.out (fun h => by have h9 := HOK.out.1 h.ok; first | exact cz h9.1 | omega)
                clear d1 d2 d3 d4 d5 cz
                go_enter Try.func102, Try.ntmps102
                go_upto_region 1 with (fail)
                rw [← hw1]
                clear hw1
                go_wp2_with fail
                go_returns
                exact ⟨by first | rfl | simp, HB.out⟩
            · have f_d5 : (t.hi == 1) = false := by simpa using d5
              by_cases cz : t.s0 = 0 ∧ t.s1 = 0 ∧ t.s2 = 0 ∧ t.s3 = 0
              · obtain rfl : z = true := by rw [HZ.out]; simpa using cz
                by_cases c1 : n = 1
                · have f_c1 : ((n : Int) == 1) = true := by simp; omega
                  by_cases c2 : 0 ≤ t.lo
                  · have f_c2 : decide (0 ≤ t.lo) = true := by simpa using c2
                    by_cases c3 : t.lo ≤ 20
                    · have f_c3 : decide (t.lo ≤ 20) = true := by simpa using c3
                      obtain rfl : res = !vb := HY.out (HOK.out.2 (by omega))
                      clear d1 d2 d3 d4 d5 cz c1 c2 c3
                      go_enter Try.func102, Try.ntmps102
                      go_upto_region 1 with (fail)
                      rw [← hw1]
                      clear hw1
                      go_upto_region 12 with (fail)
                      go_wp2_with (go_at_call 129; refine (HC9.out _ HT.out).mono ?_; rintro e w2 ⟨rfl, hb2⟩; have HB2 := Lib.hid hb2; clear hb2)
                      go_returns
                      exact ⟨by first | rfl | simp, HB.out.trans (HB2.out.mono HB.out.size)⟩
                    · have f_c3 : decide (t.lo ≤ 20) = false := by simpa using c3
                      obtain rfl : res = false := HN.out (fun h => by have h9 := HOK.out.1 h.ok; first | exact cz h9.1 | omega)
                      clear d1 d2 d3 d4 d5 cz c1 c2 c3
                      go_enter Try.func102, Try.ntmps102
                      go_upto_region 1 with (fail)
                      rw [← hw1]
                      clear hw1
                      go_wp2_with fail
                      go_returns
                      exact ⟨by first | rfl | simp, HB.out⟩
                  · have f_c2 : decide (0 ≤ t.lo) = false := by simpa using c2
                    obtain rfl : res = false := HN.out (fun h => by have h9 := HOK.out.1 h.ok; first | exact cz h9.1 | omega)
                    clear d1 d2 d3 d4 d5 cz c1 c2
                    go_enter Try.func102, Try.ntmps102
                    go_upto_region 1 with (fail)
                    rw [← hw1]
                    clear hw1
                    go_wp2_with fail
                    go_returns
                    exact ⟨by first | rfl | simp, HB.out⟩
                · have f_c1 : ((n : Int) == 1) = false := by simp; omega
                  obtain rfl : res = false := HN.out (fun h => by have h9 := HOK.out.1 h.ok; first | exact cz h9.1 | omega)
                  clear d1 d2 d3 d4 d5 cz c1
                  go_enter Try.func102, Try.ntmps102
                  go_upto_region 1 with (fail)
                  rw [← hw1]
                  clear hw1
                  go_wp2_with fail
                  go_returns
                  exact ⟨by first | rfl | simp, HB.out⟩
              · obtain rfl : z = false := by rw [HZ.out]; simpa using cz
                obtain rfl : res = false := HN.out (fun h => by have h9 := HOK.out.1 h.ok; first | exact cz h9.1 | omega)
                clear d1 d2 d3 d4 d5 cz
                go_enter Try.func102, Try.ntmps102
                go_upto_region 1 with (fail)
                rw [← hw1]
                clear hw1
                go_wp2_with fail
                go_returns
                exact ⟨by first | rfl | simp, HB.out⟩
          · have f_d4 : (t.lo == 1) = false := by simpa using d4
            by_cases cz : t.s0 = 0 ∧ t.s1 = 0 ∧ t.s2 = 0 ∧ t.s3 = 0
            · obtain rfl : z = true := by rw [HZ.out]; simpa using cz
              by_cases c1 : n = 1
              · have f_c1 : ((n : Int) == 1) = true := by simp; omega
                by_cases c2 : 0 ≤ t.lo
                · have f_c2 : decide (0 ≤ t.lo) = true := by simpa using c2
                  by_cases c3 : t.lo ≤ 20
                  · have f_c3 : decide (t.lo ≤ 20) = true := by simpa using c3
                    obtain rfl : res = !vb := HY.out (HOK.out.2 (by omega))
                    clear d1 d2 d3 d4 cz c1 c2 c3
                    go_enter Try.func102, Try.ntmps102
                    go_upto_region 1 with (fail)
                    rw [← hw1]
                    clear hw1
                    go_upto_region 12 with (fail)
                    go_wp2_with (go_at_call 129; refine (HC9.out _ HT.out).mono ?_; rintro e w2 ⟨rfl, hb2⟩; have HB2 := Lib.hid hb2; clear hb2)
                    go_returns
                    exact ⟨by first | rfl | simp, HB.out.trans (HB2.out.mono HB.out.size)⟩
                  · have f_c3 : decide (t.lo ≤ 20) = false := by simpa using c3
                    obtain rfl : res = false := HN.out (fun h => by have h9 := HOK.out.1 h.ok; first | exact cz h9.1 | omega)
                    clear d1 d2 d3 d4 cz c1 c2 c3
                    go_enter Try.func102, Try.ntmps102
                    go_upto_region 1 with (fail)
                    rw [← hw1]
                    clear hw1
                    go_wp2_with fail
                    go_returns
                    exact ⟨by first | rfl | simp, HB.out⟩
                · have f_c2 : decide (0 ≤ t.lo) = false := by simpa using c2
                  obtain rfl : res = false := HN.out (fun h => by have h9 := HOK.out.1 h.ok; first | exact cz h9.1 | omega)
                  clear d1 d2 d3 d4 cz c1 c2
                  go_enter Try.func102, Try.ntmps102
                  go_upto_region 1 with (fail)
                  rw [← hw1]
                  clear hw1
                  go_wp2_with fail
                  go_returns
                  exact ⟨by first | rfl | simp, HB.out⟩
              · have f_c1 : ((n : Int) == 1) = false := by simp; omega
                obtain rfl : res = false := HN.out (fun h => by have h9 := HOK.out.1 h.ok; first | exact cz h9.1 | omega)
                clear d1 d2 d3 d4 cz c1
                go_enter Try.func102, Try.ntmps102
                go_upto_region 1 with (fail)
                rw [← hw1]
                clear hw1
                go_wp2_with fail
                go_returns
                exact ⟨by first | rfl | simp, HB.out⟩
            · obtain rfl : z = false := by rw [HZ.out]; simpa using cz
              obtain rfl : res = false := HN.out (fun h => by have h9 := HOK.out.1 h.ok; first | exact cz h9.1 | omega)
              clear d1 d2 d3 d4 cz
              go_enter Try.func102, Try.ntmps102
              go_upto_region 1 with (fail)
              rw [← hw1]
              clear hw1
              go_wp2_with fail
              go_returns
              exact ⟨by first | rfl | simp, HB.out⟩
        · have f_d3 : decide (t.hi ≤ 20) = false := by simpa using d3
          by_cases cz : t.s0 = 0 ∧ t.s1 = 0 ∧ t.s2 = 0 ∧ t.s3 = 0
          · obtain rfl : z = true := by rw [HZ.out]; simpa using cz
            by_cases c1 : n = 1
            · have f_c1 : ((n : Int) == 1) = true := by simp; omega
              by_cases c2 : 0 ≤ t.lo
              · have f_c2 : decide (0 ≤ t.lo) = true := by simpa using c2
                by_cases c3 : t.lo ≤ 20
                · have f_c3 : decide (t.lo ≤ 20) = true := by simpa using c3
                  obtain rfl : res = false := HN.out (fun h => by have h9 := HOK.out.1 h.ok; first | exact cz h9.1 | omega)
                  clear d1 d2 d3 cz c1 c2 c3
                  go_enter Try.func102, Try.ntmps102
                  go_upto_region 1 with (fail)
                  rw [← hw1]
                  clear hw1
                  go_wp2_with fail
                  go_returns
                  exact ⟨by first | rfl | simp, HB.out⟩
                · have f_c3 : decide (t.lo ≤ 20) = false := by simpa using c3
                  obtain rfl : res = false := HN.out (fun h => by have h9 := HOK.out.1 h.ok; first | exact cz h9.1 | omega)
                  clear d1 d2 d3 cz c1 c2 c3
                  go_enter Try.func102, Try.ntmps102
                  go_upto_region 1 with (fail)
                  rw [← hw1]
                  clear hw1
                  go_wp2_with fail
                  go_returns
                  exact ⟨by first | rfl | simp, HB.out⟩
              · have f_c2 : decide (0 ≤ t.lo) = false := by simpa using c2
                obtain rfl : res = false := HN.out (fun h => by have h9 := HOK.out.1 h.ok; first | exact cz h9.1 | omega)
                clear d1 d2 d3 cz c1 c2
                go_enter Try.func102, Try.ntmps102
                go_upto_region 1 with (fail)
                rw [← hw1]
                clear hw1
                go_wp2_with fail
                go_returns
                exact ⟨by first | rfl | simp, HB.out⟩
            · have f_c1 : ((n : Int) == 1) = false := by simp; omega
              obtain rfl : res = false := HN.out (fun h => by have h9 := HOK.out.1 h.ok; first | exact cz h9.1 | omega)
              clear d1 d2 d3 cz c1
              go_enter Try.func102, Try.ntmps102
              go_upto_region 1 with (fail)
              rw [← hw1]
              clear hw1
              go_wp2_with fail
              go_returns
              exact ⟨by first | rfl | simp, HB.out⟩
          · obtain rfl : z = false := by rw [HZ.out]; simpa using cz
            obtain rfl : res = false := HN.out (fun h => by have h9 := HOK.out.1 h.ok; first | exact cz h9.1 | omega)
            clear d1 d2 d3 cz
            go_enter Try.func102, Try.ntmps102
            go_upto_region 1 with (fail)
            rw [← hw1]
            clear hw1
            go_wp2_with fail
            go_returns
            exact ⟨by first | rfl | simp, HB.out⟩
      · have f_d2 : decide (t.lo ≤ t.hi) = false := by simpa using d2
        by_cases cz : t.s0 = 0 ∧ t.s1 = 0 ∧ t.s2 = 0 ∧ t.s3 = 0
        · obtain rfl : z = true := by rw [HZ.out]; simpa using cz
          by_cases c1 : n = 1
          · have f_c1 : ((n : Int) == 1) = true := by simp; omega
            by_cases c2 : 0 ≤ t.lo
            · have f_c2 : decide (0 ≤ t.lo) = true := by simpa using c2
              by_cases c3 : t.lo ≤ 20
              · have f_c3 : decide (t.lo ≤ 20) = true := by simpa using c3
                obtain rfl : res = false := HN.out (fun h => by have h9 := HOK.out.1 h.ok; first | exact cz h9.1 | omega)
                clear d1 d2 cz c1 c2 c3
                go_enter Try.func102, Try.ntmps102
                go_upto_region 1 with (fail)
                rw [← hw1]
                clear hw1
                go_wp2_with fail
                go_returns
                exact ⟨by first | rfl | simp, HB.out⟩
              · have f_c3 : decide (t.lo ≤ 20) = false := by simpa using c3
                obtain rfl : res = false := HN.out (fun h => by have h9 := HOK.out.1 h.ok; first | exact cz h9.1 | omega)
                clear d1 d2 cz c1 c2 c3
                go_enter Try.func102, Try.ntmps102
                go_upto_region 1 with (fail)
                rw [← hw1]
                clear hw1
                go_wp2_with fail
                go_returns
                exact ⟨by first | rfl | simp, HB.out⟩
            · have f_c2 : decide (0 ≤ t.lo) = false := by simpa using c2
              obtain rfl : res = false := HN.out (fun h => by have h9 := HOK.out.1 h.ok; first | exact cz h9.1 | omega)
              clear d1 d2 cz c1 c2
              go_enter Try.func102, Try.ntmps102
              go_upto_region 1 with (fail)
              rw [← hw1]
              clear hw1
              go_wp2_with fail
              go_returns
              exact ⟨by first | rfl | simp, HB.out⟩
          · have f_c1 : ((n : Int) == 1) = false := by simp; omega
            obtain rfl : res = false := HN.out (fun h => by have h9 := HOK.out.1 h.ok; first | exact cz h9.1 | omega)
            clear d1 d2 cz c1
            go_enter Try.func102, Try.ntmps102
            go_upto_region 1 with (fail)
            rw [← hw1]
            clear hw1
            go_wp2_with fail
            go_returns
            exact ⟨by first | rfl | simp, HB.out⟩
        · obtain rfl : z = false := by rw [HZ.out]; simpa using cz
          obtain rfl : res = false := HN.out (fun h => by have h9 := HOK.out.1 h.ok; first | exact cz h9.1 | omega)
          clear d1 d2 cz
          go_enter Try.func102, Try.ntmps102
          go_upto_region 1 with (fail)
          rw [← hw1]
          clear hw1
          go_wp2_with fail
          go_returns
          exact ⟨by first | rfl | simp, HB.out⟩
  · have e4 : (t.kind == 4) = false := by simpa using k4
    obtain rfl : res = false := HN.out (fun h => by have h9 := h.ok; unfold OkT at h9; omega)
    clear k1 k2 k3 k4
    go_enter Try.func102, Try.ntmps102
    go_upto_region 1 with (fail)
    rw [← hw1]
    clear hw1
    go_wp2_with fail
    go_returns
    exact ⟨by first | rfl | simp, HB.out⟩
end Go.Proofs.Ytfjgfabochiflaa
/- regex.Right. -/
namespace Go.Proofs.Ytfjgfabochiflaa
open Go.RowKit

set_option maxRecDepth 100000 in
set_option maxHeartbeats 4000000 in
theorem xright_any (t : Tr) (A : Option Addr) (n c : Nat) (w : World) (h : TrIn w t A n) :
    Calls Try.prog 65 #[.agg #[.int .i64 t.kind, .int .u64 t.s0, .int .u64 t.s1, .int .u64 t.s2, .int .u64 t.s3, .int .i64 t.lo, .int .i64 t.hi, .slice A n c]] w fun e w' =>
      e = .returned (.int .i64 (wrongT t)) ∧ Below w.heap.size w w' := by
  have hb0 : Below w.heap.size w (w.alloc (.cells #[.int .i64 t.kind, .int .u64 t.s0, .int .u64 t.s1, .int .u64 t.s2, .int .u64 t.s3, .int .i64 t.lo, .int .i64 t.hi, .slice A n c] 29)) :=
    (Below.refl _ _).alloc (Nat.le_refl _) _
  have hgl : w.heap.size < (w.alloc (.cells #[.int .i64 t.kind, .int .u64 t.s0, .int .u64 t.s1, .int .u64 t.s2, .int .u64 t.s3, .int .i64 t.lo, .int .i64 t.hi, .slice A n c] 29)).heap.size := by simp
  obtain ⟨w1, hw1⟩ : ∃ w1, w1 = w.alloc (.cells #[.int .i64 t.kind, .int .u64 t.s0, .int .u64 t.s1, .int .u64 t.s2, .int .u64 t.s3, .int .i64 t.lo, .int .i64 t.hi, .slice A n c] 29) := ⟨_, rfl⟩
  have q0 : w1.cell? ⟨w.heap.size, 0, none⟩ = some (.int .i64 t.kind) := by rw [hw1]; simp
  have q1 : w1.cell? ⟨w.heap.size, 1, none⟩ = some (.int .u64 t.s0) := by rw [hw1]; simp
  have q2 : w1.cell? ⟨w.heap.size, 2, none⟩ = some (.int .u64 t.s1) := by rw [hw1]; simp
  have q3 : w1.cell? ⟨w.heap.size, 3, none⟩ = some (.int .u64 t.s2) := by rw [hw1]; simp
  have q4 : w1.cell? ⟨w.heap.size, 4, none⟩ = some (.int .u64 t.s3) := by rw [hw1]; simp
  have q5 : w1.cell? ⟨w.heap.size, 5, none⟩ = some (.int .i64 t.lo) := by rw [hw1]; simp
  have q6 : w1.cell? ⟨w.heap.size, 6, none⟩ = some (.int .i64 t.hi) := by rw [hw1]; simp
  have q7 : w1.cell? ⟨w.heap.size, 7, none⟩ = some (.slice A n c) := by rw [hw1]; simp
  rw [← hw1] at hb0 hgl
  have HT := Lib.hid (h.keep hb0)
  have HB := Lib.hid hb0
  clear h hb0
  have go : ∀ (w2 : World), Below w1.heap.size w1 w2 → ∀ j v, w1.cell? ⟨w.heap.size, j, none⟩ = some v → w2.cell? ⟨w.heap.size, j, none⟩ = some v := fun w2 hb j v hv => (hb.cell (p := ⟨w.heap.size, j, none⟩) hgl).trans hv
  have GO := Lib.hid go
  clear go
  obtain ⟨res, hres⟩ : ∃ res, res = wrongT t := ⟨_, rfl⟩
  rw [← hres]
  have HR := Lib.hid hres
  clear hres
  obtain ⟨dd, hdd⟩ : ∃ dd, dd = decide (30 < t.height) := ⟨_, rfl⟩
  obtain ⟨nn, hnn⟩ : ∃ nn, nn = min t.nodes (512 + 1) := ⟨_, rfl⟩
  have HD := Lib.hid (fun w' h => deep_any t 30 A n c w' (by omega) h)
  have HNN := Lib.hid (fun w' h => nodes_any t 512 A n c w' (by omega) h)
  have HE := Lib.hid (fun w' h => shaped_any t A n c w' h)
  rw [← hdd] at HD
  rw [← hnn] at HNN
  have arm : True := trivial
  by_cases hh : 30 < t.height
  · obtain rfl : dd = true := by rw [hdd]; simpa using hh
    obtain rfl : res = 2 := by rw [HR.out]; unfold wrongT; rw [if_pos (.inl hh)]
    clear hh hdd hnn
    go_enter Try.func65, Try.ntmps65
    go_upto_region 1 with (fail)
    rw [← hw1]
    clear hw1
    go_wp2_with (go_at_call 100; refine (HD.out _ HT.out).mono ?_; rintro e w2 ⟨rfl, hb2⟩; have HB2 := Lib.hid hb2; clear hb2)
    go_returns
    exact ⟨by first | rfl | simp, HB.out.trans (HB2.out.mono HB.out.size)⟩
  · obtain rfl : dd = false := by rw [hdd]; simpa using hh
    by_cases hn : 512 < t.nodes
    · have d2 : decide (512 < (nn : Int)) = true := by simp; omega
      obtain rfl : res = 2 := by rw [HR.out]; unfold wrongT; rw [if_pos (.inr hn)]
      clear hh hn hdd hnn
      go_enter Try.func65, Try.ntmps65
      go_upto_region 1 with (fail)
      rw [← hw1]
      clear hw1
      go_wp2_with first
        | (go_at_call 100; refine (HD.out _ HT.out).mono ?_; rintro e w2 ⟨rfl, hb2⟩; have r0 := GO.out _ hb2 _ _ q0; have r1 := GO.out _ hb2 _ _ q1; have r2 := GO.out _ hb2 _ _ q2; have r3 := GO.out _ hb2 _ _ q3; have r4 := GO.out _ hb2 _ _ q4; have r5 := GO.out _ hb2 _ _ q5; have r6 := GO.out _ hb2 _ _ q6; have r7 := GO.out _ hb2 _ _ q7; have HB2 := Lib.hid hb2; clear hb2)
        | (go_at_call 101; refine (HNN.out _ (HT.out.keep HB2.out)).mono ?_; rintro e w3 ⟨rfl, hb3⟩; have HB3 := Lib.hid hb3; clear hb3)
      go_returns
      exact ⟨by first | rfl | simp, HB.out.trans ((HB2.out.trans (HB3.out.mono HB2.out.size)).mono HB.out.size)⟩
    · have d2 : decide (512 < (nn : Int)) = false := by simp; omega
      have hr : res = if shp t = true then 0 else 61 := by rw [HR.out]; unfold wrongT; rw [if_neg (by omega)]
      obtain ⟨z, hz⟩ : ∃ z, z = shp t := ⟨_, rfl⟩
      rw [← hz] at HE hr
      clear hh hn hdd hnn hz
      cases z
      · obtain rfl : res = 61 := hr
        go_enter Try.func65, Try.ntmps65
        go_upto_region 1 with (fail)
        rw [← hw1]
        clear hw1
        go_wp2_with first
          | (go_at_call 100; refine (HD.out _ HT.out).mono ?_; rintro e w2 ⟨rfl, hb2⟩; have r0 := GO.out _ hb2 _ _ q0; have r1 := GO.out _ hb2 _ _ q1; have r2 := GO.out _ hb2 _ _ q2; have r3 := GO.out _ hb2 _ _ q3; have r4 := GO.out _ hb2 _ _ q4; have r5 := GO.out _ hb2 _ _ q5; have r6 := GO.out _ hb2 _ _ q6; have r7 := GO.out _ hb2 _ _ q7; have HB2 := Lib.hid hb2; clear hb2)
          | (go_at_call 101; refine (HNN.out _ (HT.out.keep HB2.out)).mono ?_; rintro e w3 ⟨rfl, hb3⟩; have hb3 := HB2.out.trans (hb3.mono HB2.out.size); have t0 := GO.out _ hb3 _ _ q0; have t1 := GO.out _ hb3 _ _ q1; have t2 := GO.out _ hb3 _ _ q2; have t3 := GO.out _ hb3 _ _ q3; have t4 := GO.out _ hb3 _ _ q4; have t5 := GO.out _ hb3 _ _ q5; have t6 := GO.out _ hb3 _ _ q6; have t7 := GO.out _ hb3 _ _ q7; have HB3 := Lib.hid hb3; clear hb3)
          | (go_at_call 102; refine (HE.out _ (HT.out.keep HB3.out)).mono ?_; rintro e w4 ⟨rfl, hb4⟩; have HB4 := Lib.hid hb4; clear hb4)
        go_returns
        exact ⟨by first | rfl | simp, HB.out.trans ((HB3.out.trans (HB4.out.mono HB3.out.size)).mono HB.out.size)⟩
      · obtain rfl : res = 0 := hr
        go_enter Try.func65, Try.ntmps65
        go_upto_region 1 with (fail)
        rw [← hw1]
        clear hw1
        go_wp2_with first
          | (go_at_call 100; refine (HD.out _ HT.out).mono ?_; rintro e w2 ⟨rfl, hb2⟩; have r0 := GO.out _ hb2 _ _ q0; have r1 := GO.out _ hb2 _ _ q1; have r2 := GO.out _ hb2 _ _ q2; have r3 := GO.out _ hb2 _ _ q3; have r4 := GO.out _ hb2 _ _ q4; have r5 := GO.out _ hb2 _ _ q5; have r6 := GO.out _ hb2 _ _ q6; have r7 := GO.out _ hb2 _ _ q7; have HB2 := Lib.hid hb2; clear hb2)
          | (go_at_call 101; refine (HNN.out _ (HT.out.keep HB2.out)).mono ?_; rintro e w3 ⟨rfl, hb3⟩; have hb3 := HB2.out.trans (hb3.mono HB2.out.size); have t0 := GO.out _ hb3 _ _ q0; have t1 := GO.out _ hb3 _ _ q1; have t2 := GO.out _ hb3 _ _ q2; have t3 := GO.out _ hb3 _ _ q3; have t4 := GO.out _ hb3 _ _ q4; have t5 := GO.out _ hb3 _ _ q5; have t6 := GO.out _ hb3 _ _ q6; have t7 := GO.out _ hb3 _ _ q7; have HB3 := Lib.hid hb3; clear hb3)
          | (go_at_call 102; refine (HE.out _ (HT.out.keep HB3.out)).mono ?_; rintro e w4 ⟨rfl, hb4⟩; have HB4 := Lib.hid hb4; clear hb4)
        go_returns
        exact ⟨by first | rfl | simp, HB.out.trans ((HB3.out.trans (HB4.out.mono HB3.out.size)).mono HB.out.size)⟩
end Go.Proofs.Ytfjgfabochiflaa
/- The reference's Size. -/
namespace Go.Proofs.Ytfjgfabochiflaa
open Go.RowKit

/-- how often a node's kid is counted -/
def Tr.times (t : Tr) : Nat := if t.kind = 4 then max (max 1 t.hi.toNat) t.lo.toNat else 1
def Tr.size (t : Tr) : Nat := (t.kids.attach.map (fun k => k.1.size)).foldl (fun a d => a + d * t.times) 2
termination_by SizeOf.sizeOf t
decreasing_by exact Tr.size_kid k.2
def sizeL (c : Nat) (l : List Tr) : Nat := (l.map Tr.size).foldl (fun a d => a + d * c) 2
theorem Tr.size_eq (t : Tr) : t.size = sizeL t.times t.kids := by
  rw [Tr.size]
  unfold sizeL
  congr 1
  simp
theorem sizeL_snoc (c : Nat) (l : List Tr) (k : Tr) : sizeL c (l ++ [k]) = sizeL c l + k.size * c := by simp [sizeL]
theorem sizeL_take_le (c : Nat) (l : List Tr) (i : Nat) : sizeL c (l.take i) ≤ sizeL c l := by
  have h2 : ∀ (l m : List Tr), sizeL c l ≤ sizeL c (l ++ m) := fun l m => by
    unfold sizeL
    rw [List.map_append, List.foldl_append]
    have : ∀ (q : List Nat) (a : Nat), a ≤ q.foldl (fun a d => a + d * c) a := fun q => by
      induction q with
      | nil => intro a; exact Nat.le_refl _
      | cons x q ih => intro a; exact Nat.le_trans (Nat.le_add_right a (x * c)) (ih _)
    exact this _ _
  have := h2 (l.take i) (l.drop i)
  rwa [List.take_append_drop] at this
theorem times_pos (t : Tr) : 1 ≤ t.times := by unfold Tr.times; split <;> omega
theorem times_le (t : Tr) (h : Shp t) : t.times ≤ 20 := by
  have := h.ok
  unfold OkT at this
  unfold Tr.times
  split <;> omega
theorem sizeL_two (c : Nat) (l : List Tr) : 2 ≤ sizeL c l := by
  have := sizeL_take_le c l 0
  simpa [sizeL] using this
theorem Tr.size_two (t : Tr) : 2 ≤ t.size := by rw [Tr.size_eq]; exact sizeL_two _ _
/-- a step of Size -/
theorem size_step (a s c m r acc : Nat) (hc : 1 ≤ c) (h2a : 2 ≤ a) (ha : acc = a) (hr : r = min s m) : (m < acc + r * c → m < a + s * c) ∧ (¬ m < acc + r * c → acc + r * c = a + s * c) := by
  have h1 : r * c ≤ s * c := Nat.mul_le_mul_right c (by omega)
  rcases Nat.lt_or_ge m s with h | h
  · have h2 : r = m := by omega
    have h3 : m * 1 ≤ r * c := by rw [h2]; exact Nat.mul_le_mul_left m hc
    have h4 : (m + 1) * 1 ≤ s * c := Nat.mul_le_mul h hc
    exact ⟨fun _ => by omega, fun h9 => by omega⟩
  · have h2 : r = s := by omega
    subst h2
    exact ⟨fun h => by omega, fun _ => by omega⟩

/-- what Size says of a tree, in every world -/
def SizeAt (t : Tr) : Prop := ∀ (m : Nat) (A : Option Addr) (n c : Nat) (w : World), 2 ≤ m → m ≤ 2000 → Shp t → TrIn w t A n →
  Calls Try.prog 39 #[.agg #[.int .i64 t.kind, .int .u64 t.s0, .int .u64 t.s1, .int .u64 t.s2, .int .u64 t.s3, .int .i64 t.lo, .int .i64 t.hi, .slice A n c], .int .i64 (m : Int)] w fun e w' =>
    e = .returned (.int .i64 ((min t.size m : Nat) : Int)) ∧ Below w.heap.size w w'

set_option maxRecDepth 100000 in
set_option maxHeartbeats 8000000 in
theorem size_any (t : Tr) : SizeAt t := by
  induction t using Tr.ind with
  | h t ih =>
    intro m A n c w hm1 hm hsh h
    have hb0 : Below w.heap.size w (w.alloc (.cells #[.int .i64 t.kind, .int .u64 t.s0, .int .u64 t.s1, .int .u64 t.s2, .int .u64 t.s3, .int .i64 t.lo, .int .i64 t.hi, .slice A n c] 29)) :=
      (Below.refl _ _).alloc (Nat.le_refl _) _
    have hgl : w.heap.size < (w.alloc (.cells #[.int .i64 t.kind, .int .u64 t.s0, .int .u64 t.s1, .int .u64 t.s2, .int .u64 t.s3, .int .i64 t.lo, .int .i64 t.hi, .slice A n c] 29)).heap.size := by simp
    have q0 : (w.alloc (.cells #[.int .i64 t.kind, .int .u64 t.s0, .int .u64 t.s1, .int .u64 t.s2, .int .u64 t.s3, .int .i64 t.lo, .int .i64 t.hi, .slice A n c] 29)).cell? ⟨w.heap.size, 0, none⟩ = some (.int .i64 t.kind) := by simp
    have q5 : (w.alloc (.cells #[.int .i64 t.kind, .int .u64 t.s0, .int .u64 t.s1, .int .u64 t.s2, .int .u64 t.s3, .int .i64 t.lo, .int .i64 t.hi, .slice A n c] 29)).cell? ⟨w.heap.size, 5, none⟩ = some (.int .i64 t.lo) := by simp
    have q6 : (w.alloc (.cells #[.int .i64 t.kind, .int .u64 t.s0, .int .u64 t.s1, .int .u64 t.s2, .int .u64 t.s3, .int .i64 t.lo, .int .i64 t.hi, .slice A n c] 29)).cell? ⟨w.heap.size, 6, none⟩ = some (.int .i64 t.hi) := by simp
    obtain ⟨KA, KN, KC, hk⟩ := h.out
    have hlen := hk.len
    have hle := hk.le
    have HK := Lib.hid (hk.keep hb0)
    have HH := Lib.hid (Tr.size_eq t)
    have HB := Lib.hid hb0
    have HIH := Lib.hid ih
    have hkk := fun k hk => hsh.kid (k := k) hk
    have HKK := Lib.hid hkk
    -- how often
    have hways : (∃ q1, (t.kind == 4) = q1 ∧ (q1 = false ∧ t.times = 1 ∨ q1 = true ∧ ((1 < t.hi ∧ ((t.hi < t.lo ∧ (t.times : Int) = t.lo) ∨ (¬ t.hi < t.lo ∧ (t.times : Int) = t.hi))) ∨ (¬ 1 < t.hi ∧ ((1 < t.lo ∧ (t.times : Int) = t.lo) ∨ (¬ 1 < t.lo ∧ t.times = 1)))))) := by
      by_cases hk4 : t.kind = 4
      · refine ⟨true, by simpa using hk4, .inr ⟨rfl, ?_⟩⟩
        unfold Tr.times
        rw [if_pos hk4]
        omega
      · refine ⟨false, by simpa using hk4, .inl ⟨rfl, ?_⟩⟩
        unfold Tr.times
        rw [if_neg hk4]
    obtain ⟨cc, hcc⟩ : ∃ cc, cc = t.times := ⟨_, rfl⟩
    have hc1 := times_pos t
    have hc20 := times_le t hsh
    rw [← hcc] at hways hc1 hc20 HH
    have HW := Lib.hid hways
    clear hk h hb0 ih hkk hways hcc hsh
    obtain ⟨res, hres⟩ : ∃ res : Int, res = ((min t.size m : Nat) : Int) := ⟨_, rfl⟩
    rw [← hres]
    have HR := Lib.hid hres
    clear hres
    go_enter Try.func39, Try.ntmps39
    go_upto_region 3 with (fail)
    generalize w.alloc (.cells #[.int .i64 t.kind, .int .u64 t.s0, .int .u64 t.s1, .int .u64 t.s2, .int .u64 t.s3, .int .i64 t.lo, .int .i64 t.hi, .slice A n c] 29) = w1 at HK HB hgl q0 q5 q6 ⊢
    go_loopw [5, 13] (fun v i wr => ∃ k acc : Nat, k ≤ n ∧ i = .int .i64 k ∧ v = .int .i64 (acc : Int) ∧ acc = sizeL cc (t.kids.take k) ∧ acc ≤ m ∧ Below w1.heap.size w1 wr) (fun _ i _ => n - (intOf i).toNat)
    case atStart => exact ⟨0, 2, by omega, rfl, rfl, by simp [sizeL], by omega, Below.refl _ _⟩
    case round =>
      obtain ⟨k, acc, hkn, rfl, rfl, hacc, hab, hb⟩ := hrel
      obtain ⟨w3, rfl⟩ : ∃ w3 : World, w3 = wr := ⟨_, rfl⟩
      have HBL := Lib.hid hb
      have HA := Lib.hid hacc
      clear hb hacc
      by_cases hlt : k < n
      · obtain ⟨b, o, rfl, hbl, p0, p1, p2, p3, p4, p5, p6, p7⟩ := (HK.out.keep HBL.out).eight hlt
        have hkid := (HK.out.keep HBL.out).kid k hlt
        have hmem : t.kids.getD k noTr ∈ t.kids := getD_mem (by omega)
        have IH := HIH.out _ hmem
        have hsk := HKK.out _ hmem
        have hnext := sizeL_snoc cc (t.kids.take k) (t.kids.getD k noTr)
        rw [← take_next t.kids k noTr (by omega)] at hnext
        obtain ⟨kid, hkid'⟩ : ∃ kid, kid = t.kids.getD k noTr := ⟨_, rfl⟩
        rw [← hkid'] at p0 p1 p2 p3 p4 p5 p6 hkid IH hnext hsk
        have HIK := Lib.hid IH
        have HN := Lib.hid hnext
        have HSK := Lib.hid hsk
        have hble : Below w3.heap.size w3 (w3.alloc (.cells #[.int .i64 kid.kind, .int .u64 kid.s0, .int .u64 kid.s1, .int .u64 kid.s2, .int .u64 kid.s3, .int .i64 kid.lo, .int .i64 kid.hi, .slice (KA k) (KN k) (KC k)] 29)) := (Below.refl _ _).alloc (Nat.le_refl _) _
        have HKI2 := Lib.hid (hkid.keep hble)
        have HBE := Lib.hid hble
        have hw13 := HBL.out.trans (hble.mono HBL.out.size)
        have HGO := Lib.hid (fun (j : Nat) (v : Value) (w4 : World) (hb4 : Below (w3.alloc (.cells #[.int .i64 kid.kind, .int .u64 kid.s0, .int .u64 kid.s1, .int .u64 kid.s2, .int .u64 kid.s3, .int .i64 kid.lo, .int .i64 kid.hi, .slice (KA k) (KN k) (KC k)] 29)).heap.size (w3.alloc (.cells #[.int .i64 kid.kind, .int .u64 kid.s0, .int .u64 kid.s1, .int .u64 kid.s2, .int .u64 kid.s3, .int .i64 kid.lo, .int .i64 kid.hi, .slice (KA k) (KN k) (KC k)] 29)) w4) (h : w1.cell? ⟨w.heap.size, j, none⟩ = some v) => ((hw13.trans (hb4.mono hw13.size)).cell (p := ⟨w.heap.size, j, none⟩) hgl).trans h)
        clear hkid' hmem hkid IH hnext hble hsk hw13
        obtain ⟨r, hr⟩ : ∃ r : Nat, r = min kid.size m := ⟨_, rfl⟩
        have hrb : r ≤ m := by omega
        have hrc0 : r * cc ≤ 2000 * 20 := Nat.mul_le_mul (by omega) hc20
        have hstep := size_step (sizeL cc (t.kids.take k)) kid.size cc m r acc hc1 (sizeL_two _ _) HA.out hr
        have hrc : (r : Int) * (cc : Int) = ((r * cc : Nat) : Int) := by simp
        obtain ⟨rc, hrcd⟩ : ∃ rc : Nat, rc = r * cc := ⟨_, rfl⟩
        rw [← hrcd] at hrc hrc0 hstep
        have HRR := Lib.hid hr
        have HST := Lib.hid hstep
        have HRC := Lib.hid hrc
        clear hr hstep hrc hrcd
        by_cases hgt : m < acc + rc
        · have d1 : decide ((m : Int) < (acc : Int) + (rc : Int)) = true := by simp; omega
          obtain rfl : res = (m : Int) := by
            have h1 := HST.out.1 hgt
            have h2 := HN.out
            have h3 := sizeL_take_le cc t.kids (k + 1)
            have h4 := HH.out
            have h5 := HR.out
            omega
          obtain ⟨q1, e4, hq⟩ := HW.out
          rcases hq with ⟨rfl, hcc⟩ | ⟨rfl, ⟨h1, ⟨h2, hcc⟩ | ⟨h2, hcc⟩⟩ | ⟨h1, ⟨h2, hcc⟩ | ⟨h2, hcc⟩⟩⟩
          · subst hcc
            have hrc : (r : Int) = (rc : Int) := by have h9 := HRC.out; simpa using h9
            obtain rfl : r = rc := by omega
            clear hrc
            go_wp2_with (go_at_call 39; refine (HIK.out m _ _ _ _ (by omega) (by omega) HSK.out HKI2.out).mono ?_; rintro e w4 ⟨rfl, hb4⟩; rw [← HRR.out]; have r0 := HGO.out 0 _ w4 hb4 q0; have r5 := HGO.out 5 _ w4 hb4 q5; have r6 := HGO.out 6 _ w4 hb4 q6; have HB4 := Lib.hid hb4; clear hb4)
            go_returns
            exact ⟨by first | rfl | simp, HB.out.trans ((HBL.out.trans ((HBE.out.trans (HB4.out.mono HBE.out.size)).mono HBL.out.size)).mono HB.out.size)⟩
          · have f1 : decide (1 < t.hi) = true := by simpa using h1
            have f2 : decide (t.hi < t.lo) = true := by simpa using h2
            have hrc := HRC.out
            rw [hcc] at hrc
            clear hcc
            clear h1 h2
            go_wp2_with (go_at_call 39; refine (HIK.out m _ _ _ _ (by omega) (by omega) HSK.out HKI2.out).mono ?_; rintro e w4 ⟨rfl, hb4⟩; rw [← HRR.out]; have r0 := HGO.out 0 _ w4 hb4 q0; have r5 := HGO.out 5 _ w4 hb4 q5; have r6 := HGO.out 6 _ w4 hb4 q6; have HB4 := Lib.hid hb4; clear hb4)
            go_returns
            exact ⟨by first | rfl | simp, HB.out.trans ((HBL.out.trans ((HBE.out.trans (HB4.out.mono HBE.out.size)).mono HBL.out.size)).mono HB.out.size)⟩
          · have f1 : decide (1 < t.hi) = true := by simpa using h1
            have f2 : decide (t.hi < t.lo) = false := by simpa using h2
            have hrc := HRC.out
            rw [hcc] at hrc
            clear hcc
            clear h1 h2
            go_wp2_with (go_at_call 39; refine (HIK.out m _ _ _ _ (by omega) (by omega) HSK.out HKI2.out).mono ?_; rintro e w4 ⟨rfl, hb4⟩; rw [← HRR.out]; have r0 := HGO.out 0 _ w4 hb4 q0; have r5 := HGO.out 5 _ w4 hb4 q5; have r6 := HGO.out 6 _ w4 hb4 q6; have HB4 := Lib.hid hb4; clear hb4)
            go_returns
            exact ⟨by first | rfl | simp, HB.out.trans ((HBL.out.trans ((HBE.out.trans (HB4.out.mono HBE.out.size)).mono HBL.out.size)).mono HB.out.size)⟩
          · have f1 : decide (1 < t.hi) = false := by simpa using h1
            have f2 : decide (1 < t.lo) = true := by simpa using h2
            have hrc := HRC.out
            rw [hcc] at hrc
            clear hcc
            clear h1 h2
            go_wp2_with (go_at_call 39; refine (HIK.out m _ _ _ _ (by omega) (by omega) HSK.out HKI2.out).mono ?_; rintro e w4 ⟨rfl, hb4⟩; rw [← HRR.out]; have r0 := HGO.out 0 _ w4 hb4 q0; have r5 := HGO.out 5 _ w4 hb4 q5; have r6 := HGO.out 6 _ w4 hb4 q6; have HB4 := Lib.hid hb4; clear hb4)
            go_returns
            exact ⟨by first | rfl | simp, HB.out.trans ((HBL.out.trans ((HBE.out.trans (HB4.out.mono HBE.out.size)).mono HBL.out.size)).mono HB.out.size)⟩
          · have f1 : decide (1 < t.hi) = false := by simpa using h1
            have f2 : decide (1 < t.lo) = false := by simpa using h2
            subst hcc
            have hrc : (r : Int) = (rc : Int) := by have h9 := HRC.out; simpa using h9
            obtain rfl : r = rc := by omega
            clear hrc
            clear h1 h2
            go_wp2_with (go_at_call 39; refine (HIK.out m _ _ _ _ (by omega) (by omega) HSK.out HKI2.out).mono ?_; rintro e w4 ⟨rfl, hb4⟩; rw [← HRR.out]; have r0 := HGO.out 0 _ w4 hb4 q0; have r5 := HGO.out 5 _ w4 hb4 q5; have r6 := HGO.out 6 _ w4 hb4 q6; have HB4 := Lib.hid hb4; clear hb4)
            go_returns
            exact ⟨by first | rfl | simp, HB.out.trans ((HBL.out.trans ((HBE.out.trans (HB4.out.mono HBE.out.size)).mono HBL.out.size)).mono HB.out.size)⟩
        · have d1 : decide ((m : Int) < (acc : Int) + (rc : Int)) = false := by simp; omega
          obtain ⟨q1, e4, hq⟩ := HW.out
          rcases hq with ⟨rfl, hcc⟩ | ⟨rfl, ⟨h1, ⟨h2, hcc⟩ | ⟨h2, hcc⟩⟩ | ⟨h1, ⟨h2, hcc⟩ | ⟨h2, hcc⟩⟩⟩
          · subst hcc
            have hrc : (r : Int) = (rc : Int) := by have h9 := HRC.out; simpa using h9
            obtain rfl : r = rc := by omega
            clear hrc
            go_wp2_with (go_at_call 39; refine (HIK.out m _ _ _ _ (by omega) (by omega) HSK.out HKI2.out).mono ?_; rintro e w4 ⟨rfl, hb4⟩; rw [← HRR.out]; have r0 := HGO.out 0 _ w4 hb4 q0; have r5 := HGO.out 5 _ w4 hb4 q5; have r6 := HGO.out 6 _ w4 hb4 q6; have HB4 := Lib.hid hb4; clear hb4)
            go_roundw
            case rel =>
              refine ⟨k + 1, acc + r, by omega, by go_num, by go_num, ?_, by omega, HBL.out.trans ((HBE.out.trans (HB4.out.mono HBE.out.size)).mono HBL.out.size)⟩
              have h1 := HST.out.2 hgt
              have h2 := HN.out
              omega
            case measure => simp [intOf]; omega
          · have f1 : decide (1 < t.hi) = true := by simpa using h1
            have f2 : decide (t.hi < t.lo) = true := by simpa using h2
            have hrc := HRC.out
            rw [hcc] at hrc
            clear hcc
            clear h1 h2
            go_wp2_with (go_at_call 39; refine (HIK.out m _ _ _ _ (by omega) (by omega) HSK.out HKI2.out).mono ?_; rintro e w4 ⟨rfl, hb4⟩; rw [← HRR.out]; have r0 := HGO.out 0 _ w4 hb4 q0; have r5 := HGO.out 5 _ w4 hb4 q5; have r6 := HGO.out 6 _ w4 hb4 q6; have HB4 := Lib.hid hb4; clear hb4)
            go_roundw
            case rel =>
              refine ⟨k + 1, acc + rc, by omega, by go_num, by go_num, ?_, by omega, HBL.out.trans ((HBE.out.trans (HB4.out.mono HBE.out.size)).mono HBL.out.size)⟩
              have h1 := HST.out.2 hgt
              have h2 := HN.out
              omega
            case measure => simp [intOf]; omega
          · have f1 : decide (1 < t.hi) = true := by simpa using h1
            have f2 : decide (t.hi < t.lo) = false := by simpa using h2
            have hrc := HRC.out
            rw [hcc] at hrc
            clear hcc
            clear h1 h2
            go_wp2_with (go_at_call 39; refine (HIK.out m _ _ _ _ (by omega) (by omega) HSK.out HKI2.out).mono ?_; rintro e w4 ⟨rfl, hb4⟩; rw [← HRR.out]; have r0 := HGO.out 0 _ w4 hb4 q0; have r5 := HGO.out 5 _ w4 hb4 q5; have r6 := HGO.out 6 _ w4 hb4 q6; have HB4 := Lib.hid hb4; clear hb4)
            go_roundw
            case rel =>
              refine ⟨k + 1, acc + rc, by omega, by go_num, by go_num, ?_, by omega, HBL.out.trans ((HBE.out.trans (HB4.out.mono HBE.out.size)).mono HBL.out.size)⟩
              have h1 := HST.out.2 hgt
              have h2 := HN.out
              omega
            case measure => simp [intOf]; omega
          · have f1 : decide (1 < t.hi) = false := by simpa using h1
            have f2 : decide (1 < t.lo) = true := by simpa using h2
            have hrc := HRC.out
            rw [hcc] at hrc
            clear hcc
            clear h1 h2
            go_wp2_with (go_at_call 39; refine (HIK.out m _ _ _ _ (by omega) (by omega) HSK.out HKI2.out).mono ?_; rintro e w4 ⟨rfl, hb4⟩; rw [← HRR.out]; have r0 := HGO.out 0 _ w4 hb4 q0; have r5 := HGO.out 5 _ w4 hb4 q5; have r6 := HGO.out 6 _ w4 hb4 q6; have HB4 := Lib.hid hb4; clear hb4)
            go_roundw
            case rel =>
              refine ⟨k + 1, acc + rc, by omega, by go_num, by go_num, ?_, by omega, HBL.out.trans ((HBE.out.trans (HB4.out.mono HBE.out.size)).mono HBL.out.size)⟩
              have h1 := HST.out.2 hgt
              have h2 := HN.out
              omega
            case measure => simp [intOf]; omega
          · have f1 : decide (1 < t.hi) = false := by simpa using h1
            have f2 : decide (1 < t.lo) = false := by simpa using h2
            subst hcc
            have hrc : (r : Int) = (rc : Int) := by have h9 := HRC.out; simpa using h9
            obtain rfl : r = rc := by omega
            clear hrc
            clear h1 h2
            go_wp2_with (go_at_call 39; refine (HIK.out m _ _ _ _ (by omega) (by omega) HSK.out HKI2.out).mono ?_; rintro e w4 ⟨rfl, hb4⟩; rw [← HRR.out]; have r0 := HGO.out 0 _ w4 hb4 q0; have r5 := HGO.out 5 _ w4 hb4 q5; have r6 := HGO.out 6 _ w4 hb4 q6; have HB4 := Lib.hid hb4; clear hb4)
            go_roundw
            case rel =>
              refine ⟨k + 1, acc + r, by omega, by go_num, by go_num, ?_, by omega, HBL.out.trans ((HBE.out.trans (HB4.out.mono HBE.out.size)).mono HBL.out.size)⟩
              have h1 := HST.out.2 hgt
              have h2 := HN.out
              omega
            case measure => simp [intOf]; omega
      · obtain rfl : k = n := by omega
        go_wp2_with fail
        go_returns
        refine ⟨by
          have h1 := HA.out
          rw [List.take_of_length_le (by omega)] at h1
          have h3 := HH.out
          rw [HR.out, show min t.size m = acc by omega]; rfl, HB.out.trans (HBL.out.mono HB.out.size)⟩
end Go.Proofs.Ytfjgfabochiflaa
/- config.size. -/
namespace Go.Proofs.Ytfjgfabochiflaa
open Go.RowKit

theorem run_max3 (w : World) (ts : Array TypeId) (t : TypeId) (a b c : Int) : (Builtin.max_ ts t #[.int .i64 a, .int .i64 b, .int .i64 c]).run Try.prog w = .ok (.int .i64 (max (max a b) c)) w := by
  simp [Builtin.max_, Builtin.max2]
  repeat' split
  all_goals omega
/-- what Size says of a tree, in every world -/
def CSizeAt (t : Tr) : Prop := ∀ (m : Nat) (A : Option Addr) (n c : Nat) (w : World), 2 ≤ m → m ≤ 2000 → Shp t → TrIn w t A n →
  Calls Try.prog 66 #[.agg #[.int .i64 t.kind, .int .u64 t.s0, .int .u64 t.s1, .int .u64 t.s2, .int .u64 t.s3, .int .i64 t.lo, .int .i64 t.hi, .slice A n c], .int .i64 (m : Int)] w fun e w' =>
    e = .returned (.int .i64 ((min t.size m : Nat) : Int)) ∧ Below w.heap.size w w'

set_option maxRecDepth 100000 in
set_option maxHeartbeats 8000000 in
theorem csize_any (t : Tr) : CSizeAt t := by
  induction t using Tr.ind with
  | h t ih =>
    intro m A n c w hm1 hm hsh h
    have hb0 : Below w.heap.size w (w.alloc (.cells #[.int .i64 t.kind, .int .u64 t.s0, .int .u64 t.s1, .int .u64 t.s2, .int .u64 t.s3, .int .i64 t.lo, .int .i64 t.hi, .slice A n c] 29)) :=
      (Below.refl _ _).alloc (Nat.le_refl _) _
    have hgl : w.heap.size < (w.alloc (.cells #[.int .i64 t.kind, .int .u64 t.s0, .int .u64 t.s1, .int .u64 t.s2, .int .u64 t.s3, .int .i64 t.lo, .int .i64 t.hi, .slice A n c] 29)).heap.size := by simp
    have q0 : (w.alloc (.cells #[.int .i64 t.kind, .int .u64 t.s0, .int .u64 t.s1, .int .u64 t.s2, .int .u64 t.s3, .int .i64 t.lo, .int .i64 t.hi, .slice A n c] 29)).cell? ⟨w.heap.size, 0, none⟩ = some (.int .i64 t.kind) := by simp
    have q5 : (w.alloc (.cells #[.int .i64 t.kind, .int .u64 t.s0, .int .u64 t.s1, .int .u64 t.s2, .int .u64 t.s3, .int .i64 t.lo, .int .i64 t.hi, .slice A n c] 29)).cell? ⟨w.heap.size, 5, none⟩ = some (.int .i64 t.lo) := by simp
    have q6 : (w.alloc (.cells #[.int .i64 t.kind, .int .u64 t.s0, .int .u64 t.s1, .int .u64 t.s2, .int .u64 t.s3, .int .i64 t.lo, .int .i64 t.hi, .slice A n c] 29)).cell? ⟨w.heap.size, 6, none⟩ = some (.int .i64 t.hi) := by simp
    obtain ⟨KA, KN, KC, hk⟩ := h.out
    have hlen := hk.len
    have hle := hk.le
    have HK := Lib.hid (hk.keep hb0)
    have HH := Lib.hid (Tr.size_eq t)
    have HB := Lib.hid hb0
    have HIH := Lib.hid ih
    have hkk := fun k hk => hsh.kid (k := k) hk
    have HKK := Lib.hid hkk
    -- how often
    have hways : ((t.kind == 4) = false ∧ t.times = 1) ∨ ((t.kind == 4) = true ∧ max (max 1 t.lo) t.hi = (t.times : Int)) := by
      unfold Tr.times
      by_cases hk4 : t.kind = 4
      · refine .inr ⟨by simpa using hk4, ?_⟩
        rw [if_pos hk4]
        omega
      · refine .inl ⟨by simpa using hk4, ?_⟩
        rw [if_neg hk4]
    obtain ⟨cc, hcc⟩ : ∃ cc, cc = t.times := ⟨_, rfl⟩
    have hc1 := times_pos t
    have hc20 := times_le t hsh
    rw [← hcc] at hways hc1 hc20 HH
    have HW := Lib.hid hways
    clear hk h hb0 ih hkk hways hcc hsh
    obtain ⟨res, hres⟩ : ∃ res : Int, res = ((min t.size m : Nat) : Int) := ⟨_, rfl⟩
    rw [← hres]
    have HR := Lib.hid hres
    clear hres
    go_enter Try.func66, Try.ntmps66
    go_upto_region 3 with (fail)
    generalize w.alloc (.cells #[.int .i64 t.kind, .int .u64 t.s0, .int .u64 t.s1, .int .u64 t.s2, .int .u64 t.s3, .int .i64 t.lo, .int .i64 t.hi, .slice A n c] 29) = w1 at HK HB hgl q0 q5 q6 ⊢
    go_loopw [5, 12] (fun v i wr => ∃ k acc : Nat, k ≤ n ∧ i = .int .i64 k ∧ v = .int .i64 (acc : Int) ∧ acc = sizeL cc (t.kids.take k) ∧ acc ≤ m ∧ Below w1.heap.size w1 wr) (fun _ i _ => n - (intOf i).toNat)
    case atStart => exact ⟨0, 2, by omega, rfl, rfl, by simp [sizeL], by omega, Below.refl _ _⟩
    case round =>
      obtain ⟨k, acc, hkn, rfl, rfl, hacc, hab, hb⟩ := hrel
      obtain ⟨w3, rfl⟩ : ∃ w3 : World, w3 = wr := ⟨_, rfl⟩
      have HBL := Lib.hid hb
      have HA := Lib.hid hacc
      clear hb hacc
      by_cases hlt : k < n
      · obtain ⟨b, o, rfl, hbl, p0, p1, p2, p3, p4, p5, p6, p7⟩ := (HK.out.keep HBL.out).eight hlt
        have hkid := (HK.out.keep HBL.out).kid k hlt
        have hmem : t.kids.getD k noTr ∈ t.kids := getD_mem (by omega)
        have IH := HIH.out _ hmem
        have hsk := HKK.out _ hmem
        have hnext := sizeL_snoc cc (t.kids.take k) (t.kids.getD k noTr)
        rw [← take_next t.kids k noTr (by omega)] at hnext
        obtain ⟨kid, hkid'⟩ : ∃ kid, kid = t.kids.getD k noTr := ⟨_, rfl⟩
        rw [← hkid'] at p0 p1 p2 p3 p4 p5 p6 hkid IH hnext hsk
        have HIK := Lib.hid IH
        have HN := Lib.hid hnext
        have HSK := Lib.hid hsk
        have hble : Below w3.heap.size w3 (w3.alloc (.cells #[.int .i64 kid.kind, .int .u64 kid.s0, .int .u64 kid.s1, .int .u64 kid.s2, .int .u64 kid.s3, .int .i64 kid.lo, .int .i64 kid.hi, .slice (KA k) (KN k) (KC k)] 29)) := (Below.refl _ _).alloc (Nat.le_refl _) _
        have HKI2 := Lib.hid (hkid.keep hble)
        have HBE := Lib.hid hble
        have hw13 := HBL.out.trans (hble.mono HBL.out.size)
        have HGO := Lib.hid (fun (j : Nat) (v : Value) (w4 : World) (hb4 : Below (w3.alloc (.cells #[.int .i64 kid.kind, .int .u64 kid.s0, .int .u64 kid.s1, .int .u64 kid.s2, .int .u64 kid.s3, .int .i64 kid.lo, .int .i64 kid.hi, .slice (KA k) (KN k) (KC k)] 29)).heap.size (w3.alloc (.cells #[.int .i64 kid.kind, .int .u64 kid.s0, .int .u64 kid.s1, .int .u64 kid.s2, .int .u64 kid.s3, .int .i64 kid.lo, .int .i64 kid.hi, .slice (KA k) (KN k) (KC k)] 29)) w4) (h : w1.cell? ⟨w.heap.size, j, none⟩ = some v) => ((hw13.trans (hb4.mono hw13.size)).cell (p := ⟨w.heap.size, j, none⟩) hgl).trans h)
        clear hkid' hmem hkid IH hnext hble hsk hw13
        obtain ⟨r, hr⟩ : ∃ r : Nat, r = min kid.size m := ⟨_, rfl⟩
        have hrb : r ≤ m := by omega
        have hrc0 : r * cc ≤ 2000 * 20 := Nat.mul_le_mul (by omega) hc20
        have hstep := size_step (sizeL cc (t.kids.take k)) kid.size cc m r acc hc1 (sizeL_two _ _) HA.out hr
        have hrc : (r : Int) * (cc : Int) = ((r * cc : Nat) : Int) := by simp
        obtain ⟨rc, hrcd⟩ : ∃ rc : Nat, rc = r * cc := ⟨_, rfl⟩
        rw [← hrcd] at hrc hrc0 hstep
        have HRR := Lib.hid hr
        have HST := Lib.hid hstep
        have HRC := Lib.hid hrc
        clear hr hstep hrc hrcd
        have g0 := HGO.out 0 _ _ (Below.refl _ _) q0
        have g5 := HGO.out 5 _ _ (Below.refl _ _) q5
        have g6 := HGO.out 6 _ _ (Below.refl _ _) q6
        by_cases hgt : m < acc + rc
        · have d1 : decide ((m : Int) < (acc : Int) + (rc : Int)) = true := by simp; omega
          obtain rfl : res = (m : Int) := by
            have h1 := HST.out.1 hgt
            have h2 := HN.out
            have h3 := sizeL_take_le cc t.kids (k + 1)
            have h4 := HH.out
            have h5 := HR.out
            omega
          rcases HW.out with ⟨e4, hcc⟩ | ⟨e4, hcc⟩
          · subst hcc
            have hrc : (r : Int) = (rc : Int) := by have h9 := HRC.out; simpa using h9
            obtain rfl : r = rc := by omega
            clear hrc
            go_wp2_with (go_at_call 66; refine (HIK.out m _ _ _ _ (by omega) (by omega) HSK.out HKI2.out).mono ?_; rintro e w4 ⟨rfl, hb4⟩; rw [← HRR.out]; have r0 := HGO.out 0 _ w4 hb4 q0; have r5 := HGO.out 5 _ w4 hb4 q5; have r6 := HGO.out 6 _ w4 hb4 q6; have HB4 := Lib.hid hb4; clear hb4)
            go_returns
            exact ⟨by first | rfl | simp, HB.out.trans ((HBL.out.trans ((HBE.out.trans (HB4.out.mono HBE.out.size)).mono HBL.out.size)).mono HB.out.size)⟩
          · have hmx := fun (ts : Array TypeId) (ty : TypeId) (W : World) => run_max3 W ts ty 1 t.lo t.hi
            rw [hcc] at hmx
            have hrc := HRC.out
            clear hcc
            go_wp2_with (go_at_call 66; refine (HIK.out m _ _ _ _ (by omega) (by omega) HSK.out HKI2.out).mono ?_; rintro e w4 ⟨rfl, hb4⟩; rw [← HRR.out]; have r0 := HGO.out 0 _ w4 hb4 q0; have r5 := HGO.out 5 _ w4 hb4 q5; have r6 := HGO.out 6 _ w4 hb4 q6; have HB4 := Lib.hid hb4; clear hb4)
            go_returns
            exact ⟨by first | rfl | simp, HB.out.trans ((HBL.out.trans ((HBE.out.trans (HB4.out.mono HBE.out.size)).mono HBL.out.size)).mono HB.out.size)⟩
        · have d1 : decide ((m : Int) < (acc : Int) + (rc : Int)) = false := by simp; omega
          rcases HW.out with ⟨e4, hcc⟩ | ⟨e4, hcc⟩
          · subst hcc
            have hrc : (r : Int) = (rc : Int) := by have h9 := HRC.out; simpa using h9
            obtain rfl : r = rc := by omega
            clear hrc
            go_wp2_with (go_at_call 66; refine (HIK.out m _ _ _ _ (by omega) (by omega) HSK.out HKI2.out).mono ?_; rintro e w4 ⟨rfl, hb4⟩; rw [← HRR.out]; have r0 := HGO.out 0 _ w4 hb4 q0; have r5 := HGO.out 5 _ w4 hb4 q5; have r6 := HGO.out 6 _ w4 hb4 q6; have HB4 := Lib.hid hb4; clear hb4)
            go_roundw
            case rel =>
              refine ⟨k + 1, acc + r, by omega, by go_num, by go_num, ?_, by omega, HBL.out.trans ((HBE.out.trans (HB4.out.mono HBE.out.size)).mono HBL.out.size)⟩
              have h1 := HST.out.2 hgt
              have h2 := HN.out
              omega
            case measure => simp [intOf]; omega
          · have hmx := fun (ts : Array TypeId) (ty : TypeId) (W : World) => run_max3 W ts ty 1 t.lo t.hi
            rw [hcc] at hmx
            have hrc := HRC.out
            clear hcc
            go_wp2_with (go_at_call 66; refine (HIK.out m _ _ _ _ (by omega) (by omega) HSK.out HKI2.out).mono ?_; rintro e w4 ⟨rfl, hb4⟩; rw [← HRR.out]; have r0 := HGO.out 0 _ w4 hb4 q0; have r5 := HGO.out 5 _ w4 hb4 q5; have r6 := HGO.out 6 _ w4 hb4 q6; have HB4 := Lib.hid hb4; clear hb4)
            go_roundw
            case rel =>
              refine ⟨k + 1, acc + rc, by omega, by go_num, by go_num, ?_, by omega, HBL.out.trans ((HBE.out.trans (HB4.out.mono HBE.out.size)).mono HBL.out.size)⟩
              have h1 := HST.out.2 hgt
              have h2 := HN.out
              omega
            case measure => simp [intOf]; omega
      · obtain rfl : k = n := by omega
        go_wp2_with fail
        go_returns
        refine ⟨by
          have h1 := HA.out
          rw [List.take_of_length_le (by omega)] at h1
          have h3 := HH.out
          rw [HR.out, show min t.size m = acc by omega]; rfl, HB.out.trans (HBL.out.mono HB.out.size)⟩
end Go.Proofs.Ytfjgfabochiflaa
