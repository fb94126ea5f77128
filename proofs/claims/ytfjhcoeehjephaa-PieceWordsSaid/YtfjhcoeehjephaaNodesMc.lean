/- Nodes, RNodes, One, Size of this seat, in one text. -/
import Derived.Test.YtfjhcoeehjephaaNfaMc
import Derived.Deep.Cut
import Derived.Deep.CutBlock
import Derived.Deep.CutRange
/- regex.nodes; the reference's Nodes and Deep. -/
namespace Go.Proofs.Ytfjhcoeehjephaa
open Go.RowKit

/-- what nodes says of a tree, in every world -/
def NodesAt (t : Tr) : Prop := ∀ (m : Nat) (A : Option Addr) (n c : Nat) (w : World), m ≤ 1000 → TrIn w t A n →
  Calls Try.prog 68 #[.agg #[.int .i64 t.kind, .int .u64 t.s0, .int .u64 t.s1, .int .u64 t.s2, .int .u64 t.s3, .int .i64 t.lo, .int .i64 t.hi, .slice A n c], .int .i64 (m : Int)] w fun e w' =>
    e = .returned (.int .i64 ((min t.nodes (m + 1) : Nat) : Int)) ∧ Below w.heap.size w w'

set_option maxRecDepth 100000 in
set_option maxHeartbeats 4000000 in
theorem nodes_any (t : Tr) : NodesAt t := by
  induction t using Tr.ind with
  | h t ih =>
    intro m A n c w hm h
    have hb0 : Below w.heap.size w (w.alloc (.cells #[.int .i64 t.kind, .int .u64 t.s0, .int .u64 t.s1, .int .u64 t.s2, .int .u64 t.s3, .int .i64 t.lo, .int .i64 t.hi, .slice A n c] 49)) :=
      (Below.refl _ _).alloc (Nat.le_refl _) _
    obtain ⟨KA, KN, KC, hk⟩ := h.out
    have hlen := hk.len
    have hle := hk.le
    have HK := Lib.hid (hk.keep hb0)
    have HH := Lib.hid (Tr.nodes_eq t)
    have HB := Lib.hid hb0
    have HIH := Lib.hid ih
    clear hk h hb0 ih
    obtain ⟨res, hres⟩ : ∃ res : Int, res = ((min t.nodes (m + 1) : Nat) : Int) := ⟨_, rfl⟩
    rw [← hres]
    have HR := Lib.hid hres
    clear hres
    go_enter Try.func68, Try.ntmps68
    go_upto_region 3 with (fail)
    generalize w.alloc (.cells #[.int .i64 t.kind, .int .u64 t.s0, .int .u64 t.s1, .int .u64 t.s2, .int .u64 t.s3, .int .i64 t.lo, .int .i64 t.hi, .slice A n c] 49) = w1 at HK HB ⊢
    go_loopw [5, 11] (fun v i wr => ∃ k acc : Nat, k ≤ n ∧ i = .int .i64 k ∧ v = .int .i64 (acc : Int) ∧ acc = min (nodesL (t.kids.take k)) (m + 1) ∧ Below w1.heap.size w1 wr) (fun _ i _ => n - (intOf i).toNat)
    case atStart => exact ⟨0, 1, by omega, rfl, rfl, by simp [nodesL], Below.refl _ _⟩
    case round =>
      obtain ⟨k, acc, hkn, rfl, rfl, hacc, hb⟩ := hrel
      obtain ⟨w3, rfl⟩ : ∃ w3 : World, w3 = wr := ⟨_, rfl⟩
      have HBL := Lib.hid hb
      have HA := Lib.hid hacc
      have hab : acc ≤ m + 1 := by omega
      clear hb hacc
      by_cases hlt : k < n
      · obtain ⟨b, o, rfl, hbl, p0, p1, p2, p3, p4, p5, p6, p7⟩ := (HK.out.keep HBL.out).eight hlt
        have hkid := (HK.out.keep HBL.out).kid k hlt
        have hmem : t.kids.getD k noTr ∈ t.kids := getD_mem (by omega)
        have IH := HIH.out _ hmem
        have hnext := nodesL_snoc (t.kids.take k) (t.kids.getD k noTr)
        rw [← take_next t.kids k noTr (by omega)] at hnext
        obtain ⟨kid, hkid'⟩ : ∃ kid, kid = t.kids.getD k noTr := ⟨_, rfl⟩
        rw [← hkid'] at p0 p1 p2 p3 p4 p5 p6 hkid IH hnext
        have HKI := Lib.hid hkid
        have HIK := Lib.hid IH
        have HN := Lib.hid hnext
        have hble : Below w3.heap.size w3 (w3.alloc (.cells #[.int .i64 kid.kind, .int .u64 kid.s0, .int .u64 kid.s1, .int .u64 kid.s2, .int .u64 kid.s3, .int .i64 kid.lo, .int .i64 kid.hi, .slice (KA k) (KN k) (KC k)] 49)) := (Below.refl _ _).alloc (Nat.le_refl _) _
        have HKI2 := Lib.hid (hkid.keep hble)
        have HBE := Lib.hid hble
        clear hkid' hmem hkid IH hnext hble
        by_cases hgt : m < acc
        · have d1 : decide ((m : Int) < (acc : Int)) = true := by simpa using hgt
          go_wp2_with fail
          go_returns
          refine ⟨by
            have h1 := HA.out
            have h2 := nodesL_take_le t.kids k
            have h3 := HH.out
            rw [HR.out, show min t.nodes (m + 1) = acc by omega]; rfl, HB.out.trans ((HBL.out.mono HB.out.size).trans ?_)⟩
          first
            | exact Below.refl _ _
            | exact HBE.out.mono (Nat.le_trans HB.out.size HBL.out.size)
        · have d1 : decide ((m : Int) < (acc : Int)) = false := by simp; omega
          have ec : (m : Int) - (acc : Int) = ((m - acc : Nat) : Int) := by omega
          have HEC := Lib.hid ec
          clear ec
          obtain ⟨r, hr⟩ : ∃ r : Nat, r = min kid.nodes (m - acc + 1) := ⟨_, rfl⟩
          have hrb : r ≤ m - acc + 1 := by omega
          have HRR := Lib.hid hr
          clear hr
          go_wp2_with (go_at_call 68; rw [HEC.out]; refine (HIK.out (m - acc) _ _ _ _ (by omega) HKI2.out).mono ?_; rintro e w4 ⟨rfl, hb4⟩; rw [← HRR.out]; have HB4 := Lib.hid hb4; clear hb4)
          go_roundw
          case rel =>
            refine ⟨k + 1, acc + r, by omega, by go_num, by go_num, ?_, HBL.out.trans ((HBE.out.trans (HB4.out.mono HBE.out.size)).mono HBL.out.size)⟩
            have h1 := HA.out
            have h2 := HN.out
            have h3 := HRR.out
            omega
          case measure => simp [intOf]; omega
      · obtain rfl : k = n := by omega
        go_wp2_with fail
        go_returns
        refine ⟨by
          have h1 := HA.out
          rw [List.take_of_length_le (by omega)] at h1
          have h3 := HH.out
          rw [HR.out, show min t.nodes (m + 1) = acc by omega]; rfl, HB.out.trans (HBL.out.mono HB.out.size)⟩
end Go.Proofs.Ytfjhcoeehjephaa
/- the reference's Nodes and Deep. -/
namespace Go.Proofs.Ytfjhcoeehjephaa
open Go.RowKit

/-- what Nodes says of a tree, in every world -/
def RNodesAt (t : Tr) : Prop := ∀ (m : Nat) (A : Option Addr) (n c : Nat) (w : World), 1 ≤ m → m ≤ 1000 → TrIn w t A n →
  Calls Try.prog 43 #[.agg #[.int .i64 t.kind, .int .u64 t.s0, .int .u64 t.s1, .int .u64 t.s2, .int .u64 t.s3, .int .i64 t.lo, .int .i64 t.hi, .slice A n c], .int .i64 (m : Int)] w fun e w' =>
    e = .returned (.int .i64 ((min t.nodes m : Nat) : Int)) ∧ Below w.heap.size w w'

set_option maxRecDepth 100000 in
set_option maxHeartbeats 4000000 in
theorem rnodes_any (t : Tr) : RNodesAt t := by
  induction t using Tr.ind with
  | h t ih =>
    intro m A n c w hm1 hm h
    have hb0 : Below w.heap.size w (w.alloc (.cells #[.int .i64 t.kind, .int .u64 t.s0, .int .u64 t.s1, .int .u64 t.s2, .int .u64 t.s3, .int .i64 t.lo, .int .i64 t.hi, .slice A n c] 49)) :=
      (Below.refl _ _).alloc (Nat.le_refl _) _
    obtain ⟨KA, KN, KC, hk⟩ := h.out
    have hlen := hk.len
    have hle := hk.le
    have HK := Lib.hid (hk.keep hb0)
    have HH := Lib.hid (Tr.nodes_eq t)
    have HB := Lib.hid hb0
    have HIH := Lib.hid ih
    clear hk h hb0 ih
    obtain ⟨res, hres⟩ : ∃ res : Int, res = ((min t.nodes m : Nat) : Int) := ⟨_, rfl⟩
    rw [← hres]
    have HR := Lib.hid hres
    clear hres
    go_enter Try.func43, Try.ntmps43
    go_upto_region 3 with (fail)
    generalize w.alloc (.cells #[.int .i64 t.kind, .int .u64 t.s0, .int .u64 t.s1, .int .u64 t.s2, .int .u64 t.s3, .int .i64 t.lo, .int .i64 t.hi, .slice A n c] 49) = w1 at HK HB ⊢
    go_loopw [5, 11] (fun v i wr => ∃ k acc : Nat, k ≤ n ∧ i = .int .i64 k ∧ v = .int .i64 (acc : Int) ∧ acc = min (nodesL (t.kids.take k)) m ∧ Below w1.heap.size w1 wr) (fun _ i _ => n - (intOf i).toNat)
    case atStart => exact ⟨0, 1, by omega, rfl, rfl, by simp [nodesL]; omega, Below.refl _ _⟩
    case round =>
      obtain ⟨k, acc, hkn, rfl, rfl, hacc, hb⟩ := hrel
      obtain ⟨w3, rfl⟩ : ∃ w3 : World, w3 = wr := ⟨_, rfl⟩
      have HBL := Lib.hid hb
      have HA := Lib.hid hacc
      have hab : acc ≤ m := by omega
      clear hb hacc
      by_cases hlt : k < n
      · obtain ⟨b, o, rfl, hbl, p0, p1, p2, p3, p4, p5, p6, p7⟩ := (HK.out.keep HBL.out).eight hlt
        have hkid := (HK.out.keep HBL.out).kid k hlt
        have hmem : t.kids.getD k noTr ∈ t.kids := getD_mem (by omega)
        have IH := HIH.out _ hmem
        have hnext := nodesL_snoc (t.kids.take k) (t.kids.getD k noTr)
        rw [← take_next t.kids k noTr (by omega)] at hnext
        obtain ⟨kid, hkid'⟩ : ∃ kid, kid = t.kids.getD k noTr := ⟨_, rfl⟩
        rw [← hkid'] at p0 p1 p2 p3 p4 p5 p6 hkid IH hnext
        have HKI := Lib.hid hkid
        have HIK := Lib.hid IH
        have HN := Lib.hid hnext
        have hble : Below w3.heap.size w3 (w3.alloc (.cells #[.int .i64 kid.kind, .int .u64 kid.s0, .int .u64 kid.s1, .int .u64 kid.s2, .int .u64 kid.s3, .int .i64 kid.lo, .int .i64 kid.hi, .slice (KA k) (KN k) (KC k)] 49)) := (Below.refl _ _).alloc (Nat.le_refl _) _
        have HKI2 := Lib.hid (hkid.keep hble)
        have HBE := Lib.hid hble
        clear hkid' hmem hkid IH hnext hble
        by_cases hgt : m ≤ acc
        · have d1 : decide ((m : Int) ≤ (acc : Int)) = true := by simpa using hgt
          go_wp2_with fail
          go_returns
          refine ⟨by
            have h1 := HA.out
            have h2 := nodesL_take_le t.kids k
            have h3 := HH.out
            rw [HR.out, show min t.nodes m = m by omega]; rfl, HB.out.trans ((HBL.out.mono HB.out.size).trans ?_)⟩
          first
            | exact Below.refl _ _
            | exact HBE.out.mono (Nat.le_trans HB.out.size HBL.out.size)
        · have d1 : decide ((m : Int) ≤ (acc : Int)) = false := by simp; omega
          have ec : (m : Int) - (acc : Int) = ((m - acc : Nat) : Int) := by omega
          have HEC := Lib.hid ec
          clear ec
          obtain ⟨r, hr⟩ : ∃ r : Nat, r = min kid.nodes (m - acc) := ⟨_, rfl⟩
          have hrb : r ≤ m - acc := by omega
          have HRR := Lib.hid hr
          clear hr
          go_wp2_with (go_at_call 43; rw [HEC.out]; refine (HIK.out (m - acc) _ _ _ _ (by omega) (by omega) HKI2.out).mono ?_; rintro e w4 ⟨rfl, hb4⟩; rw [← HRR.out]; have HB4 := Lib.hid hb4; clear hb4)
          go_roundw
          case rel =>
            refine ⟨k + 1, acc + r, by omega, by go_num, by go_num, ?_, HBL.out.trans ((HBE.out.trans (HB4.out.mono HBE.out.size)).mono HBL.out.size)⟩
            have h1 := HA.out
            have h2 := HN.out
            have h3 := HRR.out
            omega
          case measure => simp [intOf]; omega
      · obtain rfl : k = n := by omega
        have d2 : decide ((m : Int) < (acc : Int)) = false := by simp; omega
        go_wp2_with fail
        go_returns
        refine ⟨by
          have h1 := HA.out
          rw [List.take_of_length_le (by omega)] at h1
          have h3 := HH.out
          rw [HR.out, show min t.nodes m = acc by omega]; rfl, HB.out.trans (HBL.out.mono HB.out.size)⟩
/-- what Deep says of a tree, in every world -/
def RDeepAt (t : Tr) : Prop := ∀ (m : Nat) (A : Option Addr) (n c : Nat) (w : World), 1 ≤ m → m ≤ 1000 → TrIn w t A n →
  Calls Try.prog 19 #[.agg #[.int .i64 t.kind, .int .u64 t.s0, .int .u64 t.s1, .int .u64 t.s2, .int .u64 t.s3, .int .i64 t.lo, .int .i64 t.hi, .slice A n c], .int .i64 (m : Int)] w fun e w' =>
    e = .returned (.int .i64 ((min t.height m : Nat) : Int)) ∧ Below w.heap.size w w'

set_option maxRecDepth 100000 in
set_option maxHeartbeats 4000000 in
theorem rdeep_any (t : Tr) : RDeepAt t := by
  induction t using Tr.ind with
  | h t ih =>
    intro m A n c w hm1 hm h
    have hb0 : Below w.heap.size w (w.alloc (.cells #[.int .i64 t.kind, .int .u64 t.s0, .int .u64 t.s1, .int .u64 t.s2, .int .u64 t.s3, .int .i64 t.lo, .int .i64 t.hi, .slice A n c] 49)) :=
      (Below.refl _ _).alloc (Nat.le_refl _) _
    obtain ⟨KA, KN, KC, hk⟩ := h.out
    have hlen := hk.len
    have hle := hk.le
    have HK := Lib.hid (hk.keep hb0)
    have HH := Lib.hid (Tr.height_eq t)
    have HB := Lib.hid hb0
    have HIH := Lib.hid ih
    clear hk h hb0 ih
    obtain ⟨res, hres⟩ : ∃ res : Int, res = ((min t.height m : Nat) : Int) := ⟨_, rfl⟩
    rw [← hres]
    have HR := Lib.hid hres
    clear hres
    by_cases h1m : m = 1
    · subst h1m
      have d0 : decide ((1 : Int) ≤ 1) = true := rfl
      have hres1 : res = 1 := by rw [HR.out]; have := Tr.height_pos t; omega
      subst hres1
      go_enter Try.func19, Try.ntmps19
      go_wp2_with fail
      go_returns
      exact ⟨by first | rfl | simp, HB.out⟩
    have d0 : decide ((m : Int) ≤ 1) = false := by simp; omega
    go_enter Try.func19, Try.ntmps19
    go_upto_region 5 with (fail)
    generalize w.alloc (.cells #[.int .i64 t.kind, .int .u64 t.s0, .int .u64 t.s1, .int .u64 t.s2, .int .u64 t.s3, .int .i64 t.lo, .int .i64 t.hi, .slice A n c] 49) = w1 at HK HB ⊢
    go_loopw [5, 15] (fun v i wr => ∃ k acc : Nat, k ≤ n ∧ i = .int .i64 k ∧ v = .int .i64 (acc : Int) ∧ acc = heightL (t.kids.take k) ∧ acc + 1 < m ∧ Below w1.heap.size w1 wr) (fun _ i _ => n - (intOf i).toNat)
    case atStart => exact ⟨0, 0, by omega, rfl, rfl, by simp [heightL], by omega, Below.refl _ _⟩
    case round =>
      obtain ⟨k, acc, hkn, rfl, rfl, hacc, hlo, hb⟩ := hrel
      obtain ⟨w3, rfl⟩ : ∃ w3 : World, w3 = wr := ⟨_, rfl⟩
      have HBL := Lib.hid hb
      have HA := Lib.hid hacc
      clear hb hacc
      by_cases hlt : k < n
      · obtain ⟨b, o, rfl, hbl, p0, p1, p2, p3, p4, p5, p6, p7⟩ := (HK.out.keep HBL.out).eight hlt
        have hkid := (HK.out.keep HBL.out).kid k hlt
        have hmem : t.kids.getD k noTr ∈ t.kids := getD_mem (by omega)
        have IH := HIH.out _ hmem
        have hnext := heightL_snoc (t.kids.take k) (t.kids.getD k noTr)
        rw [← take_next t.kids k noTr (by omega)] at hnext
        obtain ⟨kid, hkid'⟩ : ∃ kid, kid = t.kids.getD k noTr := ⟨_, rfl⟩
        rw [← hkid'] at p0 p1 p2 p3 p4 p5 p6 hkid IH hnext
        have HKI := Lib.hid hkid
        have HIK := Lib.hid IH
        have HN := Lib.hid hnext
        have hble : Below w3.heap.size w3 (w3.alloc (.cells #[.int .i64 kid.kind, .int .u64 kid.s0, .int .u64 kid.s1, .int .u64 kid.s2, .int .u64 kid.s3, .int .i64 kid.lo, .int .i64 kid.hi, .slice (KA k) (KN k) (KC k)] 49)) := (Below.refl _ _).alloc (Nat.le_refl _) _
        have HKI2 := Lib.hid (hkid.keep hble)
        have HBE := Lib.hid hble
        clear hkid' hmem hkid IH hnext hble
        have ec : (m : Int) - 1 = ((m - 1 : Nat) : Int) := by omega
        have HEC := Lib.hid ec
        clear ec
        obtain ⟨r, hr⟩ : ∃ r : Nat, r = min kid.height (m - 1) := ⟨_, rfl⟩
        have hrb : r ≤ m - 1 := by omega
        have HRR := Lib.hid hr
        clear hr
        by_cases hra : acc < r
        · have d1 : decide ((acc : Int) < (r : Int)) = true := by simpa using hra
          by_cases hge : m - 1 ≤ r
          · have d2 : decide ((m : Int) - 1 ≤ (r : Int)) = true := by simp; omega
            go_wp2_with (go_at_call 19; rw [HEC.out]; refine (HIK.out (m - 1) _ _ _ _ (by omega) (by omega) HKI2.out).mono ?_; rintro e w4 ⟨rfl, hb4⟩; rw [← HRR.out]; have HB4 := Lib.hid hb4; clear hb4)
            go_returns
            exact ⟨by
              have h1 := HA.out
              have h2 := HN.out
              have h3 := HRR.out
              have h4 := heightL_take_le t.kids (k + 1)
              have h5 := HH.out
              rw [HR.out, show min t.height m = m by omega]; rfl, HB.out.trans ((HBL.out.trans ((HBE.out.trans (HB4.out.mono HBE.out.size)).mono HBL.out.size)).mono HB.out.size)⟩
          · have d2 : decide ((m : Int) - 1 ≤ (r : Int)) = false := by simp; omega
            go_wp2_with (go_at_call 19; rw [HEC.out]; refine (HIK.out (m - 1) _ _ _ _ (by omega) (by omega) HKI2.out).mono ?_; rintro e w4 ⟨rfl, hb4⟩; rw [← HRR.out]; have HB4 := Lib.hid hb4; clear hb4)
            go_roundw
            case rel =>
              have h1 := HA.out
              have h2 := HN.out
              have h3 := HRR.out
              exact ⟨k + 1, r, by omega, by go_num, by go_num, by omega, by omega, HBL.out.trans ((HBE.out.trans (HB4.out.mono HBE.out.size)).mono HBL.out.size)⟩
            case measure => simp [intOf]; omega
        · have d1 : decide ((acc : Int) < (r : Int)) = false := by simp; omega
          have d2 : decide ((m : Int) - 1 ≤ (acc : Int)) = false := by simp; omega
          go_wp2_with (go_at_call 19; rw [HEC.out]; refine (HIK.out (m - 1) _ _ _ _ (by omega) (by omega) HKI2.out).mono ?_; rintro e w4 ⟨rfl, hb4⟩; rw [← HRR.out]; have HB4 := Lib.hid hb4; clear hb4)
          go_roundw
          case rel =>
            have h1 := HA.out
            have h2 := HN.out
            have h3 := HRR.out
            exact ⟨k + 1, acc, by omega, by go_num, by go_num, by omega, by omega, HBL.out.trans ((HBE.out.trans (HB4.out.mono HBE.out.size)).mono HBL.out.size)⟩
          case measure => simp [intOf]; omega
      · obtain rfl : k = n := by omega
        go_wp2_with fail
        go_returns
        refine ⟨by
          have h1 := HA.out
          rw [List.take_of_length_le (by omega)] at h1
          have h3 := HH.out
          rw [HR.out, show min t.height m = acc + 1 by omega]; first | rfl | simp, HB.out.trans (HBL.out.mono HB.out.size)⟩
end Go.Proofs.Ytfjhcoeehjephaa
/- Which trees may be: the reference's one, every. -/
namespace Go.Proofs.Ytfjhcoeehjephaa
open Go.RowKit

theorem info22u : (Try.prog.info? 43).map (fun i => (i.zero, i.size, i.bytes)) = some (some (.int .u64 0), 1, 8) := by kernel_rfl
theorem cells22u : Try.prog.cellsOf 43 = 1 := by kernel_rfl
theorem eq23 (s0 s1 s2 s3 : Int) (W : World) : (Op.equalIn 9999 44 (.agg #[.int .u64 s0, .int .u64 s1, .int .u64 s2, .int .u64 s3]) (.agg #[.int .u64 0, .int .u64 0, .int .u64 0, .int .u64 0])).run Try.prog W = .ok (decide (s0 = 0 ∧ s1 = 0 ∧ s2 = 0 ∧ s3 = 0)) W := by
  obtain ⟨i, hi, _⟩ := info_parts info22u
  rw [run_equalIn_array W 9998 _ _ Try.underlying44 hi]
  by_cases h0 : s0 = 0 <;> by_cases h1 : s1 = 0 <;> by_cases h2 : s2 = 0 <;> by_cases h3 : s3 = 0 <;> simp [Op.eqItems, go_sem, cells22u, h0, h1, h2, h3]

/-- may a node be, its kids' own kids left aside? -/
def OkT (t : Tr) : Prop :=
  (t.kind = 1 ∧ t.lo = 0 ∧ t.hi = 0 ∧ t.kids.length = 0) ∨
  ((t.kind = 2 ∨ t.kind = 3) ∧ (t.s0 = 0 ∧ t.s1 = 0 ∧ t.s2 = 0 ∧ t.s3 = 0) ∧ t.lo = 0 ∧ t.hi = 0 ∧ t.kids.length ≠ 1 ∧ ¬ (t.kids.length = 0 ∧ t.kind = 3) ∧ ¬ AnyK (fun k => decide (k.kind = t.kind)) t.kids t.kids.length) ∨
  (t.kind = 4 ∧ (t.s0 = 0 ∧ t.s1 = 0 ∧ t.s2 = 0 ∧ t.s3 = 0) ∧ t.kids.length = 1 ∧ 0 ≤ t.lo ∧ t.lo ≤ 20 ∧ (t.hi = -1 ∨ (t.lo ≤ t.hi ∧ t.hi ≤ 20 ∧ ¬ (t.lo = 1 ∧ t.hi = 1))))
open Classical in
noncomputable def okT (t : Tr) : Bool := decide (OkT t)
inductive Shp : Tr → Prop
  | mk {t : Tr} : OkT t → (∀ k, k ∈ t.kids → Shp k) → Shp t
theorem Shp.ok {t : Tr} (h : Shp t) : OkT t := by cases h; assumption
theorem Shp.kid {t k : Tr} (h : Shp t) (hk : k ∈ t.kids) : Shp k := by cases h with | mk _ h => exact h k hk
open Classical in
noncomputable def shp (t : Tr) : Bool := decide (Shp t)
theorem shp_yes {t : Tr} (h : Shp t) : shp t = true := by unfold shp; simpa using h
theorem shp_no {t : Tr} (h : ¬ Shp t) : shp t = false := by unfold shp; simpa using h
theorem okT_yes {t : Tr} (h : OkT t) : okT t = true := by unfold okT; simpa using h
theorem okT_no {t : Tr} (h : ¬ OkT t) : okT t = false := by unfold okT; simpa using h

set_option maxRecDepth 100000 in
set_option maxHeartbeats 8000000 in
theorem one_any (t : Tr) (A : Option Addr) (n c : Nat) (w : World) (h : TrIn w t A n) :
    Calls Try.prog 66 #[.agg #[.int .i64 t.kind, .int .u64 t.s0, .int .u64 t.s1, .int .u64 t.s2, .int .u64 t.s3, .int .i64 t.lo, .int .i64 t.hi, .slice A n c]] w fun e w' =>
      e = .returned (.bool (okT t)) ∧ Below w.heap.size w w' := by
  have hb0 : Below w.heap.size w (w.alloc (.cells #[.int .i64 t.kind, .int .u64 t.s0, .int .u64 t.s1, .int .u64 t.s2, .int .u64 t.s3, .int .i64 t.lo, .int .i64 t.hi, .slice A n c] 49)) :=
    (Below.refl _ _).alloc (Nat.le_refl _) _
  obtain ⟨KA, KN, KC, hk⟩ := h.out
  have hlen := hk.len
  have hle := hk.le
  have HK := Lib.hid (hk.keep hb0)
  have HB := Lib.hid hb0
  clear hk h hb0
  obtain ⟨res, hres⟩ : ∃ res, res = okT t := ⟨_, rfl⟩
  rw [← hres]
  have HR := Lib.hid hres
  clear hres
  obtain ⟨z, hz⟩ : ∃ z, z = decide (t.s0 = 0 ∧ t.s1 = 0 ∧ t.s2 = 0 ∧ t.s3 = 0) := ⟨_, rfl⟩
  have heq := fun W => eq23 t.s0 t.s1 t.s2 t.s3 W
  rw [← hz] at heq
  have HZ := Lib.hid hz
  have hyes := okT_yes (t := t)
  have hno := okT_no (t := t)
  rw [← HR.out] at hyes hno
  have HY := Lib.hid hyes
  have HN := Lib.hid hno
  clear hz hyes hno
  by_cases k1 : t.kind = 1
  · have e1 : (t.kind == 1) = true := by simpa using k1
    have hok : OkT t ↔ t.lo = 0 ∧ t.hi = 0 ∧ n = 0 := by
      unfold OkT; rw [hlen]; omega
    have HOK := Lib.hid hok
    clear k1 hok heq
    by_cases c1 : t.lo = 0
    · have f1 : (t.lo == 0) = true := by simpa using c1
      by_cases c2 : t.hi = 0
      · have f2 : (t.hi == 0) = true := by simpa using c2
        by_cases c3 : n = 0
        · have f3 : ((n : Int) == 0) = true := by simpa using c3
          obtain rfl : res = true := HY.out (HOK.out.2 ⟨c1, c2, c3⟩)
          clear c1 c2 c3
          go_enter Try.func66, Try.ntmps66
          go_wp2_with fail
          go_returns
          exact ⟨by first | rfl | simp, HB.out⟩
        · have f3 : ((n : Int) == 0) = false := by simpa using c3
          obtain rfl : res = false := HN.out (fun h => c3 (HOK.out.1 h).2.2)
          clear c1 c2 c3
          go_enter Try.func66, Try.ntmps66
          go_wp2_with fail
          go_returns
          exact ⟨by first | rfl | simp, HB.out⟩
      · have f2 : (t.hi == 0) = false := by simpa using c2
        obtain rfl : res = false := HN.out (fun h => c2 (HOK.out.1 h).2.1)
        clear c1 c2
        go_enter Try.func66, Try.ntmps66
        go_wp2_with fail
        go_returns
        exact ⟨by first | rfl | simp, HB.out⟩
    · have f1 : (t.lo == 0) = false := by simpa using c1
      obtain rfl : res = false := HN.out (fun h => c1 (HOK.out.1 h).1)
      clear c1
      go_enter Try.func66, Try.ntmps66
      go_wp2_with fail
      go_returns
      exact ⟨by first | rfl | simp, HB.out⟩
  have e1 : (t.kind == 1) = false := by simpa using k1
  have q0 : (w.alloc (.cells #[.int .i64 t.kind, .int .u64 t.s0, .int .u64 t.s1, .int .u64 t.s2, .int .u64 t.s3, .int .i64 t.lo, .int .i64 t.hi, .slice A n c] 49)).cell? ⟨w.heap.size, 0, none⟩ = some (.int .i64 t.kind) := by simp
  have hgl : w.heap.size < (w.alloc (.cells #[.int .i64 t.kind, .int .u64 t.s0, .int .u64 t.s1, .int .u64 t.s2, .int .u64 t.s3, .int .i64 t.lo, .int .i64 t.hi, .slice A n c] 49)).heap.size := by simp
  by_cases k2 : t.kind = 2
  · have e2 : (t.kind == 2) = true := by simpa using k2
    have e3 : (t.kind == 3) = false := by simp; omega
    have hok : OkT t ↔ (t.s0 = 0 ∧ t.s1 = 0 ∧ t.s2 = 0 ∧ t.s3 = 0) ∧ t.lo = 0 ∧ t.hi = 0 ∧ n ≠ 1 ∧ ¬ AnyK (fun k => decide (k.kind = t.kind)) t.kids n := by
      unfold OkT; rw [hlen]
      constructor
      · rintro (h | ⟨_, h1, h2, h3, h4, h5, h6⟩ | h)
        · omega
        · exact ⟨h1, h2, h3, h4, h6⟩
        · omega
      · rintro ⟨h1, h2, h3, h4, h6⟩
        exact .inr (.inl ⟨.inl k2, h1, h2, h3, h4, by omega, h6⟩)
    have HOK := Lib.hid hok
    clear k1 k2 hok
    by_cases cz : t.s0 = 0 ∧ t.s1 = 0 ∧ t.s2 = 0 ∧ t.s3 = 0
    · obtain rfl : z = true := by rw [HZ.out]; simpa using cz
      by_cases c1 : t.lo = 0
      · have f_c1 : (t.lo != 0) = false := by simpa using c1
        by_cases c2 : t.hi = 0
        · have f_c2 : (t.hi != 0) = false := by simpa using c2
          by_cases c3 : n = 1
          · have f_c3 : ((n : Int) == 1) = true := by simp; omega --c3
            obtain rfl : res = false := HN.out (fun h => by have h9 := HOK.out.1 h; first | exact cz h9.1 | omega)
            clear cz c1 c2 c3
            go_enter Try.func66, Try.ntmps66
            go_wp2_with fail
            go_returns
            exact ⟨by first | rfl | simp, HB.out⟩
          · have f_c3 : ((n : Int) == 1) = false := by simp; omega --c3
            have hp2 : OkT t ↔ ¬ AnyK (fun k => decide (k.kind = t.kind)) t.kids n := HOK.out.trans ⟨fun h => h.2.2.2.2, fun h => ⟨cz, c1, c2, c3, h⟩⟩
            have HP := Lib.hid hp2
            clear cz c1 c2 c3 hp2
            by_cases c4 : n = 0
            · have f_c4 : ((n : Int) == 0) = true := by simpa using c4
              clear c4
              go_enter Try.func66, Try.ntmps66
              go_upto_region 9 with (fail)
              generalize w.alloc (.cells #[.int .i64 t.kind, .int .u64 t.s0, .int .u64 t.s1, .int .u64 t.s2, .int .u64 t.s3, .int .i64 t.lo, .int .i64 t.hi, .slice A n c] 49) = w1 at HK HB q0 hgl ⊢
              go_loopw [60] (fun i wr => ∃ k : Nat, k ≤ n ∧ i = .int .i64 k ∧ Below w1.heap.size w1 wr ∧ ¬ AnyK (fun k => decide (k.kind = t.kind)) t.kids k) (fun i _ => n - (intOf i).toNat)
              case atStart => exact ⟨0, by omega, rfl, Below.refl _ _, fun ⟨j, hj, _⟩ => absurd hj (by omega)⟩
              case round =>
                obtain ⟨k, hkn, rfl, hb, hno⟩ := hrel
                obtain ⟨w3, rfl⟩ : ∃ w3 : World, w3 = wr := ⟨_, rfl⟩
                have HBL := Lib.hid hb
                have HNO := Lib.hid hno
                have q3 : w3.cell? ⟨w.heap.size, 0, none⟩ = some (.int .i64 t.kind) := (hb.cell hgl).trans q0
                have hgl3 : w.heap.size < w3.heap.size := Nat.lt_of_lt_of_le hgl hb.size
                clear hb hno
                by_cases hlt : k < n
                · obtain ⟨b, o, rfl, hbl, p0, p1, p2, p3, p4, p5, p6, p7⟩ := (HK.out.keep HBL.out).eight hlt
                  have hble : Below w3.heap.size w3 (w3.alloc (.cells #[.int .i64 (t.kids.getD k noTr).kind, .int .u64 (t.kids.getD k noTr).s0, .int .u64 (t.kids.getD k noTr).s1, .int .u64 (t.kids.getD k noTr).s2, .int .u64 (t.kids.getD k noTr).s3, .int .i64 (t.kids.getD k noTr).lo, .int .i64 (t.kids.getD k noTr).hi, .slice (KA k) (KN k) (KC k)] 49)) := (Below.refl _ _).alloc (Nat.le_refl _) _
                  obtain ⟨kid, hkid'⟩ : ∃ kid, kid = t.kids.getD k noTr := ⟨_, rfl⟩
                  rw [← hkid'] at p0 p1 p2 p3 p4 p5 p6 hble
                  have HKE := Lib.hid hkid'
                  have HBE := Lib.hid hble
                  have q4 : (w3.alloc (.cells #[.int .i64 kid.kind, .int .u64 kid.s0, .int .u64 kid.s1, .int .u64 kid.s2, .int .u64 kid.s3, .int .i64 kid.lo, .int .i64 kid.hi, .slice (KA k) (KN k) (KC k)] 49)).cell? ⟨w.heap.size, 0, none⟩ = some (.int .i64 t.kind) := (World.cell?_alloc_lt _ _ _ hgl3).trans q3
                  clear hkid' hble
                  by_cases hke : kid.kind = t.kind
                  · have f_ke : (kid.kind == t.kind) = true := by simpa using hke
                    obtain rfl : res = false := HN.out (fun h => HP.out.1 h ⟨k, hlt, by rw [← HKE.out]; simpa using hke⟩)
                    clear hke
                    go_wp2_with fail
                    go_returns
                    exact ⟨by first | rfl | simp, HB.out.trans ((HBL.out.trans (HBE.out.mono HBL.out.size)).mono HB.out.size)⟩
                  · have f_ke : (kid.kind == t.kind) = false := by simpa using hke
                    have HKE2 := Lib.hid hke
                    clear hke
                    go_wp2_with fail
                    go_roundw
                    case rel => exact ⟨k + 1, by omega, by go_num, HBL.out.trans (HBE.out.mono HBL.out.size), fun ⟨j, hj, h9⟩ => by
                                  by_cases e9 : j = k
                                  · rw [e9, ← HKE.out] at h9; exact HKE2.out (by simpa using h9)
                                  · exact HNO.out ⟨j, by omega, h9⟩⟩
                    case measure => simp [intOf]; omega
                · obtain rfl : k = n := by omega
                  obtain rfl : res = true := HY.out (HP.out.2 HNO.out)
                  go_wp2_with fail
                  go_returns
                  exact ⟨by first | rfl | simp, HB.out.trans (HBL.out.mono HB.out.size)⟩
            · have f_c4 : ((n : Int) == 0) = false := by simpa using c4
              clear c4
              go_enter Try.func66, Try.ntmps66
              go_upto_region 9 with (fail)
              generalize w.alloc (.cells #[.int .i64 t.kind, .int .u64 t.s0, .int .u64 t.s1, .int .u64 t.s2, .int .u64 t.s3, .int .i64 t.lo, .int .i64 t.hi, .slice A n c] 49) = w1 at HK HB q0 hgl ⊢
              go_loopw [60] (fun i wr => ∃ k : Nat, k ≤ n ∧ i = .int .i64 k ∧ Below w1.heap.size w1 wr ∧ ¬ AnyK (fun k => decide (k.kind = t.kind)) t.kids k) (fun i _ => n - (intOf i).toNat)
              case atStart => exact ⟨0, by omega, rfl, Below.refl _ _, fun ⟨j, hj, _⟩ => absurd hj (by omega)⟩
              case round =>
                obtain ⟨k, hkn, rfl, hb, hno⟩ := hrel
                obtain ⟨w3, rfl⟩ : ∃ w3 : World, w3 = wr := ⟨_, rfl⟩
                have HBL := Lib.hid hb
                have HNO := Lib.hid hno
                have q3 : w3.cell? ⟨w.heap.size, 0, none⟩ = some (.int .i64 t.kind) := (hb.cell hgl).trans q0
                have hgl3 : w.heap.size < w3.heap.size := Nat.lt_of_lt_of_le hgl hb.size
                clear hb hno
                by_cases hlt : k < n
                · obtain ⟨b, o, rfl, hbl, p0, p1, p2, p3, p4, p5, p6, p7⟩ := (HK.out.keep HBL.out).eight hlt
                  have hble : Below w3.heap.size w3 (w3.alloc (.cells #[.int .i64 (t.kids.getD k noTr).kind, .int .u64 (t.kids.getD k noTr).s0, .int .u64 (t.kids.getD k noTr).s1, .int .u64 (t.kids.getD k noTr).s2, .int .u64 (t.kids.getD k noTr).s3, .int .i64 (t.kids.getD k noTr).lo, .int .i64 (t.kids.getD k noTr).hi, .slice (KA k) (KN k) (KC k)] 49)) := (Below.refl _ _).alloc (Nat.le_refl _) _
                  obtain ⟨kid, hkid'⟩ : ∃ kid, kid = t.kids.getD k noTr := ⟨_, rfl⟩
                  rw [← hkid'] at p0 p1 p2 p3 p4 p5 p6 hble
                  have HKE := Lib.hid hkid'
                  have HBE := Lib.hid hble
                  have q4 : (w3.alloc (.cells #[.int .i64 kid.kind, .int .u64 kid.s0, .int .u64 kid.s1, .int .u64 kid.s2, .int .u64 kid.s3, .int .i64 kid.lo, .int .i64 kid.hi, .slice (KA k) (KN k) (KC k)] 49)).cell? ⟨w.heap.size, 0, none⟩ = some (.int .i64 t.kind) := (World.cell?_alloc_lt _ _ _ hgl3).trans q3
                  clear hkid' hble
                  by_cases hke : kid.kind = t.kind
                  · have f_ke : (kid.kind == t.kind) = true := by simpa using hke
                    obtain rfl : res = false := HN.out (fun h => HP.out.1 h ⟨k, hlt, by rw [← HKE.out]; simpa using hke⟩)
                    clear hke
                    go_wp2_with fail
                    go_returns
                    exact ⟨by first | rfl | simp, HB.out.trans ((HBL.out.trans (HBE.out.mono HBL.out.size)).mono HB.out.size)⟩
                  · have f_ke : (kid.kind == t.kind) = false := by simpa using hke
                    have HKE2 := Lib.hid hke
                    clear hke
                    go_wp2_with fail
                    go_roundw
                    case rel => exact ⟨k + 1, by omega, by go_num, HBL.out.trans (HBE.out.mono HBL.out.size), fun ⟨j, hj, h9⟩ => by
                                  by_cases e9 : j = k
                                  · rw [e9, ← HKE.out] at h9; exact HKE2.out (by simpa using h9)
                                  · exact HNO.out ⟨j, by omega, h9⟩⟩
                    case measure => simp [intOf]; omega
                · obtain rfl : k = n := by omega
                  obtain rfl : res = true := HY.out (HP.out.2 HNO.out)
                  go_wp2_with fail
                  go_returns
                  exact ⟨by first | rfl | simp, HB.out.trans (HBL.out.mono HB.out.size)⟩
        · have f_c2 : (t.hi != 0) = true := by simpa using c2
          obtain rfl : res = false := HN.out (fun h => by have h9 := HOK.out.1 h; first | exact cz h9.1 | omega)
          clear cz c1 c2
          go_enter Try.func66, Try.ntmps66
          go_wp2_with fail
          go_returns
          exact ⟨by first | rfl | simp, HB.out⟩
      · have f_c1 : (t.lo != 0) = true := by simpa using c1
        obtain rfl : res = false := HN.out (fun h => by have h9 := HOK.out.1 h; first | exact cz h9.1 | omega)
        clear cz c1
        go_enter Try.func66, Try.ntmps66
        go_wp2_with fail
        go_returns
        exact ⟨by first | rfl | simp, HB.out⟩
    · obtain rfl : z = false := by rw [HZ.out]; simpa using cz
      obtain rfl : res = false := HN.out (fun h => by have h9 := HOK.out.1 h; first | exact cz h9.1 | omega)
      clear cz
      go_enter Try.func66, Try.ntmps66
      go_wp2_with fail
      go_returns
      exact ⟨by first | rfl | simp, HB.out⟩
  have e2 : (t.kind == 2) = false := by simpa using k2
  by_cases k3 : t.kind = 3
  · have e3 : (t.kind == 3) = true := by simpa using k3
    have hok : OkT t ↔ (t.s0 = 0 ∧ t.s1 = 0 ∧ t.s2 = 0 ∧ t.s3 = 0) ∧ t.lo = 0 ∧ t.hi = 0 ∧ n ≠ 1 ∧ n ≠ 0 ∧ ¬ AnyK (fun k => decide (k.kind = t.kind)) t.kids n := by
      unfold OkT; rw [hlen]
      constructor
      · rintro (h | ⟨_, h1, h2, h3, h4, h5, h6⟩ | h)
        · omega
        · exact ⟨h1, h2, h3, h4, fun h0 => h5 ⟨h0, k3⟩, h6⟩
        · omega
      · rintro ⟨h1, h2, h3, h4, h5, h6⟩
        exact .inr (.inl ⟨.inr k3, h1, h2, h3, h4, fun h0 => h5 h0.1, h6⟩)
    have HOK := Lib.hid hok
    clear k1 k2 k3 hok
    by_cases cz : t.s0 = 0 ∧ t.s1 = 0 ∧ t.s2 = 0 ∧ t.s3 = 0
    · obtain rfl : z = true := by rw [HZ.out]; simpa using cz
      by_cases c1 : t.lo = 0
      · have f_c1 : (t.lo != 0) = false := by simpa using c1
        by_cases c2 : t.hi = 0
        · have f_c2 : (t.hi != 0) = false := by simpa using c2
          by_cases c3 : n = 1
          · have f_c3 : ((n : Int) == 1) = true := by simp; omega --c3
            obtain rfl : res = false := HN.out (fun h => by have h9 := HOK.out.1 h; first | exact cz h9.1 | omega)
            clear cz c1 c2 c3
            go_enter Try.func66, Try.ntmps66
            go_wp2_with fail
            go_returns
            exact ⟨by first | rfl | simp, HB.out⟩
          · have f_c3 : ((n : Int) == 1) = false := by simp; omega --c3
            by_cases c4 : n = 0
            · have f_c4 : ((n : Int) == 0) = true := by simp; omega --c4
              obtain rfl : res = false := HN.out (fun h => by have h9 := HOK.out.1 h; first | exact cz h9.1 | omega)
              clear cz c1 c2 c3 c4
              go_enter Try.func66, Try.ntmps66
              go_wp2_with fail
              go_returns
              exact ⟨by first | rfl | simp, HB.out⟩
            · have f_c4 : ((n : Int) == 0) = false := by simp; omega --c4
              have hp2 : OkT t ↔ ¬ AnyK (fun k => decide (k.kind = t.kind)) t.kids n := HOK.out.trans ⟨fun h => h.2.2.2.2.2, fun h => ⟨cz, c1, c2, c3, c4, h⟩⟩
              have HP := Lib.hid hp2
              clear cz c1 c2 c3 c4 hp2
              go_enter Try.func66, Try.ntmps66
              go_upto_region 9 with (fail)
              generalize w.alloc (.cells #[.int .i64 t.kind, .int .u64 t.s0, .int .u64 t.s1, .int .u64 t.s2, .int .u64 t.s3, .int .i64 t.lo, .int .i64 t.hi, .slice A n c] 49) = w1 at HK HB q0 hgl ⊢
              go_loopw [60] (fun i wr => ∃ k : Nat, k ≤ n ∧ i = .int .i64 k ∧ Below w1.heap.size w1 wr ∧ ¬ AnyK (fun k => decide (k.kind = t.kind)) t.kids k) (fun i _ => n - (intOf i).toNat)
              case atStart => exact ⟨0, by omega, rfl, Below.refl _ _, fun ⟨j, hj, _⟩ => absurd hj (by omega)⟩
              case round =>
                obtain ⟨k, hkn, rfl, hb, hno⟩ := hrel
                obtain ⟨w3, rfl⟩ : ∃ w3 : World, w3 = wr := ⟨_, rfl⟩
                have HBL := Lib.hid hb
                have HNO := Lib.hid hno
                have q3 : w3.cell? ⟨w.heap.size, 0, none⟩ = some (.int .i64 t.kind) := (hb.cell hgl).trans q0
                have hgl3 : w.heap.size < w3.heap.size := Nat.lt_of_lt_of_le hgl hb.size
                clear hb hno
                by_cases hlt : k < n
                · obtain ⟨b, o, rfl, hbl, p0, p1, p2, p3, p4, p5, p6, p7⟩ := (HK.out.keep HBL.out).eight hlt
                  have hble : Below w3.heap.size w3 (w3.alloc (.cells #[.int .i64 (t.kids.getD k noTr).kind, .int .u64 (t.kids.getD k noTr).s0, .int .u64 (t.kids.getD k noTr).s1, .int .u64 (t.kids.getD k noTr).s2, .int .u64 (t.kids.getD k noTr).s3, .int .i64 (t.kids.getD k noTr).lo, .int .i64 (t.kids.getD k noTr).hi, .slice (KA k) (KN k) (KC k)] 49)) := (Below.refl _ _).alloc (Nat.le_refl _) _
                  obtain ⟨kid, hkid'⟩ : ∃ kid, kid = t.kids.getD k noTr := ⟨_, rfl⟩
                  rw [← hkid'] at p0 p1 p2 p3 p4 p5 p6 hble
                  have HKE := Lib.hid hkid'
                  have HBE := Lib.hid hble
                  have q4 : (w3.alloc (.cells #[.int .i64 kid.kind, .int .u64 kid.s0, .int .u64 kid.s1, .int .u64 kid.s2, .int .u64 kid.s3, .int .i64 kid.lo, .int .i64 kid.hi, .slice (KA k) (KN k) (KC k)] 49)).cell? ⟨w.heap.size, 0, none⟩ = some (.int .i64 t.kind) := (World.cell?_alloc_lt _ _ _ hgl3).trans q3
                  clear hkid' hble
                  by_cases hke : kid.kind = t.kind
                  · have f_ke : (kid.kind == t.kind) = true := by simpa using hke
                    obtain rfl : res = false := HN.out (fun h => HP.out.1 h ⟨k, hlt, by rw [← HKE.out]; simpa using hke⟩)
                    clear hke
                    go_wp2_with fail
                    go_returns
                    exact ⟨by first | rfl | simp, HB.out.trans ((HBL.out.trans (HBE.out.mono HBL.out.size)).mono HB.out.size)⟩
                  · have f_ke : (kid.kind == t.kind) = false := by simpa using hke
                    have HKE2 := Lib.hid hke
                    clear hke
                    go_wp2_with fail
                    go_roundw
                    case rel => exact ⟨k + 1, by omega, by go_num, HBL.out.trans (HBE.out.mono HBL.out.size), fun ⟨j, hj, h9⟩ => by
                                  by_cases e9 : j = k
                                  · rw [e9, ← HKE.out] at h9; exact HKE2.out (by simpa using h9)
                                  · exact HNO.out ⟨j, by omega, h9⟩⟩
                    case measure => simp [intOf]; omega
                · obtain rfl : k = n := by omega
                  obtain rfl : res = true := HY.out (HP.out.2 HNO.out)
                  go_wp2_with fail
                  go_returns
                  exact ⟨by first | rfl | simp, HB.out.trans (HBL.out.mono HB.out.size)⟩
        · have f_c2 : (t.hi != 0) = true := by simpa using c2
          obtain rfl : res = false := HN.out (fun h => by have h9 := HOK.out.1 h; first | exact cz h9.1 | omega)
          clear cz c1 c2
          go_enter Try.func66, Try.ntmps66
          go_wp2_with fail
          go_returns
          exact ⟨by first | rfl | simp, HB.out⟩
      · have f_c1 : (t.lo != 0) = true := by simpa using c1
        obtain rfl : res = false := HN.out (fun h => by have h9 := HOK.out.1 h; first | exact cz h9.1 | omega)
        clear cz c1
        go_enter Try.func66, Try.ntmps66
        go_wp2_with fail
        go_returns
        exact ⟨by first | rfl | simp, HB.out⟩
    · obtain rfl : z = false := by rw [HZ.out]; simpa using cz
      obtain rfl : res = false := HN.out (fun h => by have h9 := HOK.out.1 h; first | exact cz h9.1 | omega)
      clear cz
      go_enter Try.func66, Try.ntmps66
      go_wp2_with fail
      go_returns
      exact ⟨by first | rfl | simp, HB.out⟩
  have e3 : (t.kind == 3) = false := by simpa using k3
  by_cases k4 : t.kind = 4
  · have e4 : (t.kind == 4) = true := by simpa using k4
    have hok : OkT t ↔ (t.s0 = 0 ∧ t.s1 = 0 ∧ t.s2 = 0 ∧ t.s3 = 0) ∧ n = 1 ∧ 0 ≤ t.lo ∧ t.lo ≤ 20 ∧ (t.hi = -1 ∨ (t.lo ≤ t.hi ∧ t.hi ≤ 20 ∧ ¬ (t.lo = 1 ∧ t.hi = 1))) := by
      unfold OkT; rw [hlen]; omega
    have HOK := Lib.hid hok
    clear k1 k2 k3 k4 hok
    by_cases cz : t.s0 = 0 ∧ t.s1 = 0 ∧ t.s2 = 0 ∧ t.s3 = 0
    · obtain rfl : z = true := by rw [HZ.out]; simpa using cz
      by_cases c1 : n = 1
      · have f_c1 : ((n : Int) != 1) = false := by simp; omega
        by_cases c2 : t.lo < 0
        · have f_c2 : decide (t.lo < 0) = true := by simpa using c2
          obtain rfl : res = false := HN.out (fun h => by have := HOK.out.1 h; omega)
          clear cz c1 c2
          go_enter Try.func66, Try.ntmps66
          go_wp2_with fail
          go_returns
          exact ⟨by first | rfl | simp, HB.out⟩
        · have f_c2 : decide (t.lo < 0) = false := by simpa using c2
          by_cases c3 : 20 < t.lo
          · have f_c3 : decide (20 < t.lo) = true := by simpa using c3
            obtain rfl : res = false := HN.out (fun h => by have := HOK.out.1 h; omega)
            clear cz c1 c2 c3
            go_enter Try.func66, Try.ntmps66
            go_wp2_with fail
            go_returns
            exact ⟨by first | rfl | simp, HB.out⟩
          · have f_c3 : decide (20 < t.lo) = false := by simpa using c3
            by_cases d1 : t.hi = -1
            · have f_d1 : (t.hi == -1) = true := by simpa using d1
              obtain rfl : res = true := HY.out (HOK.out.2 (by omega))
              clear cz c1 c2 c3 d1
              go_enter Try.func66, Try.ntmps66
              go_wp2_with fail
              go_returns
              exact ⟨by first | rfl | simp, HB.out⟩
            · have f_d1 : (t.hi == -1) = false := by simpa using d1
              by_cases d2 : t.lo ≤ t.hi
              · have f_d2 : decide (t.lo ≤ t.hi) = true := by simpa using d2
                by_cases d3 : t.hi ≤ 20
                · have f_d3 : decide (t.hi ≤ 20) = true := by simpa using d3
                  by_cases d4 : t.lo = 1
                  · have f_d4 : (t.lo != 1) = false := by simpa using d4
                    by_cases d5 : t.hi = 1
                    · have f_d5 : (t.hi != 1) = false := by simpa using d5
                      obtain rfl : res = false := HN.out (fun h => by have := HOK.out.1 h; omega)
                      clear cz c1 c2 c3 d1 d2 d3 d4 d5
                      go_enter Try.func66, Try.ntmps66
                      go_wp2_with fail
                      go_returns
                      exact ⟨by first | rfl | simp, HB.out⟩
                    · have f_d5 : (t.hi != 1) = true := by simpa using d5
                      obtain rfl : res = true := HY.out (HOK.out.2 (by omega))
                      clear cz c1 c2 c3 d1 d2 d3 d4 d5
                      go_enter Try.func66, Try.ntmps66
                      go_wp2_with fail
                      go_returns
                      exact ⟨by first | rfl | simp, HB.out⟩
                  · have f_d4 : (t.lo != 1) = true := by simpa using d4
                    obtain rfl : res = true := HY.out (HOK.out.2 (by omega))
                    clear cz c1 c2 c3 d1 d2 d3 d4
                    go_enter Try.func66, Try.ntmps66
                    go_wp2_with fail
                    go_returns
                    exact ⟨by first | rfl | simp, HB.out⟩
                · have f_d3 : decide (t.hi ≤ 20) = false := by simpa using d3
                  obtain rfl : res = false := HN.out (fun h => by have := HOK.out.1 h; omega)
                  clear cz c1 c2 c3 d1 d2 d3
                  go_enter Try.func66, Try.ntmps66
                  go_wp2_with fail
                  go_returns
                  exact ⟨by first | rfl | simp, HB.out⟩
              · have f_d2 : decide (t.lo ≤ t.hi) = false := by simpa using d2
                obtain rfl : res = false := HN.out (fun h => by have := HOK.out.1 h; omega)
                clear cz c1 c2 c3 d1 d2
                go_enter Try.func66, Try.ntmps66
                go_wp2_with fail
                go_returns
                exact ⟨by first | rfl | simp, HB.out⟩
      · have f_c1 : ((n : Int) != 1) = true := by simp; omega
        obtain rfl : res = false := HN.out (fun h => by have := HOK.out.1 h; omega)
        clear cz c1
        go_enter Try.func66, Try.ntmps66
        go_wp2_with fail
        go_returns
        exact ⟨by first | rfl | simp, HB.out⟩
    · obtain rfl : z = false := by rw [HZ.out]; simpa using cz
      obtain rfl : res = false := HN.out (fun h => by have := HOK.out.1 h; omega)
      clear cz
      go_enter Try.func66, Try.ntmps66
      go_wp2_with fail
      go_returns
      exact ⟨by first | rfl | simp, HB.out⟩
  · have e4 : (t.kind == 4) = false := by simpa using k4
    obtain rfl : res = false := HN.out (by unfold OkT; omega)
    clear k1 k2 k3 k4
    go_enter Try.func66, Try.ntmps66
    go_wp2_with fail
    go_returns
    exact ⟨by first | rfl | simp, HB.out⟩
end Go.Proofs.Ytfjhcoeehjephaa
/- The reference's Size. -/
namespace Go.Proofs.Ytfjhcoeehjephaa
open Go.RowKit

/-- how often a node's kid is counted -/
def Tr.times (t : Tr) : Nat := if t.kind = 4 then max (max 1 t.hi.toNat) t.lo.toNat else 1
def Tr.size (t : Tr) : Nat := (t.kids.attach.map (fun k => k.1.size)).foldl (fun a d => a + d * t.times) 2
termination_by SizeOf.sizeOf t
decreasing_by exact Tr.size_kid k.2
def sizeL (c : Nat) (l : List Tr) : Nat := (l.map Tr.size).foldl (fun a d => a + d * c) 2
theorem Tr.size_eq (t : Tr) : t.size = sizeL t.times t.kids := by
  rw [Tr.size]
  unfold sizeL
  congr 1
  simp
theorem sizeL_snoc (c : Nat) (l : List Tr) (k : Tr) : sizeL c (l ++ [k]) = sizeL c l + k.size * c := by simp [sizeL]
theorem sizeL_take_le (c : Nat) (l : List Tr) (i : Nat) : sizeL c (l.take i) ≤ sizeL c l := by
  have h2 : ∀ (l m : List Tr), sizeL c l ≤ sizeL c (l ++ m) := fun l m => by
    unfold sizeL
    rw [List.map_append, List.foldl_append]
    have : ∀ (q : List Nat) (a : Nat), a ≤ q.foldl (fun a d => a + d * c) a := fun q => by
      induction q with
      | nil => intro a; exact Nat.le_refl _
      | cons x q ih => intro a; exact Nat.le_trans (Nat.le_add_right a (x * c)) (ih _)
    exact this _ _
  have := h2 (l.take i) (l.drop i)
  rwa [List.take_append_drop] at this
theorem times_pos (t : Tr) : 1 ≤ t.times := by unfold Tr.times; split <;> omega
theorem times_le (t : Tr) (h : Shp t) : t.times ≤ 20 := by
  have := h.ok
  unfold OkT at this
  unfold Tr.times
  split <;> omega
theorem sizeL_two (c : Nat) (l : List Tr) : 2 ≤ sizeL c l := by
  have := sizeL_take_le c l 0
  simpa [sizeL] using this
theorem Tr.size_two (t : Tr) : 2 ≤ t.size := by rw [Tr.size_eq]; exact sizeL_two _ _
/-- a step of Size -/
theorem size_step (a s c m r acc : Nat) (hc : 1 ≤ c) (h2a : 2 ≤ a) (ha : acc = a) (hr : r = min s m) : (m < acc + r * c → m < a + s * c) ∧ (¬ m < acc + r * c → acc + r * c = a + s * c) := by
  have h1 : r * c ≤ s * c := Nat.mul_le_mul_right c (by omega)
  rcases Nat.lt_or_ge m s with h | h
  · have h2 : r = m := by omega
    have h3 : m * 1 ≤ r * c := by rw [h2]; exact Nat.mul_le_mul_left m hc
    have h4 : (m + 1) * 1 ≤ s * c := Nat.mul_le_mul h hc
    exact ⟨fun _ => by omega, fun h9 => by omega⟩
  · have h2 : r = s := by omega
    subst h2
    exact ⟨fun h => by omega, fun _ => by omega⟩

end Go.Proofs.Ytfjhcoeehjephaa
