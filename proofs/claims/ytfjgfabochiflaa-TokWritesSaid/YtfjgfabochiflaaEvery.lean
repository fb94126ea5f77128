/- The reference's every and Right. -/
import Derived.Test.YtfjgfabochiflaaOne
namespace Go.Proofs.Ytfjgfabochiflaa
open Go.RowKit

def EveryAt (t : Tr) : Prop := ∀ (A : Option Addr) (n c : Nat) (w : World), TrIn w t A n →
  Calls Try.prog 75 #[.agg #[.int .i64 t.kind, .int .u64 t.s0, .int .u64 t.s1, .int .u64 t.s2, .int .u64 t.s3, .int .i64 t.lo, .int .i64 t.hi, .slice A n c]] w fun e w' =>
    e = .returned (.bool (shp t)) ∧ Below w.heap.size w w'

set_option maxRecDepth 100000 in
set_option maxHeartbeats 4000000 in
theorem every_any (t : Tr) : EveryAt t := by
  induction t using Tr.ind with
  | h t ih =>
    intro A n c w h
    have hb0 : Below w.heap.size w (w.alloc (.cells #[.int .i64 t.kind, .int .u64 t.s0, .int .u64 t.s1, .int .u64 t.s2, .int .u64 t.s3, .int .i64 t.lo, .int .i64 t.hi, .slice A n c] 29)) :=
      (Below.refl _ _).alloc (Nat.le_refl _) _
    have hgl : w.heap.size < (w.alloc (.cells #[.int .i64 t.kind, .int .u64 t.s0, .int .u64 t.s1, .int .u64 t.s2, .int .u64 t.s3, .int .i64 t.lo, .int .i64 t.hi, .slice A n c] 29)).heap.size := by simp
    have q7 : (w.alloc (.cells #[.int .i64 t.kind, .int .u64 t.s0, .int .u64 t.s1, .int .u64 t.s2, .int .u64 t.s3, .int .i64 t.lo, .int .i64 t.hi, .slice A n c] 29)).cell? ⟨w.heap.size, 7, none⟩ = some (.slice A n c) := by simp
    obtain ⟨KA, KN, KC, hk⟩ := h.out
    have hlen := hk.len
    have hle := hk.le
    have HK := Lib.hid (hk.keep hb0)
    have HT := Lib.hid (h.keep hb0)
    have HB := Lib.hid hb0
    have HIH := Lib.hid ih
    clear hk h hb0 ih
    have hyes := shp_yes (t := t)
    have hno := shp_no (t := t)
    obtain ⟨res, hres⟩ : ∃ res, res = shp t := ⟨_, rfl⟩
    rw [← hres] at hyes hno ⊢
    have HY := Lib.hid hyes
    have HN := Lib.hid hno
    clear hres hyes hno
    have HON := Lib.hid (fun w' h => one_any t A n c w' h)
    by_cases hok : OkT t
    · have ho := okT_yes hok
      have HOT := Lib.hid ho
      have HOK := Lib.hid hok
      clear ho hok
      go_enter Try.func75, Try.ntmps75
      go_upto_region 4 with (go_at_call 107; refine (HON.out _ HT.out).mono ?_; rintro e w2 ⟨rfl, hb2⟩; rw [HOT.out]; have q72 := (hb2.cell (p := ⟨w.heap.size, 7, none⟩) hgl).trans q7; have HB2 := Lib.hid hb2; clear hb2)
      have hk2 := HK.out.keep HB2.out
      have HK2 := Lib.hid hk2
      clear hk2 HK HT
      have hbx : Below w.heap.size w w2 := HB.out.trans (HB2.out.mono HB.out.size)
      have HBX := Lib.hid hbx
      clear hbx HB2 HB q7 hgl
      go_loopw [11] (fun i wr => ∃ k : Nat, k ≤ n ∧ i = .int .i64 k ∧ Below w2.heap.size w2 wr ∧ ∀ j, j < k → Shp (t.kids.getD j noTr)) (fun i _ => n - (intOf i).toNat)
      case atStart => exact ⟨0, by omega, rfl, Below.refl _ _, fun j hj => absurd hj (by omega)⟩
      case round =>
        obtain ⟨k, hkn, rfl, hb, hall⟩ := hrel
        obtain ⟨w3, rfl⟩ : ∃ w3 : World, w3 = wr := ⟨_, rfl⟩
        have HBL := Lib.hid hb
        have HALL := Lib.hid hall
        clear hb hall
        by_cases hlt : k < n
        · obtain ⟨b, o, rfl, hbl, p0, p1, p2, p3, p4, p5, p6, p7⟩ := (HK2.out.keep HBL.out).eight hlt
          have hkid := (HK2.out.keep HBL.out).kid k hlt
          have hmem : t.kids.getD k noTr ∈ t.kids := getD_mem (by omega)
          have IH := HIH.out _ hmem
          obtain ⟨kid, hkid'⟩ : ∃ kid, kid = t.kids.getD k noTr := ⟨_, rfl⟩
          rw [← hkid'] at p0 p1 p2 p3 p4 p5 p6 hkid IH hmem
          have hble : Below w3.heap.size w3 (w3.alloc (.cells #[.int .i64 kid.kind, .int .u64 kid.s0, .int .u64 kid.s1, .int .u64 kid.s2, .int .u64 kid.s3, .int .i64 kid.lo, .int .i64 kid.hi, .slice (KA k) (KN k) (KC k)] 29)) := (Below.refl _ _).alloc (Nat.le_refl _) _
          have HIK := Lib.hid IH
          have HKI2 := Lib.hid (hkid.keep hble)
          have HBE := Lib.hid hble
          have HME := Lib.hid hmem
          have HKE := Lib.hid hkid'
          clear hkid' hmem hkid IH hble
          by_cases hsk : Shp kid
          · have HS := Lib.hid hsk
            clear hsk
            go_wp2_with (go_at_call 75; refine (HIK.out _ _ _ _ HKI2.out).mono ?_; rintro e w4 ⟨rfl, hb4⟩; rw [shp_yes HS.out]; have HB4 := Lib.hid hb4; clear hb4)
            go_roundw
            case rel =>
              refine ⟨k + 1, by omega, by go_num, HBL.out.trans ((HBE.out.trans (HB4.out.mono HBE.out.size)).mono HBL.out.size), fun j hj => ?_⟩
              by_cases e9 : j = k
              · rw [e9, ← HKE.out]; exact HS.out
              · exact HALL.out j (by omega)
            case measure => simp [intOf]; omega
          · have HS := Lib.hid hsk
            obtain rfl : res = false := HN.out (fun h => hsk (h.kid HME.out))
            clear hsk
            go_wp2_with (go_at_call 75; refine (HIK.out _ _ _ _ HKI2.out).mono ?_; rintro e w4 ⟨rfl, hb4⟩; rw [shp_no HS.out]; have HB4 := Lib.hid hb4; clear hb4)
            go_returns
            exact ⟨by first | rfl | simp, HBX.out.trans ((HBL.out.trans ((HBE.out.trans (HB4.out.mono HBE.out.size)).mono HBL.out.size)).mono HBX.out.size)⟩
        · obtain rfl : k = n := by omega
          obtain rfl : res = true := HY.out (.mk HOK.out (fun k hk => by
            obtain ⟨j, hj, rfl⟩ := List.getElem_of_mem hk
            have := HALL.out j (by omega)
            rwa [show t.kids.getD j noTr = t.kids[j] by simp [hj]] at this))
          go_wp2_with fail
          go_returns
          exact ⟨by first | rfl | simp, HBX.out.trans (HBL.out.mono HBX.out.size)⟩
    · have ho := okT_no hok
      have HOT := Lib.hid ho
      obtain rfl : res = false := HN.out (fun h => hok h.ok)
      clear ho hok
      go_enter Try.func75, Try.ntmps75
      go_wp2_with (go_at_call 107; refine (HON.out _ HT.out).mono ?_; rintro e w2 ⟨rfl, hb2⟩; rw [HOT.out]; have HB2 := Lib.hid hb2; clear hb2)
      go_returns
      exact ⟨by first | rfl | simp, HB.out.trans (HB2.out.mono HB.out.size)⟩

/-- what stands in a tree's way: 0, 2 (too long), 61 (no tree) -/
noncomputable def wrongT (t : Tr) : Int := if 30 < t.height ∨ 512 < t.nodes then 2 else if shp t = true then 0 else 61
set_option maxRecDepth 100000 in
set_option maxHeartbeats 4000000 in
theorem rright_any (t : Tr) (A : Option Addr) (n c : Nat) (w : World) (h : TrIn w t A n) :
    Calls Try.prog 38 #[.agg #[.int .i64 t.kind, .int .u64 t.s0, .int .u64 t.s1, .int .u64 t.s2, .int .u64 t.s3, .int .i64 t.lo, .int .i64 t.hi, .slice A n c]] w fun e w' =>
      e = .returned (.int .i64 (wrongT t)) ∧ Below w.heap.size w w' := by
  have hb0 : Below w.heap.size w (w.alloc (.cells #[.int .i64 t.kind, .int .u64 t.s0, .int .u64 t.s1, .int .u64 t.s2, .int .u64 t.s3, .int .i64 t.lo, .int .i64 t.hi, .slice A n c] 29)) :=
    (Below.refl _ _).alloc (Nat.le_refl _) _
  have hgl : w.heap.size < (w.alloc (.cells #[.int .i64 t.kind, .int .u64 t.s0, .int .u64 t.s1, .int .u64 t.s2, .int .u64 t.s3, .int .i64 t.lo, .int .i64 t.hi, .slice A n c] 29)).heap.size := by simp
  obtain ⟨w1, hw1⟩ : ∃ w1, w1 = w.alloc (.cells #[.int .i64 t.kind, .int .u64 t.s0, .int .u64 t.s1, .int .u64 t.s2, .int .u64 t.s3, .int .i64 t.lo, .int .i64 t.hi, .slice A n c] 29) := ⟨_, rfl⟩
  have q0 : w1.cell? ⟨w.heap.size, 0, none⟩ = some (.int .i64 t.kind) := by rw [hw1]; simp
  have q1 : w1.cell? ⟨w.heap.size, 1, none⟩ = some (.int .u64 t.s0) := by rw [hw1]; simp
  have q2 : w1.cell? ⟨w.heap.size, 2, none⟩ = some (.int .u64 t.s1) := by rw [hw1]; simp
  have q3 : w1.cell? ⟨w.heap.size, 3, none⟩ = some (.int .u64 t.s2) := by rw [hw1]; simp
  have q4 : w1.cell? ⟨w.heap.size, 4, none⟩ = some (.int .u64 t.s3) := by rw [hw1]; simp
  have q5 : w1.cell? ⟨w.heap.size, 5, none⟩ = some (.int .i64 t.lo) := by rw [hw1]; simp
  have q6 : w1.cell? ⟨w.heap.size, 6, none⟩ = some (.int .i64 t.hi) := by rw [hw1]; simp
  have q7 : w1.cell? ⟨w.heap.size, 7, none⟩ = some (.slice A n c) := by rw [hw1]; simp
  rw [← hw1] at hb0 hgl
  have HT := Lib.hid (h.keep hb0)
  have HB := Lib.hid hb0
  clear h hb0
  have go : ∀ (w2 : World), Below w1.heap.size w1 w2 → ∀ j v, w1.cell? ⟨w.heap.size, j, none⟩ = some v → w2.cell? ⟨w.heap.size, j, none⟩ = some v := fun w2 hb j v hv => (hb.cell (p := ⟨w.heap.size, j, none⟩) hgl).trans hv
  have GO := Lib.hid go
  clear go
  obtain ⟨res, hres⟩ : ∃ res, res = wrongT t := ⟨_, rfl⟩
  rw [← hres]
  have HR := Lib.hid hres
  clear hres
  obtain ⟨dd, hdd⟩ : ∃ dd, dd = min t.height 31 := ⟨_, rfl⟩
  obtain ⟨nn, hnn⟩ : ∃ nn, nn = min t.nodes 513 := ⟨_, rfl⟩
  have HD := Lib.hid (fun w' h => rdeep_any t 31 A n c w' (by omega) (by omega) h)
  have HNN := Lib.hid (fun w' h => rnodes_any t 513 A n c w' (by omega) (by omega) h)
  have HE := Lib.hid (fun w' h => every_any t A n c w' h)
  rw [← hdd] at HD
  rw [← hnn] at HNN
  have arm : True := trivial
  by_cases hh : 30 < t.height
  · have d1 : decide (30 < (dd : Int)) = true := by simp; omega
    obtain rfl : res = 2 := by rw [HR.out]; unfold wrongT; rw [if_pos (.inl hh)]
    clear hh hdd hnn
    go_enter Try.func38, Try.ntmps38
    go_upto_region 1 with (fail)
    rw [← hw1]
    clear hw1
    go_wp2_with (go_at_call 73; refine (HD.out _ HT.out).mono ?_; rintro e w2 ⟨rfl, hb2⟩; have HB2 := Lib.hid hb2; clear hb2)
    go_returns
    exact ⟨by first | rfl | simp, HB.out.trans (HB2.out.mono HB.out.size)⟩
  · have d1 : decide (30 < (dd : Int)) = false := by simp; omega
    by_cases hn : 512 < t.nodes
    · have d2 : decide (512 < (nn : Int)) = true := by simp; omega
      obtain rfl : res = 2 := by rw [HR.out]; unfold wrongT; rw [if_pos (.inr hn)]
      clear hh hn hdd hnn
      go_enter Try.func38, Try.ntmps38
      go_upto_region 1 with (fail)
      rw [← hw1]
      clear hw1
      go_wp2_with first
        | (go_at_call 73; refine (HD.out _ HT.out).mono ?_; rintro e w2 ⟨rfl, hb2⟩; have r0 := GO.out _ hb2 _ _ q0; have r1 := GO.out _ hb2 _ _ q1; have r2 := GO.out _ hb2 _ _ q2; have r3 := GO.out _ hb2 _ _ q3; have r4 := GO.out _ hb2 _ _ q4; have r5 := GO.out _ hb2 _ _ q5; have r6 := GO.out _ hb2 _ _ q6; have r7 := GO.out _ hb2 _ _ q7; have HB2 := Lib.hid hb2; clear hb2)
        | (go_at_call 74; refine (HNN.out _ (HT.out.keep HB2.out)).mono ?_; rintro e w3 ⟨rfl, hb3⟩; have HB3 := Lib.hid hb3; clear hb3)
      go_returns
      exact ⟨by first | rfl | simp, HB.out.trans ((HB2.out.trans (HB3.out.mono HB2.out.size)).mono HB.out.size)⟩
    · have d2 : decide (512 < (nn : Int)) = false := by simp; omega
      have hr : res = if shp t = true then 0 else 61 := by rw [HR.out]; unfold wrongT; rw [if_neg (by omega)]
      obtain ⟨z, hz⟩ : ∃ z, z = shp t := ⟨_, rfl⟩
      rw [← hz] at HE hr
      clear hh hn hdd hnn hz
      cases z
      · obtain rfl : res = 61 := hr
        go_enter Try.func38, Try.ntmps38
        go_upto_region 1 with (fail)
        rw [← hw1]
        clear hw1
        go_wp2_with first
          | (go_at_call 73; refine (HD.out _ HT.out).mono ?_; rintro e w2 ⟨rfl, hb2⟩; have r0 := GO.out _ hb2 _ _ q0; have r1 := GO.out _ hb2 _ _ q1; have r2 := GO.out _ hb2 _ _ q2; have r3 := GO.out _ hb2 _ _ q3; have r4 := GO.out _ hb2 _ _ q4; have r5 := GO.out _ hb2 _ _ q5; have r6 := GO.out _ hb2 _ _ q6; have r7 := GO.out _ hb2 _ _ q7; have HB2 := Lib.hid hb2; clear hb2)
          | (go_at_call 74; refine (HNN.out _ (HT.out.keep HB2.out)).mono ?_; rintro e w3 ⟨rfl, hb3⟩; have hb3 := HB2.out.trans (hb3.mono HB2.out.size); have t0 := GO.out _ hb3 _ _ q0; have t1 := GO.out _ hb3 _ _ q1; have t2 := GO.out _ hb3 _ _ q2; have t3 := GO.out _ hb3 _ _ q3; have t4 := GO.out _ hb3 _ _ q4; have t5 := GO.out _ hb3 _ _ q5; have t6 := GO.out _ hb3 _ _ q6; have t7 := GO.out _ hb3 _ _ q7; have HB3 := Lib.hid hb3; clear hb3)
          | (go_at_call 75; refine (HE.out _ (HT.out.keep HB3.out)).mono ?_; rintro e w4 ⟨rfl, hb4⟩; have HB4 := Lib.hid hb4; clear hb4)
        go_returns
        exact ⟨by first | rfl | simp, HB.out.trans ((HB3.out.trans (HB4.out.mono HB3.out.size)).mono HB.out.size)⟩
      · obtain rfl : res = 0 := hr
        go_enter Try.func38, Try.ntmps38
        go_upto_region 1 with (fail)
        rw [← hw1]
        clear hw1
        go_wp2_with first
          | (go_at_call 73; refine (HD.out _ HT.out).mono ?_; rintro e w2 ⟨rfl, hb2⟩; have r0 := GO.out _ hb2 _ _ q0; have r1 := GO.out _ hb2 _ _ q1; have r2 := GO.out _ hb2 _ _ q2; have r3 := GO.out _ hb2 _ _ q3; have r4 := GO.out _ hb2 _ _ q4; have r5 := GO.out _ hb2 _ _ q5; have r6 := GO.out _ hb2 _ _ q6; have r7 := GO.out _ hb2 _ _ q7; have HB2 := Lib.hid hb2; clear hb2)
          | (go_at_call 74; refine (HNN.out _ (HT.out.keep HB2.out)).mono ?_; rintro e w3 ⟨rfl, hb3⟩; have hb3 := HB2.out.trans (hb3.mono HB2.out.size); have t0 := GO.out _ hb3 _ _ q0; have t1 := GO.out _ hb3 _ _ q1; have t2 := GO.out _ hb3 _ _ q2; have t3 := GO.out _ hb3 _ _ q3; have t4 := GO.out _ hb3 _ _ q4; have t5 := GO.out _ hb3 _ _ q5; have t6 := GO.out _ hb3 _ _ q6; have t7 := GO.out _ hb3 _ _ q7; have HB3 := Lib.hid hb3; clear hb3)
          | (go_at_call 75; refine (HE.out _ (HT.out.keep HB3.out)).mono ?_; rintro e w4 ⟨rfl, hb4⟩; have HB4 := Lib.hid hb4; clear hb4)
        go_returns
        exact ⟨by first | rfl | simp, HB.out.trans ((HB3.out.trans (HB4.out.mono HB3.out.size)).mono HB.out.size)⟩
end Go.Proofs.Ytfjgfabochiflaa
