/- config.size. -/
import Derived.Test.YtfjgfabochiflaaSize
import Derived.Deep.Cut
import Derived.Deep.CutRange
namespace Go.Proofs.Ytfjgfabochiflaa
open Go.RowKit

theorem run_max3 (w : World) (ts : Array TypeId) (t : TypeId) (a b c : Int) : (Builtin.max_ ts t #[.int .i64 a, .int .i64 b, .int .i64 c]).run Try.prog w = .ok (.int .i64 (max (max a b) c)) w := by
  simp [Builtin.max_, Builtin.max2]
  repeat' split
  all_goals omega
/-- what Size says of a tree, in every world -/
def CSizeAt (t : Tr) : Prop := ∀ (m : Nat) (A : Option Addr) (n c : Nat) (w : World), 2 ≤ m → m ≤ 2000 → Shp t → TrIn w t A n →
  Calls Try.prog 66 #[.agg #[.int .i64 t.kind, .int .u64 t.s0, .int .u64 t.s1, .int .u64 t.s2, .int .u64 t.s3, .int .i64 t.lo, .int .i64 t.hi, .slice A n c], .int .i64 (m : Int)] w fun e w' =>
    e = .returned (.int .i64 ((min t.size m : Nat) : Int)) ∧ Below w.heap.size w w'

set_option maxRecDepth 100000 in
set_option maxHeartbeats 8000000 in
theorem csize_any (t : Tr) : CSizeAt t := by
  induction t using Tr.ind with
  | h t ih =>
    intro m A n c w hm1 hm hsh h
    have hb0 : Below w.heap.size w (w.alloc (.cells #[.int .i64 t.kind, .int .u64 t.s0, .int .u64 t.s1, .int .u64 t.s2, .int .u64 t.s3, .int .i64 t.lo, .int .i64 t.hi, .slice A n c] 29)) :=
      (Below.refl _ _).alloc (Nat.le_refl _) _
    have hgl : w.heap.size < (w.alloc (.cells #[.int .i64 t.kind, .int .u64 t.s0, .int .u64 t.s1, .int .u64 t.s2, .int .u64 t.s3, .int .i64 t.lo, .int .i64 t.hi, .slice A n c] 29)).heap.size := by simp
    have q0 : (w.alloc (.cells #[.int .i64 t.kind, .int .u64 t.s0, .int .u64 t.s1, .int .u64 t.s2, .int .u64 t.s3, .int .i64 t.lo, .int .i64 t.hi, .slice A n c] 29)).cell? ⟨w.heap.size, 0, none⟩ = some (.int .i64 t.kind) := by simp
    have q5 : (w.alloc (.cells #[.int .i64 t.kind, .int .u64 t.s0, .int .u64 t.s1, .int .u64 t.s2, .int .u64 t.s3, .int .i64 t.lo, .int .i64 t.hi, .slice A n c] 29)).cell? ⟨w.heap.size, 5, none⟩ = some (.int .i64 t.lo) := by simp
    have q6 : (w.alloc (.cells #[.int .i64 t.kind, .int .u64 t.s0, .int .u64 t.s1, .int .u64 t.s2, .int .u64 t.s3, .int .i64 t.lo, .int .i64 t.hi, .slice A n c] 29)).cell? ⟨w.heap.size, 6, none⟩ = some (.int .i64 t.hi) := by simp
    obtain ⟨KA, KN, KC, hk⟩ := h.out
    have hlen := hk.len
    have hle := hk.le
    have HK := Lib.hid (hk.keep hb0)
    have HH := Lib.hid (Tr.size_eq t)
    have HB := Lib.hid hb0
    have HIH := Lib.hid ih
    have hkk := fun k hk => hsh.kid (k := k) hk
    have HKK := Lib.hid hkk
    -- how often
    have hways : ((t.kind == 4) = false ∧ t.times = 1) ∨ ((t.kind == 4) = true ∧ max (max 1 t.lo) t.hi = (t.times : Int)) := by
      unfold Tr.times
      by_cases hk4 : t.kind = 4
      · refine .inr ⟨by simpa using hk4, ?_⟩
        rw [if_pos hk4]
        omega
      · refine .inl ⟨by simpa using hk4, ?_⟩
        rw [if_neg hk4]
    obtain ⟨cc, hcc⟩ : ∃ cc, cc = t.times := ⟨_, rfl⟩
    have hc1 := times_pos t
    have hc20 := times_le t hsh
    rw [← hcc] at hways hc1 hc20 HH
    have HW := Lib.hid hways
    clear hk h hb0 ih hkk hways hcc hsh
    obtain ⟨res, hres⟩ : ∃ res : Int, res = ((min t.size m : Nat) : Int) := ⟨_, rfl⟩
    rw [← hres]
    have HR := Lib.hid hres
    clear hres
    go_enter Try.func66, Try.ntmps66
    go_upto_region 3 with (fail)
    generalize w.alloc (.cells #[.int .i64 t.kind, .int .u64 t.s0, .int .u64 t.s1, .int .u64 t.s2, .int .u64 t.s3, .int .i64 t.lo, .int .i64 t.hi, .slice A n c] 29) = w1 at HK HB hgl q0 q5 q6 ⊢
    go_loopw [5, 12] (fun v i wr => ∃ k acc : Nat, k ≤ n ∧ i = .int .i64 k ∧ v = .int .i64 (acc : Int) ∧ acc = sizeL cc (t.kids.take k) ∧ acc ≤ m ∧ Below w1.heap.size w1 wr) (fun _ i _ => n - (intOf i).toNat)
    case atStart => exact ⟨0, 2, by omega, rfl, rfl, by simp [sizeL], by omega, Below.refl _ _⟩
    case round =>
      obtain ⟨k, acc, hkn, rfl, rfl, hacc, hab, hb⟩ := hrel
      obtain ⟨w3, rfl⟩ : ∃ w3 : World, w3 = wr := ⟨_, rfl⟩
      have HBL := Lib.hid hb
      have HA := Lib.hid hacc
      clear hb hacc
      by_cases hlt : k < n
      · obtain ⟨b, o, rfl, hbl, p0, p1, p2, p3, p4, p5, p6, p7⟩ := (HK.out.keep HBL.out).eight hlt
        have hkid := (HK.out.keep HBL.out).kid k hlt
        have hmem : t.kids.getD k noTr ∈ t.kids := getD_mem (by omega)
        have IH := HIH.out _ hmem
        have hsk := HKK.out _ hmem
        have hnext := sizeL_snoc cc (t.kids.take k) (t.kids.getD k noTr)
        rw [← take_next t.kids k noTr (by omega)] at hnext
        obtain ⟨kid, hkid'⟩ : ∃ kid, kid = t.kids.getD k noTr := ⟨_, rfl⟩
        rw [← hkid'] at p0 p1 p2 p3 p4 p5 p6 hkid IH hnext hsk
        have HIK := Lib.hid IH
        have HN := Lib.hid hnext
        have HSK := Lib.hid hsk
        have hble : Below w3.heap.size w3 (w3.alloc (.cells #[.int .i64 kid.kind, .int .u64 kid.s0, .int .u64 kid.s1, .int .u64 kid.s2, .int .u64 kid.s3, .int .i64 kid.lo, .int .i64 kid.hi, .slice (KA k) (KN k) (KC k)] 29)) := (Below.refl _ _).alloc (Nat.le_refl _) _
        have HKI2 := Lib.hid (hkid.keep hble)
        have HBE := Lib.hid hble
        have hw13 := HBL.out.trans (hble.mono HBL.out.size)
        have HGO := Lib.hid (fun (j : Nat) (v : Value) (w4 : World) (hb4 : Below (w3.alloc (.cells #[.int .i64 kid.kind, .int .u64 kid.s0, .int .u64 kid.s1, .int .u64 kid.s2, .int .u64 kid.s3, .int .i64 kid.lo, .int .i64 kid.hi, .slice (KA k) (KN k) (KC k)] 29)).heap.size (w3.alloc (.cells #[.int .i64 kid.kind, .int .u64 kid.s0, .int .u64 kid.s1, .int .u64 kid.s2, .int .u64 kid.s3, .int .i64 kid.lo, .int .i64 kid.hi, .slice (KA k) (KN k) (KC k)] 29)) w4) (h : w1.cell? ⟨w.heap.size, j, none⟩ = some v) => ((hw13.trans (hb4.mono hw13.size)).cell (p := ⟨w.heap.size, j, none⟩) hgl).trans h)
        clear hkid' hmem hkid IH hnext hble hsk hw13
        obtain ⟨r, hr⟩ : ∃ r : Nat, r = min kid.size m := ⟨_, rfl⟩
        have hrb : r ≤ m := by omega
        have hrc0 : r * cc ≤ 2000 * 20 := Nat.mul_le_mul (by omega) hc20
        have hstep := size_step (sizeL cc (t.kids.take k)) kid.size cc m r acc hc1 (sizeL_two _ _) HA.out hr
        have hrc : (r : Int) * (cc : Int) = ((r * cc : Nat) : Int) := by simp
        obtain ⟨rc, hrcd⟩ : ∃ rc : Nat, rc = r * cc := ⟨_, rfl⟩
        rw [← hrcd] at hrc hrc0 hstep
        have HRR := Lib.hid hr
        have HST := Lib.hid hstep
        have HRC := Lib.hid hrc
        clear hr hstep hrc hrcd
        have g0 := HGO.out 0 _ _ (Below.refl _ _) q0
        have g5 := HGO.out 5 _ _ (Below.refl _ _) q5
        have g6 := HGO.out 6 _ _ (Below.refl _ _) q6
        by_cases hgt : m < acc + rc
        · have d1 : decide ((m : Int) < (acc : Int) + (rc : Int)) = true := by simp; omega
          obtain rfl : res = (m : Int) := by
            have h1 := HST.out.1 hgt
            have h2 := HN.out
            have h3 := sizeL_take_le cc t.kids (k + 1)
            have h4 := HH.out
            have h5 := HR.out
            omega
          rcases HW.out with ⟨e4, hcc⟩ | ⟨e4, hcc⟩
          · subst hcc
            have hrc : (r : Int) = (rc : Int) := by have h9 := HRC.out; simpa using h9
            obtain rfl : r = rc := by omega
            clear hrc
            go_wp2_with (go_at_call 66; refine (HIK.out m _ _ _ _ (by omega) (by omega) HSK.out HKI2.out).mono ?_; rintro e w4 ⟨rfl, hb4⟩; rw [← HRR.out]; have r0 := HGO.out 0 _ w4 hb4 q0; have r5 := HGO.out 5 _ w4 hb4 q5; have r6 := HGO.out 6 _ w4 hb4 q6; have HB4 := Lib.hid hb4; clear hb4)
            go_returns
            exact ⟨by first | rfl | simp, HB.out.trans ((HBL.out.trans ((HBE.out.trans (HB4.out.mono HBE.out.size)).mono HBL.out.size)).mono HB.out.size)⟩
          · have hmx := fun (ts : Array TypeId) (ty : TypeId) (W : World) => run_max3 W ts ty 1 t.lo t.hi
            rw [hcc] at hmx
            have hrc := HRC.out
            clear hcc
            go_wp2_with (go_at_call 66; refine (HIK.out m _ _ _ _ (by omega) (by omega) HSK.out HKI2.out).mono ?_; rintro e w4 ⟨rfl, hb4⟩; rw [← HRR.out]; have r0 := HGO.out 0 _ w4 hb4 q0; have r5 := HGO.out 5 _ w4 hb4 q5; have r6 := HGO.out 6 _ w4 hb4 q6; have HB4 := Lib.hid hb4; clear hb4)
            go_returns
            exact ⟨by first | rfl | simp, HB.out.trans ((HBL.out.trans ((HBE.out.trans (HB4.out.mono HBE.out.size)).mono HBL.out.size)).mono HB.out.size)⟩
        · have d1 : decide ((m : Int) < (acc : Int) + (rc : Int)) = false := by simp; omega
          rcases HW.out with ⟨e4, hcc⟩ | ⟨e4, hcc⟩
          · subst hcc
            have hrc : (r : Int) = (rc : Int) := by have h9 := HRC.out; simpa using h9
            obtain rfl : r = rc := by omega
            clear hrc
            go_wp2_with (go_at_call 66; refine (HIK.out m _ _ _ _ (by omega) (by omega) HSK.out HKI2.out).mono ?_; rintro e w4 ⟨rfl, hb4⟩; rw [← HRR.out]; have r0 := HGO.out 0 _ w4 hb4 q0; have r5 := HGO.out 5 _ w4 hb4 q5; have r6 := HGO.out 6 _ w4 hb4 q6; have HB4 := Lib.hid hb4; clear hb4)
            go_roundw
            case rel =>
              refine ⟨k + 1, acc + r, by omega, by go_num, by go_num, ?_, by omega, HBL.out.trans ((HBE.out.trans (HB4.out.mono HBE.out.size)).mono HBL.out.size)⟩
              have h1 := HST.out.2 hgt
              have h2 := HN.out
              omega
            case measure => simp [intOf]; omega
          · have hmx := fun (ts : Array TypeId) (ty : TypeId) (W : World) => run_max3 W ts ty 1 t.lo t.hi
            rw [hcc] at hmx
            have hrc := HRC.out
            clear hcc
            go_wp2_with (go_at_call 66; refine (HIK.out m _ _ _ _ (by omega) (by omega) HSK.out HKI2.out).mono ?_; rintro e w4 ⟨rfl, hb4⟩; rw [← HRR.out]; have r0 := HGO.out 0 _ w4 hb4 q0; have r5 := HGO.out 5 _ w4 hb4 q5; have r6 := HGO.out 6 _ w4 hb4 q6; have HB4 := Lib.hid hb4; clear hb4)
            go_roundw
            case rel =>
              refine ⟨k + 1, acc + rc, by omega, by go_num, by go_num, ?_, by omega, HBL.out.trans ((HBE.out.trans (HB4.out.mono HBE.out.size)).mono HBL.out.size)⟩
              have h1 := HST.out.2 hgt
              have h2 := HN.out
              omega
            case measure => simp [intOf]; omega
      · obtain rfl : k = n := by omega
        go_wp2_with fail
        go_returns
        refine ⟨by
          have h1 := HA.out
          rw [List.take_of_length_le (by omega)] at h1
          have h3 := HH.out
          rw [HR.out, show min t.size m = acc by omega]; rfl, HB.out.trans (HBL.out.mono HB.out.size)⟩
end Go.Proofs.Ytfjgfabochiflaa
