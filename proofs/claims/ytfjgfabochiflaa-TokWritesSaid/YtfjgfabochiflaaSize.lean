/- The reference's Size. -/
import Derived.Test.YtfjgfabochiflaaOne
namespace Go.Proofs.Ytfjgfabochiflaa
open Go.RowKit

/-- how often a node's kid is counted -/
def Tr.times (t : Tr) : Nat := if t.kind = 4 then max (max 1 t.hi.toNat) t.lo.toNat else 1
def Tr.size (t : Tr) : Nat := (t.kids.attach.map (fun k => k.1.size)).foldl (fun a d => a + d * t.times) 2
termination_by SizeOf.sizeOf t
decreasing_by exact Tr.size_kid k.2
def sizeL (c : Nat) (l : List Tr) : Nat := (l.map Tr.size).foldl (fun a d => a + d * c) 2
theorem Tr.size_eq (t : Tr) : t.size = sizeL t.times t.kids := by
  rw [Tr.size]
  unfold sizeL
  congr 1
  simp
theorem sizeL_snoc (c : Nat) (l : List Tr) (k : Tr) : sizeL c (l ++ [k]) = sizeL c l + k.size * c := by simp [sizeL]
theorem sizeL_take_le (c : Nat) (l : List Tr) (i : Nat) : sizeL c (l.take i) ≤ sizeL c l := by
  have h2 : ∀ (l m : List Tr), sizeL c l ≤ sizeL c (l ++ m) := fun l m => by
    unfold sizeL
    rw [List.map_append, List.foldl_append]
    have : ∀ (q : List Nat) (a : Nat), a ≤ q.foldl (fun a d => a + d * c) a := fun q => by
      induction q with
      | nil => intro a; exact Nat.le_refl _
      | cons x q ih => intro a; exact Nat.le_trans (Nat.le_add_right a (x * c)) (ih _)
    exact this _ _
  have := h2 (l.take i) (l.drop i)
  rwa [List.take_append_drop] at this
theorem times_pos (t : Tr) : 1 ≤ t.times := by unfold Tr.times; split <;> omega
theorem times_le (t : Tr) (h : Shp t) : t.times ≤ 20 := by
  have := h.ok
  unfold OkT at this
  unfold Tr.times
  split <;> omega
theorem sizeL_two (c : Nat) (l : List Tr) : 2 ≤ sizeL c l := by
  have := sizeL_take_le c l 0
  simpa [sizeL] using this
theorem Tr.size_two (t : Tr) : 2 ≤ t.size := by rw [Tr.size_eq]; exact sizeL_two _ _
/-- a step of Size -/
theorem size_step (a s c m r acc : Nat) (hc : 1 ≤ c) (h2a : 2 ≤ a) (ha : acc = a) (hr : r = min s m) : (m < acc + r * c → m < a + s * c) ∧ (¬ m < acc + r * c → acc + r * c = a + s * c) := by
  have h1 : r * c ≤ s * c := Nat.mul_le_mul_right c (by omega)
  rcases Nat.lt_or_ge m s with h | h
  · have h2 : r = m := by omega
    have h3 : m * 1 ≤ r * c := by rw [h2]; exact Nat.mul_le_mul_left m hc
    have h4 : (m + 1) * 1 ≤ s * c := Nat.mul_le_mul h hc
    exact ⟨fun _ => by omega, fun h9 => by omega⟩
  · have h2 : r = s := by omega
    subst h2
    exact ⟨fun h => by omega, fun _ => by omega⟩

/-- what Size says of a tree, in every world -/
def SizeAt (t : Tr) : Prop := ∀ (m : Nat) (A : Option Addr) (n c : Nat) (w : World), 2 ≤ m → m ≤ 2000 → Shp t → TrIn w t A n →
  Calls Try.prog 39 #[.agg #[.int .i64 t.kind, .int .u64 t.s0, .int .u64 t.s1, .int .u64 t.s2, .int .u64 t.s3, .int .i64 t.lo, .int .i64 t.hi, .slice A n c], .int .i64 (m : Int)] w fun e w' =>
    e = .returned (.int .i64 ((min t.size m : Nat) : Int)) ∧ Below w.heap.size w w'

set_option maxRecDepth 100000 in
set_option maxHeartbeats 8000000 in
theorem size_any (t : Tr) : SizeAt t := by
  induction t using Tr.ind with
  | h t ih =>
    intro m A n c w hm1 hm hsh h
    have hb0 : Below w.heap.size w (w.alloc (.cells #[.int .i64 t.kind, .int .u64 t.s0, .int .u64 t.s1, .int .u64 t.s2, .int .u64 t.s3, .int .i64 t.lo, .int .i64 t.hi, .slice A n c] 29)) :=
      (Below.refl _ _).alloc (Nat.le_refl _) _
    have hgl : w.heap.size < (w.alloc (.cells #[.int .i64 t.kind, .int .u64 t.s0, .int .u64 t.s1, .int .u64 t.s2, .int .u64 t.s3, .int .i64 t.lo, .int .i64 t.hi, .slice A n c] 29)).heap.size := by simp
    have q0 : (w.alloc (.cells #[.int .i64 t.kind, .int .u64 t.s0, .int .u64 t.s1, .int .u64 t.s2, .int .u64 t.s3, .int .i64 t.lo, .int .i64 t.hi, .slice A n c] 29)).cell? ⟨w.heap.size, 0, none⟩ = some (.int .i64 t.kind) := by simp
    have q5 : (w.alloc (.cells #[.int .i64 t.kind, .int .u64 t.s0, .int .u64 t.s1, .int .u64 t.s2, .int .u64 t.s3, .int .i64 t.lo, .int .i64 t.hi, .slice A n c] 29)).cell? ⟨w.heap.size, 5, none⟩ = some (.int .i64 t.lo) := by simp
    have q6 : (w.alloc (.cells #[.int .i64 t.kind, .int .u64 t.s0, .int .u64 t.s1, .int .u64 t.s2, .int .u64 t.s3, .int .i64 t.lo, .int .i64 t.hi, .slice A n c] 29)).cell? ⟨w.heap.size, 6, none⟩ = some (.int .i64 t.hi) := by simp
    obtain ⟨KA, KN, KC, hk⟩ := h.out
    have hlen := hk.len
    have hle := hk.le
    have HK := Lib.hid (hk.keep hb0)
    have HH := Lib.hid (Tr.size_eq t)
    have HB := Lib.hid hb0
    have HIH := Lib.hid ih
    have hkk := fun k hk => hsh.kid (k := k) hk
    have HKK := Lib.hid hkk
    -- how often
    have hways : (∃ q1, (t.kind == 4) = q1 ∧ (q1 = false ∧ t.times = 1 ∨ q1 = true ∧ ((1 < t.hi ∧ ((t.hi < t.lo ∧ (t.times : Int) = t.lo) ∨ (¬ t.hi < t.lo ∧ (t.times : Int) = t.hi))) ∨ (¬ 1 < t.hi ∧ ((1 < t.lo ∧ (t.times : Int) = t.lo) ∨ (¬ 1 < t.lo ∧ t.times = 1)))))) := by
      by_cases hk4 : t.kind = 4
      · refine ⟨true, by simpa using hk4, .inr ⟨rfl, ?_⟩⟩
        unfold Tr.times
        rw [if_pos hk4]
        omega
      · refine ⟨false, by simpa using hk4, .inl ⟨rfl, ?_⟩⟩
        unfold Tr.times
        rw [if_neg hk4]
    obtain ⟨cc, hcc⟩ : ∃ cc, cc = t.times := ⟨_, rfl⟩
    have hc1 := times_pos t
    have hc20 := times_le t hsh
    rw [← hcc] at hways hc1 hc20 HH
    have HW := Lib.hid hways
    clear hk h hb0 ih hkk hways hcc hsh
    obtain ⟨res, hres⟩ : ∃ res : Int, res = ((min t.size m : Nat) : Int) := ⟨_, rfl⟩
    rw [← hres]
    have HR := Lib.hid hres
    clear hres
    go_enter Try.func39, Try.ntmps39
    go_upto_region 3 with (fail)
    generalize w.alloc (.cells #[.int .i64 t.kind, .int .u64 t.s0, .int .u64 t.s1, .int .u64 t.s2, .int .u64 t.s3, .int .i64 t.lo, .int .i64 t.hi, .slice A n c] 29) = w1 at HK HB hgl q0 q5 q6 ⊢
    go_loopw [5, 13] (fun v i wr => ∃ k acc : Nat, k ≤ n ∧ i = .int .i64 k ∧ v = .int .i64 (acc : Int) ∧ acc = sizeL cc (t.kids.take k) ∧ acc ≤ m ∧ Below w1.heap.size w1 wr) (fun _ i _ => n - (intOf i).toNat)
    case atStart => exact ⟨0, 2, by omega, rfl, rfl, by simp [sizeL], by omega, Below.refl _ _⟩
    case round =>
      obtain ⟨k, acc, hkn, rfl, rfl, hacc, hab, hb⟩ := hrel
      obtain ⟨w3, rfl⟩ : ∃ w3 : World, w3 = wr := ⟨_, rfl⟩
      have HBL := Lib.hid hb
      have HA := Lib.hid hacc
      clear hb hacc
      by_cases hlt : k < n
      · obtain ⟨b, o, rfl, hbl, p0, p1, p2, p3, p4, p5, p6, p7⟩ := (HK.out.keep HBL.out).eight hlt
        have hkid := (HK.out.keep HBL.out).kid k hlt
        have hmem : t.kids.getD k noTr ∈ t.kids := getD_mem (by omega)
        have IH := HIH.out _ hmem
        have hsk := HKK.out _ hmem
        have hnext := sizeL_snoc cc (t.kids.take k) (t.kids.getD k noTr)
        rw [← take_next t.kids k noTr (by omega)] at hnext
        obtain ⟨kid, hkid'⟩ : ∃ kid, kid = t.kids.getD k noTr := ⟨_, rfl⟩
        rw [← hkid'] at p0 p1 p2 p3 p4 p5 p6 hkid IH hnext hsk
        have HIK := Lib.hid IH
        have HN := Lib.hid hnext
        have HSK := Lib.hid hsk
        have hble : Below w3.heap.size w3 (w3.alloc (.cells #[.int .i64 kid.kind, .int .u64 kid.s0, .int .u64 kid.s1, .int .u64 kid.s2, .int .u64 kid.s3, .int .i64 kid.lo, .int .i64 kid.hi, .slice (KA k) (KN k) (KC k)] 29)) := (Below.refl _ _).alloc (Nat.le_refl _) _
        have HKI2 := Lib.hid (hkid.keep hble)
        have HBE := Lib.hid hble
        have hw13 := HBL.out.trans (hble.mono HBL.out.size)
        have HGO := Lib.hid (fun (j : Nat) (v : Value) (w4 : World) (hb4 : Below (w3.alloc (.cells #[.int .i64 kid.kind, .int .u64 kid.s0, .int .u64 kid.s1, .int .u64 kid.s2, .int .u64 kid.s3, .int .i64 kid.lo, .int .i64 kid.hi, .slice (KA k) (KN k) (KC k)] 29)).heap.size (w3.alloc (.cells #[.int .i64 kid.kind, .int .u64 kid.s0, .int .u64 kid.s1, .int .u64 kid.s2, .int .u64 kid.s3, .int .i64 kid.lo, .int .i64 kid.hi, .slice (KA k) (KN k) (KC k)] 29)) w4) (h : w1.cell? ⟨w.heap.size, j, none⟩ = some v) => ((hw13.trans (hb4.mono hw13.size)).cell (p := ⟨w.heap.size, j, none⟩) hgl).trans h)
        clear hkid' hmem hkid IH hnext hble hsk hw13
        obtain ⟨r, hr⟩ : ∃ r : Nat, r = min kid.size m := ⟨_, rfl⟩
        have hrb : r ≤ m := by omega
        have hrc0 : r * cc ≤ 2000 * 20 := Nat.mul_le_mul (by omega) hc20
        have hstep := size_step (sizeL cc (t.kids.take k)) kid.size cc m r acc hc1 (sizeL_two _ _) HA.out hr
        have hrc : (r : Int) * (cc : Int) = ((r * cc : Nat) : Int) := by simp
        obtain ⟨rc, hrcd⟩ : ∃ rc : Nat, rc = r * cc := ⟨_, rfl⟩
        rw [← hrcd] at hrc hrc0 hstep
        have HRR := Lib.hid hr
        have HST := Lib.hid hstep
        have HRC := Lib.hid hrc
        clear hr hstep hrc hrcd
        by_cases hgt : m < acc + rc
        · have d1 : decide ((m : Int) < (acc : Int) + (rc : Int)) = true := by simp; omega
          obtain rfl : res = (m : Int) := by
            have h1 := HST.out.1 hgt
            have h2 := HN.out
            have h3 := sizeL_take_le cc t.kids (k + 1)
            have h4 := HH.out
            have h5 := HR.out
            omega
          obtain ⟨q1, e4, hq⟩ := HW.out
          rcases hq with ⟨rfl, hcc⟩ | ⟨rfl, ⟨h1, ⟨h2, hcc⟩ | ⟨h2, hcc⟩⟩ | ⟨h1, ⟨h2, hcc⟩ | ⟨h2, hcc⟩⟩⟩
          · subst hcc
            have hrc : (r : Int) = (rc : Int) := by have h9 := HRC.out; simpa using h9
            obtain rfl : r = rc := by omega
            clear hrc
            go_wp2_with (go_at_call 39; refine (HIK.out m _ _ _ _ (by omega) (by omega) HSK.out HKI2.out).mono ?_; rintro e w4 ⟨rfl, hb4⟩; rw [← HRR.out]; have r0 := HGO.out 0 _ w4 hb4 q0; have r5 := HGO.out 5 _ w4 hb4 q5; have r6 := HGO.out 6 _ w4 hb4 q6; have HB4 := Lib.hid hb4; clear hb4)
            go_returns
            exact ⟨by first | rfl | simp, HB.out.trans ((HBL.out.trans ((HBE.out.trans (HB4.out.mono HBE.out.size)).mono HBL.out.size)).mono HB.out.size)⟩
          · have f1 : decide (1 < t.hi) = true := by simpa using h1
            have f2 : decide (t.hi < t.lo) = true := by simpa using h2
            have hrc := HRC.out
            rw [hcc] at hrc
            clear hcc
            clear h1 h2
            go_wp2_with (go_at_call 39; refine (HIK.out m _ _ _ _ (by omega) (by omega) HSK.out HKI2.out).mono ?_; rintro e w4 ⟨rfl, hb4⟩; rw [← HRR.out]; have r0 := HGO.out 0 _ w4 hb4 q0; have r5 := HGO.out 5 _ w4 hb4 q5; have r6 := HGO.out 6 _ w4 hb4 q6; have HB4 := Lib.hid hb4; clear hb4)
            go_returns
            exact ⟨by first | rfl | simp, HB.out.trans ((HBL.out.trans ((HBE.out.trans (HB4.out.mono HBE.out.size)).mono HBL.out.size)).mono HB.out.size)⟩
          · have f1 : decide (1 < t.hi) = true := by simpa using h1
            have f2 : decide (t.hi < t.lo) = false := by simpa using h2
            have hrc := HRC.out
            rw [hcc] at hrc
            clear hcc
            clear h1 h2
            go_wp2_with (go_at_call 39; refine (HIK.out m _ _ _ _ (by omega) (by omega) HSK.out HKI2.out).mono ?_; rintro e w4 ⟨rfl, hb4⟩; rw [← HRR.out]; have r0 := HGO.out 0 _ w4 hb4 q0; have r5 := HGO.out 5 _ w4 hb4 q5; have r6 := HGO.out 6 _ w4 hb4 q6; have HB4 := Lib.hid hb4; clear hb4)
            go_returns
            exact ⟨by first | rfl | simp, HB.out.trans ((HBL.out.trans ((HBE.out.trans (HB4.out.mono HBE.out.size)).mono HBL.out.size)).mono HB.out.size)⟩
          · have f1 : decide (1 < t.hi) = false := by simpa using h1
            have f2 : decide (1 < t.lo) = true := by simpa using h2
            have hrc := HRC.out
            rw [hcc] at hrc
            clear hcc
            clear h1 h2
            go_wp2_with (go_at_call 39; refine (HIK.out m _ _ _ _ (by omega) (by omega) HSK.out HKI2.out).mono ?_; rintro e w4 ⟨rfl, hb4⟩; rw [← HRR.out]; have r0 := HGO.out 0 _ w4 hb4 q0; have r5 := HGO.out 5 _ w4 hb4 q5; have r6 := HGO.out 6 _ w4 hb4 q6; have HB4 := Lib.hid hb4; clear hb4)
            go_returns
            exact ⟨by first | rfl | simp, HB.out.trans ((HBL.out.trans ((HBE.out.trans (HB4.out.mono HBE.out.size)).mono HBL.out.size)).mono HB.out.size)⟩
          · have f1 : decide (1 < t.hi) = false := by simpa using h1
            have f2 : decide (1 < t.lo) = false := by simpa using h2
            subst hcc
            have hrc : (r : Int) = (rc : Int) := by have h9 := HRC.out; simpa using h9
            obtain rfl : r = rc := by omega
            clear hrc
            clear h1 h2
            go_wp2_with (go_at_call 39; refine (HIK.out m _ _ _ _ (by omega) (by omega) HSK.out HKI2.out).mono ?_; rintro e w4 ⟨rfl, hb4⟩; rw [← HRR.out]; have r0 := HGO.out 0 _ w4 hb4 q0; have r5 := HGO.out 5 _ w4 hb4 q5; have r6 := HGO.out 6 _ w4 hb4 q6; have HB4 := Lib.hid hb4; clear hb4)
            go_returns
            exact ⟨by first | rfl | simp, HB.out.trans ((HBL.out.trans ((HBE.out.trans (HB4.out.mono HBE.out.size)).mono HBL.out.size)).mono HB.out.size)⟩
        · have d1 : decide ((m : Int) < (acc : Int) + (rc : Int)) = false := by simp; omega
          obtain ⟨q1, e4, hq⟩ := HW.out
          rcases hq with ⟨rfl, hcc⟩ | ⟨rfl, ⟨h1, ⟨h2, hcc⟩ | ⟨h2, hcc⟩⟩ | ⟨h1, ⟨h2, hcc⟩ | ⟨h2, hcc⟩⟩⟩
          · subst hcc
            have hrc : (r : Int) = (rc : Int) := by have h9 := HRC.out; simpa using h9
            obtain rfl : r = rc := by omega
            clear hrc
            go_wp2_with (go_at_call 39; refine (HIK.out m _ _ _ _ (by omega) (by omega) HSK.out HKI2.out).mono ?_; rintro e w4 ⟨rfl, hb4⟩; rw [← HRR.out]; have r0 := HGO.out 0 _ w4 hb4 q0; have r5 := HGO.out 5 _ w4 hb4 q5; have r6 := HGO.out 6 _ w4 hb4 q6; have HB4 := Lib.hid hb4; clear hb4)
            go_roundw
            case rel =>
              refine ⟨k + 1, acc + r, by omega, by go_num, by go_num, ?_, by omega, HBL.out.trans ((HBE.out.trans (HB4.out.mono HBE.out.size)).mono HBL.out.size)⟩
              have h1 := HST.out.2 hgt
              have h2 := HN.out
              omega
            case measure => simp [intOf]; omega
          · have f1 : decide (1 < t.hi) = true := by simpa using h1
            have f2 : decide (t.hi < t.lo) = true := by simpa using h2
            have hrc := HRC.out
            rw [hcc] at hrc
            clear hcc
            clear h1 h2
            go_wp2_with (go_at_call 39; refine (HIK.out m _ _ _ _ (by omega) (by omega) HSK.out HKI2.out).mono ?_; rintro e w4 ⟨rfl, hb4⟩; rw [← HRR.out]; have r0 := HGO.out 0 _ w4 hb4 q0; have r5 := HGO.out 5 _ w4 hb4 q5; have r6 := HGO.out 6 _ w4 hb4 q6; have HB4 := Lib.hid hb4; clear hb4)
            go_roundw
            case rel =>
              refine ⟨k + 1, acc + rc, by omega, by go_num, by go_num, ?_, by omega, HBL.out.trans ((HBE.out.trans (HB4.out.mono HBE.out.size)).mono HBL.out.size)⟩
              have h1 := HST.out.2 hgt
              have h2 := HN.out
              omega
            case measure => simp [intOf]; omega
          · have f1 : decide (1 < t.hi) = true := by simpa using h1
            have f2 : decide (t.hi < t.lo) = false := by simpa using h2
            have hrc := HRC.out
            rw [hcc] at hrc
            clear hcc
            clear h1 h2
            go_wp2_with (go_at_call 39; refine (HIK.out m _ _ _ _ (by omega) (by omega) HSK.out HKI2.out).mono ?_; rintro e w4 ⟨rfl, hb4⟩; rw [← HRR.out]; have r0 := HGO.out 0 _ w4 hb4 q0; have r5 := HGO.out 5 _ w4 hb4 q5; have r6 := HGO.out 6 _ w4 hb4 q6; have HB4 := Lib.hid hb4; clear hb4)
            go_roundw
            case rel =>
              refine ⟨k + 1, acc + rc, by omega, by go_num, by go_num, ?_, by omega, HBL.out.trans ((HBE.out.trans (HB4.out.mono HBE.out.size)).mono HBL.out.size)⟩
              have h1 := HST.out.2 hgt
              have h2 := HN.out
              omega
            case measure => simp [intOf]; omega
          · have f1 : decide (1 < t.hi) = false := by simpa using h1
            have f2 : decide (1 < t.lo) = true := by simpa using h2
            have hrc := HRC.out
            rw [hcc] at hrc
            clear hcc
            clear h1 h2
            go_wp2_with (go_at_call 39; refine (HIK.out m _ _ _ _ (by omega) (by omega) HSK.out HKI2.out).mono ?_; rintro e w4 ⟨rfl, hb4⟩; rw [← HRR.out]; have r0 := HGO.out 0 _ w4 hb4 q0; have r5 := HGO.out 5 _ w4 hb4 q5; have r6 := HGO.out 6 _ w4 hb4 q6; have HB4 := Lib.hid hb4; clear hb4)
            go_roundw
            case rel =>
              refine ⟨k + 1, acc + rc, by omega, by go_num, by go_num, ?_, by omega, HBL.out.trans ((HBE.out.trans (HB4.out.mono HBE.out.size)).mono HBL.out.size)⟩
              have h1 := HST.out.2 hgt
              have h2 := HN.out
              omega
            case measure => simp [intOf]; omega
          · have f1 : decide (1 < t.hi) = false := by simpa using h1
            have f2 : decide (1 < t.lo) = false := by simpa using h2
            subst hcc
            have hrc : (r : Int) = (rc : Int) := by have h9 := HRC.out; simpa using h9
            obtain rfl : r = rc := by omega
            clear hrc
            clear h1 h2
            go_wp2_with (go_at_call 39; refine (HIK.out m _ _ _ _ (by omega) (by omega) HSK.out HKI2.out).mono ?_; rintro e w4 ⟨rfl, hb4⟩; rw [← HRR.out]; have r0 := HGO.out 0 _ w4 hb4 q0; have r5 := HGO.out 5 _ w4 hb4 q5; have r6 := HGO.out 6 _ w4 hb4 q6; have HB4 := Lib.hid hb4; clear hb4)
            go_roundw
            case rel =>
              refine ⟨k + 1, acc + r, by omega, by go_num, by go_num, ?_, by omega, HBL.out.trans ((HBE.out.trans (HB4.out.mono HBE.out.size)).mono HBL.out.size)⟩
              have h1 := HST.out.2 hgt
              have h2 := HN.out
              omega
            case measure => simp [intOf]; omega
      · obtain rfl : k = n := by omega
        go_wp2_with fail
        go_returns
        refine ⟨by
          have h1 := HA.out
          rw [List.take_of_length_le (by omega)] at h1
          have h3 := HH.out
          rw [HR.out, show min t.size m = acc by omega]; rfl, HB.out.trans (HBL.out.mono HB.out.size)⟩
end Go.Proofs.Ytfjgfabochiflaa
