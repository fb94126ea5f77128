/- The closures of regex.shaped. -/
import Derived.Test.YtfjgfabochiflaaEvery
namespace Go.Proofs.Ytfjgfabochiflaa
open Go.RowKit

theorem clo38 (k : Tr) (kd : Int) (A : Option Addr) (n c p : Nat) (w : World) (hp : w.cell? ⟨p, 0, none⟩ = some (.int .i64 kd)) (hpl : p < w.heap.size) :
    Calls Try.prog 131 #[.agg #[.int .i64 k.kind, .int .u64 k.s0, .int .u64 k.s1, .int .u64 k.s2, .int .u64 k.s3, .int .i64 k.lo, .int .i64 k.hi, .slice A n c], .pointer (some ⟨p, 0, none⟩)] w fun e w' =>
      e = .returned (.bool (decide (k.kind = kd))) ∧ Below w.heap.size w w' := by
  obtain ⟨q, hq⟩ : ∃ q, q = decide (k.kind = kd) := ⟨_, rfl⟩
  rw [← hq]
  have hbe : (k.kind == kd) = q := by rw [hq]; rfl
  have hp2 : (w.alloc (.cells #[.int .i64 k.kind, .int .u64 k.s0, .int .u64 k.s1, .int .u64 k.s2, .int .u64 k.s3, .int .i64 k.lo, .int .i64 k.hi, .slice A n c] 29)).cell? ⟨p, 0, none⟩ = some (.int .i64 kd) := (World.cell?_alloc_lt _ _ _ hpl).trans hp
  have hb0 : Below w.heap.size w (w.alloc (.cells #[.int .i64 k.kind, .int .u64 k.s0, .int .u64 k.s1, .int .u64 k.s2, .int .u64 k.s3, .int .i64 k.lo, .int .i64 k.hi, .slice A n c] 29)) := (Below.refl _ _).alloc (Nat.le_refl _) _
  have HB := Lib.hid hb0
  clear hb0 hq
  go_enter Try.func131, Try.ntmps131
  go_wp2_with fail
  go_returns
  exact ⟨by first | rfl | simp, HB.out⟩

set_option maxRecDepth 100000 in
set_option maxHeartbeats 4000000 in
theorem idx38 (t : Tr) (kd : Int) (A : Option Addr) (n c p : Nat) (w : World) (h : TrIn w t A n) (hp : w.cell? ⟨p, 0, none⟩ = some (.int .i64 kd)) (hpl : p < w.heap.size) :
    Calls Try.prog 140 #[.slice A n c, .func (.func 131) #[] #[.pointer (some ⟨p, 0, none⟩)]] w fun e w' =>
      (∃ r : Int, e = .returned (.int .i64 r) ∧ decide (0 ≤ r) = anyK (fun k => decide (k.kind = kd)) t.kids n) ∧ Below w.heap.size w w' := by
  obtain ⟨KA, KN, KC, hk⟩ := h.out
  have hle := hk.le
  have hlen := hk.len
  have HK := Lib.hid hk
  clear h hk
  obtain ⟨f, hf⟩ : ∃ f : Tr → Bool, f = fun k => decide (k.kind = kd) := ⟨_, rfl⟩
  rw [← hf]
  have HF := Lib.hid hf
  clear hf
  go_enter Try.func140, Try.ntmps140
  go_wp2_with fail
  go_loopw [8] (fun i wr => ∃ k : Nat, k ≤ n ∧ i = .int .i64 k ∧ Below w.heap.size w wr ∧ ¬ AnyK f t.kids k) (fun i _ => n - (intOf i).toNat)
  case atStart => exact ⟨0, by omega, rfl, Below.refl _ _, fun ⟨j, hj, _⟩ => absurd hj (by omega)⟩
  case round =>
    obtain ⟨k, hkn, rfl, hb, hno⟩ := hrel
    obtain ⟨w3, rfl⟩ : ∃ w3 : World, w3 = wr := ⟨_, rfl⟩
    have HB := Lib.hid hb
    have HNO := Lib.hid hno
    have hp3 : w3.cell? ⟨p, 0, none⟩ = some (.int .i64 kd) := (hb.cell hpl).trans hp
    have hpl3 : p < w3.heap.size := Nat.lt_of_lt_of_le hpl hb.size
    clear hb hno
    by_cases hlt : k < n
    · obtain ⟨b, o, rfl, hbl, p0, p1, p2, p3, p4, p5, p6, p7⟩ := (HK.out.keep HB.out).eight hlt
      have hkid := (HK.out.keep HB.out).kid k hlt
      have hmem : t.kids.getD k noTr ∈ t.kids := getD_mem (by omega)
      obtain ⟨kid, hkid'⟩ : ∃ kid, kid = t.kids.getD k noTr := ⟨_, rfl⟩
      rw [← hkid'] at p0 p1 p2 p3 p4 p5 p6 hkid
      have HKE := Lib.hid hkid'
      clear hkid' hmem hkid
      have hval : decide (kid.kind = kd) = f kid := by rw [HF.out]
      obtain ⟨q, hq⟩ : ∃ q, q = f kid := ⟨_, rfl⟩
      have HQ := Lib.hid hq
      have HV := Lib.hid hval
      clear hq hval
      cases q with
      | true =>
        go_wp2_with (go_at_call 131; refine (clo38 kid kd _ _ _ p _ hp3 hpl3).mono ?_; rintro e w4 ⟨rfl, hb4⟩; rw [HV.out, ← HQ.out]; have HB4 := Lib.hid hb4; clear hb4)
        go_returns
        refine ⟨⟨_, rfl, ?_⟩, HB.out.trans (HB4.out.mono HB.out.size)⟩
        rw [anyK_yes ⟨k, hlt, by rw [← HKE.out]; exact HQ.out.symm⟩]
        simp
      | false =>
        go_wp2_with (go_at_call 131; refine (clo38 kid kd _ _ _ p _ hp3 hpl3).mono ?_; rintro e w4 ⟨rfl, hb4⟩; rw [HV.out, ← HQ.out]; have HB4 := Lib.hid hb4; clear hb4)
        go_roundw
        case rel => exact ⟨k + 1, by omega, by go_num, HB.out.trans (HB4.out.mono HB.out.size), fun ⟨j, hj, h9⟩ => by
                      by_cases e9 : j = k
                      · rw [e9, ← HKE.out, ← HQ.out] at h9; cases h9
                      · exact HNO.out ⟨j, by omega, h9⟩⟩
        case measure => simp [intOf]; omega
    · obtain rfl : k = n := by omega
      go_wp2_with fail
      go_returns
      exact ⟨⟨_, rfl, by rw [anyK_no HNO.out]; simp⟩, HB.out⟩

set_option maxRecDepth 100000 in
theorem cf38 (t : Tr) (kd : Int) (A : Option Addr) (n c p : Nat) (w : World) (h : TrIn w t A n) (hp : w.cell? ⟨p, 0, none⟩ = some (.int .i64 kd)) (hpl : p < w.heap.size) :
    Calls Try.prog 129 #[.slice A n c, .func (.func 131) #[] #[.pointer (some ⟨p, 0, none⟩)]] w fun e w' =>
      e = .returned (.bool (anyK (fun k => decide (k.kind = kd)) t.kids n)) ∧ Below w.heap.size w w' := by
  have HC := Lib.hid (idx38 t kd A n c p w h hp hpl)
  clear h
  go_enter Try.func129, Try.ntmps129
  go_wp2_with (go_at_call 140; refine HC.out.mono ?_; rintro e w4 ⟨⟨r, rfl, hr⟩, hb4⟩; have HB4 := Lib.hid hb4; have HR := Lib.hid hr; clear hb4 hr)
  go_returns
  exact ⟨by first | rfl | rw [← HR.out]; simp, HB4.out⟩

def ShapedAt (t : Tr) : Prop := ∀ (A : Option Addr) (n c : Nat) (w : World), TrIn w t A n →
  Calls Try.prog 102 #[.agg #[.int .i64 t.kind, .int .u64 t.s0, .int .u64 t.s1, .int .u64 t.s2, .int .u64 t.s3, .int .i64 t.lo, .int .i64 t.hi, .slice A n c]] w fun e w' =>
    e = .returned (.bool (shp t)) ∧ Below w.heap.size w w'

theorem clo39 (k : Tr) (ih : ShapedAt k) (A : Option Addr) (n c : Nat) (w : World) (h : TrIn w k A n) :
    Calls Try.prog 132 #[.agg #[.int .i64 k.kind, .int .u64 k.s0, .int .u64 k.s1, .int .u64 k.s2, .int .u64 k.s3, .int .i64 k.lo, .int .i64 k.hi, .slice A n c]] w fun e w' =>
      e = .returned (.bool (!shp k)) ∧ Below w.heap.size w w' := by
  obtain ⟨q, hq⟩ : ∃ q, q = shp k := ⟨_, rfl⟩
  rw [← hq]
  have HQ := Lib.hid hq
  clear hq
  have hb0 : Below w.heap.size w (w.alloc (.cells #[.int .i64 k.kind, .int .u64 k.s0, .int .u64 k.s1, .int .u64 k.s2, .int .u64 k.s3, .int .i64 k.lo, .int .i64 k.hi, .slice A n c] 29)) := (Below.refl _ _).alloc (Nat.le_refl _) _
  have HT := Lib.hid (h.keep hb0)
  have HB := Lib.hid hb0
  clear h hb0
  go_enter Try.func132, Try.ntmps132
  go_wp2_with (go_at_call 102; refine (ih A n c _ HT.out).mono ?_; rintro e w2 ⟨rfl, hb2⟩; rw [← HQ.out]; have HB2 := Lib.hid hb2; clear hb2)
  go_returns
  exact ⟨by first | rfl | simp, HB.out.trans (HB2.out.mono (by simp))⟩

set_option maxRecDepth 100000 in
set_option maxHeartbeats 4000000 in
theorem idx39 (t : Tr) (ih : ∀ k, k ∈ t.kids → ShapedAt k) (A : Option Addr) (n c : Nat) (w : World) (h : TrIn w t A n) :
    Calls Try.prog 140 #[.slice A n c, .func (.func 132) #[] #[]] w fun e w' =>
      (∃ r : Int, e = .returned (.int .i64 r) ∧ decide (0 ≤ r) = anyK (fun k => !shp k) t.kids n) ∧ Below w.heap.size w w' := by
  obtain ⟨KA, KN, KC, hk⟩ := h.out
  have hle := hk.le
  have hlen := hk.len
  have HK := Lib.hid hk
  clear h hk
  obtain ⟨f, hf⟩ : ∃ f : Tr → Bool, f = fun k => !shp k := ⟨_, rfl⟩
  rw [← hf]
  have HF := Lib.hid hf
  clear hf
  go_enter Try.func140, Try.ntmps140
  go_wp2_with fail
  go_loopw [8] (fun i wr => ∃ k : Nat, k ≤ n ∧ i = .int .i64 k ∧ Below w.heap.size w wr ∧ ¬ AnyK f t.kids k) (fun i _ => n - (intOf i).toNat)
  case atStart => exact ⟨0, by omega, rfl, Below.refl _ _, fun ⟨j, hj, _⟩ => absurd hj (by omega)⟩
  case round =>
    obtain ⟨k, hkn, rfl, hb, hno⟩ := hrel
    obtain ⟨w3, rfl⟩ : ∃ w3 : World, w3 = wr := ⟨_, rfl⟩
    have HB := Lib.hid hb
    have HNO := Lib.hid hno
    clear hb hno
    by_cases hlt : k < n
    · obtain ⟨b, o, rfl, hbl, p0, p1, p2, p3, p4, p5, p6, p7⟩ := (HK.out.keep HB.out).eight hlt
      have hkid := (HK.out.keep HB.out).kid k hlt
      have hmem : t.kids.getD k noTr ∈ t.kids := getD_mem (by omega)
      have IH := ih _ hmem
      obtain ⟨kid, hkid'⟩ : ∃ kid, kid = t.kids.getD k noTr := ⟨_, rfl⟩
      rw [← hkid'] at p0 p1 p2 p3 p4 p5 p6 hkid IH
      have HKE := Lib.hid hkid'
      have HKI := Lib.hid hkid
      have HIH := Lib.hid IH
      clear hkid' hmem hkid IH
      have hval : (!shp kid) = f kid := by rw [HF.out]
      obtain ⟨q, hq⟩ : ∃ q, q = f kid := ⟨_, rfl⟩
      have HQ := Lib.hid hq
      have HV := Lib.hid hval
      clear hq hval
      cases q with
      | true =>
        go_wp2_with (go_at_call 132; refine (clo39 kid HIH.out _ _ _ _ HKI.out).mono ?_; rintro e w4 ⟨rfl, hb4⟩; rw [HV.out, ← HQ.out]; have HB4 := Lib.hid hb4; clear hb4)
        go_returns
        refine ⟨⟨_, rfl, ?_⟩, HB.out.trans (HB4.out.mono HB.out.size)⟩
        rw [anyK_yes ⟨k, hlt, by rw [← HKE.out]; exact HQ.out.symm⟩]
        simp
      | false =>
        go_wp2_with (go_at_call 132; refine (clo39 kid HIH.out _ _ _ _ HKI.out).mono ?_; rintro e w4 ⟨rfl, hb4⟩; rw [HV.out, ← HQ.out]; have HB4 := Lib.hid hb4; clear hb4)
        go_roundw
        case rel => exact ⟨k + 1, by omega, by go_num, HB.out.trans (HB4.out.mono HB.out.size), fun ⟨j, hj, h9⟩ => by
                      by_cases e9 : j = k
                      · rw [e9, ← HKE.out, ← HQ.out] at h9; cases h9
                      · exact HNO.out ⟨j, by omega, h9⟩⟩
        case measure => simp [intOf]; omega
    · obtain rfl : k = n := by omega
      go_wp2_with fail
      go_returns
      exact ⟨⟨_, rfl, by rw [anyK_no HNO.out]; simp⟩, HB.out⟩

set_option maxRecDepth 100000 in
theorem cf39 (t : Tr) (ih : ∀ k, k ∈ t.kids → ShapedAt k) (A : Option Addr) (n c : Nat) (w : World) (h : TrIn w t A n) :
    Calls Try.prog 129 #[.slice A n c, .func (.func 132) #[] #[]] w fun e w' =>
      e = .returned (.bool (anyK (fun k => !shp k) t.kids n)) ∧ Below w.heap.size w w' := by
  have HC := Lib.hid (idx39 t ih A n c w h)
  clear h ih
  go_enter Try.func129, Try.ntmps129
  go_wp2_with (go_at_call 140; refine HC.out.mono ?_; rintro e w4 ⟨⟨r, rfl, hr⟩, hb4⟩; have HB4 := Lib.hid hb4; have HR := Lib.hid hr; clear hb4 hr)
  go_returns
  exact ⟨by first | rfl | rw [← HR.out]; simp, HB4.out⟩

theorem anyK_shp (t : Tr) (n : Nat) (hn : t.kids.length = n) (h : OkT t) : shp t = !anyK (fun k => !shp k) t.kids n := by
  by_cases hs : Shp t
  · rw [shp_yes hs, anyK_no]
    · rfl
    · rintro ⟨j, hj, h9⟩
      have h9 : (!shp (t.kids.getD j noTr)) = true := h9
      rw [shp_yes (hs.kid (getD_mem (by omega)))] at h9
      cases h9
  · rw [shp_no hs, anyK_yes]
    · rfl
    · refine Classical.byContradiction fun h9 => hs (.mk h fun k hk => ?_)
      obtain ⟨j, hj, rfl⟩ := List.getElem_of_mem hk
      refine Classical.byContradiction fun h8 => h9 ⟨j, by omega, ?_⟩
      show (!shp (t.kids.getD j noTr)) = true
      rw [show t.kids.getD j noTr = t.kids[j] by simp [hj], shp_no h8]
      rfl
end Go.Proofs.Ytfjgfabochiflaa
