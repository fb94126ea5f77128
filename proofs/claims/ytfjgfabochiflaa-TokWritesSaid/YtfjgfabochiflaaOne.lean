/- Which trees may be: the reference's one, every. -/
import Derived.Test.YtfjgfabochiflaaRNodes
namespace Go.Proofs.Ytfjgfabochiflaa
open Go.RowKit

theorem info22u : (Try.prog.info? 23).map (fun i => (i.zero, i.size, i.bytes)) = some (some (.int .u64 0), 1, 8) := by kernel_rfl
theorem cells22u : Try.prog.cellsOf 23 = 1 := by kernel_rfl
theorem eq23 (s0 s1 s2 s3 : Int) (W : World) : (Op.equalIn 9999 24 (.agg #[.int .u64 s0, .int .u64 s1, .int .u64 s2, .int .u64 s3]) (.agg #[.int .u64 0, .int .u64 0, .int .u64 0, .int .u64 0])).run Try.prog W = .ok (decide (s0 = 0 ∧ s1 = 0 ∧ s2 = 0 ∧ s3 = 0)) W := by
  obtain ⟨i, hi, _⟩ := info_parts info22u
  rw [run_equalIn_array W 9998 _ _ Try.underlying24 hi]
  by_cases h0 : s0 = 0 <;> by_cases h1 : s1 = 0 <;> by_cases h2 : s2 = 0 <;> by_cases h3 : s3 = 0 <;> simp [Op.eqItems, go_sem, cells22u, h0, h1, h2, h3]

/-- may a node be, its kids' own kids left aside? -/
def OkT (t : Tr) : Prop :=
  (t.kind = 1 ∧ t.lo = 0 ∧ t.hi = 0 ∧ t.kids.length = 0) ∨
  ((t.kind = 2 ∨ t.kind = 3) ∧ (t.s0 = 0 ∧ t.s1 = 0 ∧ t.s2 = 0 ∧ t.s3 = 0) ∧ t.lo = 0 ∧ t.hi = 0 ∧ t.kids.length ≠ 1 ∧ ¬ (t.kids.length = 0 ∧ t.kind = 3) ∧ ¬ AnyK (fun k => decide (k.kind = t.kind)) t.kids t.kids.length) ∨
  (t.kind = 4 ∧ (t.s0 = 0 ∧ t.s1 = 0 ∧ t.s2 = 0 ∧ t.s3 = 0) ∧ t.kids.length = 1 ∧ 0 ≤ t.lo ∧ t.lo ≤ 20 ∧ (t.hi = -1 ∨ (t.lo ≤ t.hi ∧ t.hi ≤ 20 ∧ ¬ (t.lo = 1 ∧ t.hi = 1))))
open Classical in
noncomputable def okT (t : Tr) : Bool := decide (OkT t)
inductive Shp : Tr → Prop
  | mk {t : Tr} : OkT t → (∀ k, k ∈ t.kids → Shp k) → Shp t
theorem Shp.ok {t : Tr} (h : Shp t) : OkT t := by cases h; assumption
theorem Shp.kid {t k : Tr} (h : Shp t) (hk : k ∈ t.kids) : Shp k := by cases h with | mk _ h => exact h k hk
open Classical in
noncomputable def shp (t : Tr) : Bool := decide (Shp t)
theorem shp_yes {t : Tr} (h : Shp t) : shp t = true := by unfold shp; simpa using h
theorem shp_no {t : Tr} (h : ¬ Shp t) : shp t = false := by unfold shp; simpa using h
theorem okT_yes {t : Tr} (h : OkT t) : okT t = true := by unfold okT; simpa using h
theorem okT_no {t : Tr} (h : ¬ OkT t) : okT t = false := by unfold okT; simpa using h

set_option maxRecDepth 100000 in
set_option maxHeartbeats 8000000 in
theorem one_any (t : Tr) (A : Option Addr) (n c : Nat) (w : World) (h : TrIn w t A n) :
    Calls Try.prog 107 #[.agg #[.int .i64 t.kind, .int .u64 t.s0, .int .u64 t.s1, .int .u64 t.s2, .int .u64 t.s3, .int .i64 t.lo, .int .i64 t.hi, .slice A n c]] w fun e w' =>
      e = .returned (.bool (okT t)) ∧ Below w.heap.size w w' := by
  have hb0 : Below w.heap.size w (w.alloc (.cells #[.int .i64 t.kind, .int .u64 t.s0, .int .u64 t.s1, .int .u64 t.s2, .int .u64 t.s3, .int .i64 t.lo, .int .i64 t.hi, .slice A n c] 29)) :=
    (Below.refl _ _).alloc (Nat.le_refl _) _
  obtain ⟨KA, KN, KC, hk⟩ := h.out
  have hlen := hk.len
  have hle := hk.le
  have HK := Lib.hid (hk.keep hb0)
  have HB := Lib.hid hb0
  clear hk h hb0
  obtain ⟨res, hres⟩ : ∃ res, res = okT t := ⟨_, rfl⟩
  rw [← hres]
  have HR := Lib.hid hres
  clear hres
  obtain ⟨z, hz⟩ : ∃ z, z = decide (t.s0 = 0 ∧ t.s1 = 0 ∧ t.s2 = 0 ∧ t.s3 = 0) := ⟨_, rfl⟩
  have heq := fun W => eq23 t.s0 t.s1 t.s2 t.s3 W
  rw [← hz] at heq
  have HZ := Lib.hid hz
  have hyes := okT_yes (t := t)
  have hno := okT_no (t := t)
  rw [← HR.out] at hyes hno
  have HY := Lib.hid hyes
  have HN := Lib.hid hno
  clear hz hyes hno
  by_cases k1 : t.kind = 1
  · have e1 : (t.kind == 1) = true := by simpa using k1
    have hok : OkT t ↔ t.lo = 0 ∧ t.hi = 0 ∧ n = 0 := by
      unfold OkT; rw [hlen]; omega
    have HOK := Lib.hid hok
    clear k1 hok heq
    by_cases c1 : t.lo = 0
    · have f1 : (t.lo == 0) = true := by simpa using c1
      by_cases c2 : t.hi = 0
      · have f2 : (t.hi == 0) = true := by simpa using c2
        by_cases c3 : n = 0
        · have f3 : ((n : Int) == 0) = true := by simpa using c3
          obtain rfl : res = true := HY.out (HOK.out.2 ⟨c1, c2, c3⟩)
          clear c1 c2 c3
          go_enter Try.func107, Try.ntmps107
          go_wp2_with fail
          go_returns
          exact ⟨by first | rfl | simp, HB.out⟩
        · have f3 : ((n : Int) == 0) = false := by simpa using c3
          obtain rfl : res = false := HN.out (fun h => c3 (HOK.out.1 h).2.2)
          clear c1 c2 c3
          go_enter Try.func107, Try.ntmps107
          go_wp2_with fail
          go_returns
          exact ⟨by first | rfl | simp, HB.out⟩
      · have f2 : (t.hi == 0) = false := by simpa using c2
        obtain rfl : res = false := HN.out (fun h => c2 (HOK.out.1 h).2.1)
        clear c1 c2
        go_enter Try.func107, Try.ntmps107
        go_wp2_with fail
        go_returns
        exact ⟨by first | rfl | simp, HB.out⟩
    · have f1 : (t.lo == 0) = false := by simpa using c1
      obtain rfl : res = false := HN.out (fun h => c1 (HOK.out.1 h).1)
      clear c1
      go_enter Try.func107, Try.ntmps107
      go_wp2_with fail
      go_returns
      exact ⟨by first | rfl | simp, HB.out⟩
  have e1 : (t.kind == 1) = false := by simpa using k1
  have q0 : (w.alloc (.cells #[.int .i64 t.kind, .int .u64 t.s0, .int .u64 t.s1, .int .u64 t.s2, .int .u64 t.s3, .int .i64 t.lo, .int .i64 t.hi, .slice A n c] 29)).cell? ⟨w.heap.size, 0, none⟩ = some (.int .i64 t.kind) := by simp
  have hgl : w.heap.size < (w.alloc (.cells #[.int .i64 t.kind, .int .u64 t.s0, .int .u64 t.s1, .int .u64 t.s2, .int .u64 t.s3, .int .i64 t.lo, .int .i64 t.hi, .slice A n c] 29)).heap.size := by simp
  by_cases k2 : t.kind = 2
  · have e2 : (t.kind == 2) = true := by simpa using k2
    have e3 : (t.kind == 3) = false := by simp; omega
    have hok : OkT t ↔ (t.s0 = 0 ∧ t.s1 = 0 ∧ t.s2 = 0 ∧ t.s3 = 0) ∧ t.lo = 0 ∧ t.hi = 0 ∧ n ≠ 1 ∧ ¬ AnyK (fun k => decide (k.kind = t.kind)) t.kids n := by
      unfold OkT; rw [hlen]
      constructor
      · rintro (h | ⟨_, h1, h2, h3, h4, h5, h6⟩ | h)
        · omega
        · exact ⟨h1, h2, h3, h4, h6⟩
        · omega
      · rintro ⟨h1, h2, h3, h4, h6⟩
        exact .inr (.inl ⟨.inl k2, h1, h2, h3, h4, by omega, h6⟩)
    have HOK := Lib.hid hok
    clear k1 k2 hok
    by_cases cz : t.s0 = 0 ∧ t.s1 = 0 ∧ t.s2 = 0 ∧ t.s3 = 0
    · obtain rfl : z = true := by rw [HZ.out]; simpa using cz
      by_cases c1 : t.lo = 0
      · have f_c1 : (t.lo != 0) = false := by simpa using c1
        by_cases c2 : t.hi = 0
        · have f_c2 : (t.hi != 0) = false := by simpa using c2
          by_cases c3 : n = 1
          · have f_c3 : ((n : Int) == 1) = true := by simp; omega --c3
            obtain rfl : res = false := HN.out (fun h => by have h9 := HOK.out.1 h; first | exact cz h9.1 | omega)
            clear cz c1 c2 c3
            go_enter Try.func107, Try.ntmps107
            go_wp2_with fail
            go_returns
            exact ⟨by first | rfl | simp, HB.out⟩
          · have f_c3 : ((n : Int) == 1) = false := by simp; omega --c3
            have hp2 : OkT t ↔ ¬ AnyK (fun k => decide (k.kind = t.kind)) t.kids n := HOK.out.trans ⟨fun h => h.2.2.2.2, fun h => ⟨cz, c1, c2, c3, h⟩⟩
            have HP := Lib.hid hp2
            clear cz c1 c2 c3 hp2
            by_cases c4 : n = 0
            · have f_c4 : ((n : Int) == 0) = true := by simpa using c4
              clear c4
              go_enter Try.func107, Try.ntmps107
              go_upto_region 9 with (fail)
              generalize w.alloc (.cells #[.int .i64 t.kind, .int .u64 t.s0, .int .u64 t.s1, .int .u64 t.s2, .int .u64 t.s3, .int .i64 t.lo, .int .i64 t.hi, .slice A n c] 29) = w1 at HK HB q0 hgl ⊢
              go_loopw [60] (fun i wr => ∃ k : Nat, k ≤ n ∧ i = .int .i64 k ∧ Below w1.heap.size w1 wr ∧ ¬ AnyK (fun k => decide (k.kind = t.kind)) t.kids k) (fun i _ => n - (intOf i).toNat)
              case atStart => exact ⟨0, by omega, rfl, Below.refl _ _, fun ⟨j, hj, _⟩ => absurd hj (by omega)⟩
              case round =>
                obtain ⟨k, hkn, rfl, hb, hno⟩ := hrel
                obtain ⟨w3, rfl⟩ : ∃ w3 : World, w3 = wr := ⟨_, rfl⟩
                have HBL := Lib.hid hb
                have HNO := Lib.hid hno
                have q3 : w3.cell? ⟨w.heap.size, 0, none⟩ = some (.int .i64 t.kind) := (hb.cell hgl).trans q0
                have hgl3 : w.heap.size < w3.heap.size := Nat.lt_of_lt_of_le hgl hb.size
                clear hb hno
                by_cases hlt : k < n
                · obtain ⟨b, o, rfl, hbl, p0, p1, p2, p3, p4, p5, p6, p7⟩ := (HK.out.keep HBL.out).eight hlt
                  have hble : Below w3.heap.size w3 (w3.alloc (.cells #[.int .i64 (t.kids.getD k noTr).kind, .int .u64 (t.kids.getD k noTr).s0, .int .u64 (t.kids.getD k noTr).s1, .int .u64 (t.kids.getD k noTr).s2, .int .u64 (t.kids.getD k noTr).s3, .int .i64 (t.kids.getD k noTr).lo, .int .i64 (t.kids.getD k noTr).hi, .slice (KA k) (KN k) (KC k)] 29)) := (Below.refl _ _).alloc (Nat.le_refl _) _
                  obtain ⟨kid, hkid'⟩ : ∃ kid, kid = t.kids.getD k noTr := ⟨_, rfl⟩
                  rw [← hkid'] at p0 p1 p2 p3 p4 p5 p6 hble
                  have HKE := Lib.hid hkid'
                  have HBE := Lib.hid hble
                  have q4 : (w3.alloc (.cells #[.int .i64 kid.kind, .int .u64 kid.s0, .int .u64 kid.s1, .int .u64 kid.s2, .int .u64 kid.s3, .int .i64 kid.lo, .int .i64 kid.hi, .slice (KA k) (KN k) (KC k)] 29)).cell? ⟨w.heap.size, 0, none⟩ = some (.int .i64 t.kind) := (World.cell?_alloc_lt _ _ _ hgl3).trans q3
                  clear hkid' hble
                  by_cases hke : kid.kind = t.kind
                  · have f_ke : (kid.kind == t.kind) = true := by simpa using hke
                    obtain rfl : res = false := HN.out (fun h => HP.out.1 h ⟨k, hlt, by rw [← HKE.out]; simpa using hke⟩)
                    clear hke
                    go_wp2_with fail
                    go_returns
                    exact ⟨by first | rfl | simp, HB.out.trans ((HBL.out.trans (HBE.out.mono HBL.out.size)).mono HB.out.size)⟩
                  · have f_ke : (kid.kind == t.kind) = false := by simpa using hke
                    have HKE2 := Lib.hid hke
                    clear hke
                    go_wp2_with fail
                    go_roundw
                    case rel => exact ⟨k + 1, by omega, by go_num, HBL.out.trans (HBE.out.mono HBL.out.size), fun ⟨j, hj, h9⟩ => by
                                  by_cases e9 : j = k
                                  · rw [e9, ← HKE.out] at h9; exact HKE2.out (by simpa using h9)
                                  · exact HNO.out ⟨j, by omega, h9⟩⟩
                    case measure => simp [intOf]; omega
                · obtain rfl : k = n := by omega
                  obtain rfl : res = true := HY.out (HP.out.2 HNO.out)
                  go_wp2_with fail
                  go_returns
                  exact ⟨by first | rfl | simp, HB.out.trans (HBL.out.mono HB.out.size)⟩
            · have f_c4 : ((n : Int) == 0) = false := by simpa using c4
              clear c4
              go_enter Try.func107, Try.ntmps107
              go_upto_region 9 with (fail)
              generalize w.alloc (.cells #[.int .i64 t.kind, .int .u64 t.s0, .int .u64 t.s1, .int .u64 t.s2, .int .u64 t.s3, .int .i64 t.lo, .int .i64 t.hi, .slice A n c] 29) = w1 at HK HB q0 hgl ⊢
              go_loopw [60] (fun i wr => ∃ k : Nat, k ≤ n ∧ i = .int .i64 k ∧ Below w1.heap.size w1 wr ∧ ¬ AnyK (fun k => decide (k.kind = t.kind)) t.kids k) (fun i _ => n - (intOf i).toNat)
              case atStart => exact ⟨0, by omega, rfl, Below.refl _ _, fun ⟨j, hj, _⟩ => absurd hj (by omega)⟩
              case round =>
                obtain ⟨k, hkn, rfl, hb, hno⟩ := hrel
                obtain ⟨w3, rfl⟩ : ∃ w3 : World, w3 = wr := ⟨_, rfl⟩
                have HBL := Lib.hid hb
                have HNO := Lib.hid hno
                have q3 : w3.cell? ⟨w.heap.size, 0, none⟩ = some (.int .i64 t.kind) := (hb.cell hgl).trans q0
                have hgl3 : w.heap.size < w3.heap.size := Nat.lt_of_lt_of_le hgl hb.size
                clear hb hno
                by_cases hlt : k < n
                · obtain ⟨b, o, rfl, hbl, p0, p1, p2, p3, p4, p5, p6, p7⟩ := (HK.out.keep HBL.out).eight hlt
                  have hble : Below w3.heap.size w3 (w3.alloc (.cells #[.int .i64 (t.kids.getD k noTr).kind, .int .u64 (t.kids.getD k noTr).s0, .int .u64 (t.kids.getD k noTr).s1, .int .u64 (t.kids.getD k noTr).s2, .int .u64 (t.kids.getD k noTr).s3, .int .i64 (t.kids.getD k noTr).lo, .int .i64 (t.kids.getD k noTr).hi, .slice (KA k) (KN k) (KC k)] 29)) := (Below.refl _ _).alloc (Nat.le_refl _) _
                  obtain ⟨kid, hkid'⟩ : ∃ kid, kid = t.kids.getD k noTr := ⟨_, rfl⟩
                  rw [← hkid'] at p0 p1 p2 p3 p4 p5 p6 hble
                  have HKE := Lib.hid hkid'
                  have HBE := Lib.hid hble
                  have q4 : (w3.alloc (.cells #[.int .i64 kid.kind, .int .u64 kid.s0, .int .u64 kid.s1, .int .u64 kid.s2, .int .u64 kid.s3, .int .i64 kid.lo, .int .i64 kid.hi, .slice (KA k) (KN k) (KC k)] 29)).cell? ⟨w.heap.size, 0, none⟩ = some (.int .i64 t.kind) := (World.cell?_alloc_lt _ _ _ hgl3).trans q3
                  clear hkid' hble
                  by_cases hke : kid.kind = t.kind
                  · have f_ke : (kid.kind == t.kind) = true := by simpa using hke
                    obtain rfl : res = false := HN.out (fun h => HP.out.1 h ⟨k, hlt, by rw [← HKE.out]; simpa using hke⟩)
                    clear hke
                    go_wp2_with fail
                    go_returns
                    exact ⟨by first | rfl | simp, HB.out.trans ((HBL.out.trans (HBE.out.mono HBL.out.size)).mono HB.out.size)⟩
                  · have f_ke : (kid.kind == t.kind) = false := by simpa using hke
                    have HKE2 := Lib.hid hke
                    clear hke
                    go_wp2_with fail
                    go_roundw
                    case rel => exact ⟨k + 1, by omega, by go_num, HBL.out.trans (HBE.out.mono HBL.out.size), fun ⟨j, hj, h9⟩ => by
                                  by_cases e9 : j = k
                                  · rw [e9, ← HKE.out] at h9; exact HKE2.out (by simpa using h9)
                                  · exact HNO.out ⟨j, by omega, h9⟩⟩
                    case measure => simp [intOf]; omega
                · obtain rfl : k = n := by omega
                  obtain rfl : res = true := HY.out (HP.out.2 HNO.out)
                  go_wp2_with fail
                  go_returns
                  exact ⟨by first | rfl | simp, HB.out.trans (HBL.out.mono HB.out.size)⟩
        · have f_c2 : (t.hi != 0) = true := by simpa using c2
          obtain rfl : res = false := HN.out (fun h => by have h9 := HOK.out.1 h; first | exact cz h9.1 | omega)
          clear cz c1 c2
          go_enter Try.func107, Try.ntmps107
          go_wp2_with fail
          go_returns
          exact ⟨by first | rfl | simp, HB.out⟩
      · have f_c1 : (t.lo != 0) = true := by simpa using c1
        obtain rfl : res = false := HN.out (fun h => by have h9 := HOK.out.1 h; first | exact cz h9.1 | omega)
        clear cz c1
        go_enter Try.func107, Try.ntmps107
        go_wp2_with fail
        go_returns
        exact ⟨by first | rfl | simp, HB.out⟩
    · obtain rfl : z = false := by rw [HZ.out]; simpa using cz
      obtain rfl : res = false := HN.out (fun h => by have h9 := HOK.out.1 h; first | exact cz h9.1 | omega)
      clear cz
      go_enter Try.func107, Try.ntmps107
      go_wp2_with fail
      go_returns
      exact ⟨by first | rfl | simp, HB.out⟩
  have e2 : (t.kind == 2) = false := by simpa using k2
  by_cases k3 : t.kind = 3
  · have e3 : (t.kind == 3) = true := by simpa using k3
    have hok : OkT t ↔ (t.s0 = 0 ∧ t.s1 = 0 ∧ t.s2 = 0 ∧ t.s3 = 0) ∧ t.lo = 0 ∧ t.hi = 0 ∧ n ≠ 1 ∧ n ≠ 0 ∧ ¬ AnyK (fun k => decide (k.kind = t.kind)) t.kids n := by
      unfold OkT; rw [hlen]
      constructor
      · rintro (h | ⟨_, h1, h2, h3, h4, h5, h6⟩ | h)
        · omega
        · exact ⟨h1, h2, h3, h4, fun h0 => h5 ⟨h0, k3⟩, h6⟩
        · omega
      · rintro ⟨h1, h2, h3, h4, h5, h6⟩
        exact .inr (.inl ⟨.inr k3, h1, h2, h3, h4, fun h0 => h5 h0.1, h6⟩)
    have HOK := Lib.hid hok
    clear k1 k2 k3 hok
    by_cases cz : t.s0 = 0 ∧ t.s1 = 0 ∧ t.s2 = 0 ∧ t.s3 = 0
    · obtain rfl : z = true := by rw [HZ.out]; simpa using cz
      by_cases c1 : t.lo = 0
      · have f_c1 : (t.lo != 0) = false := by simpa using c1
        by_cases c2 : t.hi = 0
        · have f_c2 : (t.hi != 0) = false := by simpa using c2
          by_cases c3 : n = 1
          · have f_c3 : ((n : Int) == 1) = true := by simp; omega --c3
            obtain rfl : res = false := HN.out (fun h => by have h9 := HOK.out.1 h; first | exact cz h9.1 | omega)
            clear cz c1 c2 c3
            go_enter Try.func107, Try.ntmps107
            go_wp2_with fail
            go_returns
            exact ⟨by first | rfl | simp, HB.out⟩
          · have f_c3 : ((n : Int) == 1) = false := by simp; omega --c3
            by_cases c4 : n = 0
            · have f_c4 : ((n : Int) == 0) = true := by simp; omega --c4
              obtain rfl : res = false := HN.out (fun h => by have h9 := HOK.out.1 h; first | exact cz h9.1 | omega)
              clear cz c1 c2 c3 c4
              go_enter Try.func107, Try.ntmps107
              go_wp2_with fail
              go_returns
              exact ⟨by first | rfl | simp, HB.out⟩
            · have f_c4 : ((n : Int) == 0) = false := by simp; omega --c4
              have hp2 : OkT t ↔ ¬ AnyK (fun k => decide (k.kind = t.kind)) t.kids n := HOK.out.trans ⟨fun h => h.2.2.2.2.2, fun h => ⟨cz, c1, c2, c3, c4, h⟩⟩
              have HP := Lib.hid hp2
              clear cz c1 c2 c3 c4 hp2
              go_enter Try.func107, Try.ntmps107
              go_upto_region 9 with (fail)
              generalize w.alloc (.cells #[.int .i64 t.kind, .int .u64 t.s0, .int .u64 t.s1, .int .u64 t.s2, .int .u64 t.s3, .int .i64 t.lo, .int .i64 t.hi, .slice A n c] 29) = w1 at HK HB q0 hgl ⊢
              go_loopw [60] (fun i wr => ∃ k : Nat, k ≤ n ∧ i = .int .i64 k ∧ Below w1.heap.size w1 wr ∧ ¬ AnyK (fun k => decide (k.kind = t.kind)) t.kids k) (fun i _ => n - (intOf i).toNat)
              case atStart => exact ⟨0, by omega, rfl, Below.refl _ _, fun ⟨j, hj, _⟩ => absurd hj (by omega)⟩
              case round =>
                obtain ⟨k, hkn, rfl, hb, hno⟩ := hrel
                obtain ⟨w3, rfl⟩ : ∃ w3 : World, w3 = wr := ⟨_, rfl⟩
                have HBL := Lib.hid hb
                have HNO := Lib.hid hno
                have q3 : w3.cell? ⟨w.heap.size, 0, none⟩ = some (.int .i64 t.kind) := (hb.cell hgl).trans q0
                have hgl3 : w.heap.size < w3.heap.size := Nat.lt_of_lt_of_le hgl hb.size
                clear hb hno
                by_cases hlt : k < n
                · obtain ⟨b, o, rfl, hbl, p0, p1, p2, p3, p4, p5, p6, p7⟩ := (HK.out.keep HBL.out).eight hlt
                  have hble : Below w3.heap.size w3 (w3.alloc (.cells #[.int .i64 (t.kids.getD k noTr).kind, .int .u64 (t.kids.getD k noTr).s0, .int .u64 (t.kids.getD k noTr).s1, .int .u64 (t.kids.getD k noTr).s2, .int .u64 (t.kids.getD k noTr).s3, .int .i64 (t.kids.getD k noTr).lo, .int .i64 (t.kids.getD k noTr).hi, .slice (KA k) (KN k) (KC k)] 29)) := (Below.refl _ _).alloc (Nat.le_refl _) _
                  obtain ⟨kid, hkid'⟩ : ∃ kid, kid = t.kids.getD k noTr := ⟨_, rfl⟩
                  rw [← hkid'] at p0 p1 p2 p3 p4 p5 p6 hble
                  have HKE := Lib.hid hkid'
                  have HBE := Lib.hid hble
                  have q4 : (w3.alloc (.cells #[.int .i64 kid.kind, .int .u64 kid.s0, .int .u64 kid.s1, .int .u64 kid.s2, .int .u64 kid.s3, .int .i64 kid.lo, .int .i64 kid.hi, .slice (KA k) (KN k) (KC k)] 29)).cell? ⟨w.heap.size, 0, none⟩ = some (.int .i64 t.kind) := (World.cell?_alloc_lt _ _ _ hgl3).trans q3
                  clear hkid' hble
                  by_cases hke : kid.kind = t.kind
                  · have f_ke : (kid.kind == t.kind) = true := by simpa using hke
                    obtain rfl : res = false := HN.out (fun h => HP.out.1 h ⟨k, hlt, by rw [← HKE.out]; simpa using hke⟩)
                    clear hke
                    go_wp2_with fail
                    go_returns
                    exact ⟨by first | rfl | simp, HB.out.trans ((HBL.out.trans (HBE.out.mono HBL.out.size)).mono HB.out.size)⟩
                  · have f_ke : (kid.kind == t.kind) = false := by simpa using hke
                    have HKE2 := Lib.hid hke
                    clear hke
                    go_wp2_with fail
                    go_roundw
                    case rel => exact ⟨k + 1, by omega, by go_num, HBL.out.trans (HBE.out.mono HBL.out.size), fun ⟨j, hj, h9⟩ => by
                                  by_cases e9 : j = k
                                  · rw [e9, ← HKE.out] at h9; exact HKE2.out (by simpa using h9)
                                  · exact HNO.out ⟨j, by omega, h9⟩⟩
                    case measure => simp [intOf]; omega
                · obtain rfl : k = n := by omega
                  obtain rfl : res = true := HY.out (HP.out.2 HNO.out)
                  go_wp2_with fail
                  go_returns
                  exact ⟨by first | rfl | simp, HB.out.trans (HBL.out.mono HB.out.size)⟩
        · have f_c2 : (t.hi != 0) = true := by simpa using c2
          obtain rfl : res = false := HN.out (fun h => by have h9 := HOK.out.1 h; first | exact cz h9.1 | omega)
          clear cz c1 c2
          go_enter Try.func107, Try.ntmps107
          go_wp2_with fail
          go_returns
          exact ⟨by first | rfl | simp, HB.out⟩
      · have f_c1 : (t.lo != 0) = true := by simpa using c1
        obtain rfl : res = false := HN.out (fun h => by have h9 := HOK.out.1 h; first | exact cz h9.1 | omega)
        clear cz c1
        go_enter Try.func107, Try.ntmps107
        go_wp2_with fail
        go_returns
        exact ⟨by first | rfl | simp, HB.out⟩
    · obtain rfl : z = false := by rw [HZ.out]; simpa using cz
      obtain rfl : res = false := HN.out (fun h => by have h9 := HOK.out.1 h; first | exact cz h9.1 | omega)
      clear cz
      go_enter Try.func107, Try.ntmps107
      go_wp2_with fail
      go_returns
      exact ⟨by first | rfl | simp, HB.out⟩
  have e3 : (t.kind == 3) = false := by simpa using k3
  by_cases k4 : t.kind = 4
  · have e4 : (t.kind == 4) = true := by simpa using k4
    have hok : OkT t ↔ (t.s0 = 0 ∧ t.s1 = 0 ∧ t.s2 = 0 ∧ t.s3 = 0) ∧ n = 1 ∧ 0 ≤ t.lo ∧ t.lo ≤ 20 ∧ (t.hi = -1 ∨ (t.lo ≤ t.hi ∧ t.hi ≤ 20 ∧ ¬ (t.lo = 1 ∧ t.hi = 1))) := by
      unfold OkT; rw [hlen]; omega
    have HOK := Lib.hid hok
    clear k1 k2 k3 k4 hok
    by_cases cz : t.s0 = 0 ∧ t.s1 = 0 ∧ t.s2 = 0 ∧ t.s3 = 0
    · obtain rfl : z = true := by rw [HZ.out]; simpa using cz
      by_cases c1 : n = 1
      · have f_c1 : ((n : Int) != 1) = false := by simp; omega
        by_cases c2 : t.lo < 0
        · have f_c2 : decide (t.lo < 0) = true := by simpa using c2
          obtain rfl : res = false := HN.out (fun h => by have := HOK.out.1 h; omega)
          clear cz c1 c2
          go_enter Try.func107, Try.ntmps107
          go_wp2_with fail
          go_returns
          exact ⟨by first | rfl | simp, HB.out⟩
        · have f_c2 : decide (t.lo < 0) = false := by simpa using c2
          by_cases c3 : 20 < t.lo
          · have f_c3 : decide (20 < t.lo) = true := by simpa using c3
            obtain rfl : res = false := HN.out (fun h => by have := HOK.out.1 h; omega)
            clear cz c1 c2 c3
            go_enter Try.func107, Try.ntmps107
            go_wp2_with fail
            go_returns
            exact ⟨by first | rfl | simp, HB.out⟩
          · have f_c3 : decide (20 < t.lo) = false := by simpa using c3
            by_cases d1 : t.hi = -1
            · have f_d1 : (t.hi == -1) = true := by simpa using d1
              obtain rfl : res = true := HY.out (HOK.out.2 (by omega))
              clear cz c1 c2 c3 d1
              go_enter Try.func107, Try.ntmps107
              go_wp2_with fail
              go_returns
              exact ⟨by first | rfl | simp, HB.out⟩
            · have f_d1 : (t.hi == -1) = false := by simpa using d1
              by_cases d2 : t.lo ≤ t.hi
              · have f_d2 : decide (t.lo ≤ t.hi) = true := by simpa using d2
                by_cases d3 : t.hi ≤ 20
                · have f_d3 : decide (t.hi ≤ 20) = true := by simpa using d3
                  by_cases d4 : t.lo = 1
                  · have f_d4 : (t.lo != 1) = false := by simpa using d4
                    by_cases d5 : t.hi = 1
                    · have f_d5 : (t.hi != 1) = false := by simpa using d5
                      obtain rfl : res = false := HN.out (fun h => by have := HOK.out.1 h; omega)
                      clear cz c1 c2 c3 d1 d2 d3 d4 d5
                      go_enter Try.func107, Try.ntmps107
                      go_wp2_with fail
                      go_returns
                      exact ⟨by first | rfl | simp, HB.out⟩
                    · have f_d5 : (t.hi != 1) = true := by simpa using d5
                      obtain rfl : res = true := HY.out (HOK.out.2 (by omega))
                      clear cz c1 c2 c3 d1 d2 d3 d4 d5
                      go_enter Try.func107, Try.ntmps107
                      go_wp2_with fail
                      go_returns
                      exact ⟨by first | rfl | simp, HB.out⟩
                  · have f_d4 : (t.lo != 1) = true := by simpa using d4
                    obtain rfl : res = true := HY.out (HOK.out.2 (by omega))
                    clear cz c1 c2 c3 d1 d2 d3 d4
                    go_enter Try.func107, Try.ntmps107
                    go_wp2_with fail
                    go_returns
                    exact ⟨by first | rfl | simp, HB.out⟩
                · have f_d3 : decide (t.hi ≤ 20) = false := by simpa using d3
                  obtain rfl : res = false := HN.out (fun h => by have := HOK.out.1 h; omega)
                  clear cz c1 c2 c3 d1 d2 d3
                  go_enter Try.func107, Try.ntmps107
                  go_wp2_with fail
                  go_returns
                  exact ⟨by first | rfl | simp, HB.out⟩
              · have f_d2 : decide (t.lo ≤ t.hi) = false := by simpa using d2
                obtain rfl : res = false := HN.out (fun h => by have := HOK.out.1 h; omega)
                clear cz c1 c2 c3 d1 d2
                go_enter Try.func107, Try.ntmps107
                go_wp2_with fail
                go_returns
                exact ⟨by first | rfl | simp, HB.out⟩
      · have f_c1 : ((n : Int) != 1) = true := by simp; omega
        obtain rfl : res = false := HN.out (fun h => by have := HOK.out.1 h; omega)
        clear cz c1
        go_enter Try.func107, Try.ntmps107
        go_wp2_with fail
        go_returns
        exact ⟨by first | rfl | simp, HB.out⟩
    · obtain rfl : z = false := by rw [HZ.out]; simpa using cz
      obtain rfl : res = false := HN.out (fun h => by have := HOK.out.1 h; omega)
      clear cz
      go_enter Try.func107, Try.ntmps107
      go_wp2_with fail
      go_returns
      exact ⟨by first | rfl | simp, HB.out⟩
  · have e4 : (t.kind == 4) = false := by simpa using k4
    obtain rfl : res = false := HN.out (by unfold OkT; omega)
    clear k1 k2 k3 k4
    go_enter Try.func107, Try.ntmps107
    go_wp2_with fail
    go_returns
    exact ⟨by first | rfl | simp, HB.out⟩
end Go.Proofs.Ytfjgfabochiflaa
