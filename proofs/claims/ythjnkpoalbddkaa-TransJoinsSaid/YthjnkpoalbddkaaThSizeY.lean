/- Then, where it refuses; the reference's Size, large, tiny. -/
import Derived.Test.YthjnkpoalbddkaaThThenY
namespace Go.Proofs.Ythjnkpoalbddkaa
open Go.RowKit
/-- a machine's box -/
theorem box_new (w : World) (A0 A1 A2 A3 : Option Addr) (n0 n1 n2 n3 c0 c1 c2 c3 : Nat) : Blk (w.alloc (.cells #[.slice A0 n0 c0, .slice A1 n1 c1, .slice A2 n2 c2, .slice A3 n3 c3] 42)) w.heap.size 42 [.slice A0 n0 c0, .slice A1 n1 c1, .slice A2 n2 c2, .slice A3 n3 c3] := Blk.new w 42 _
set_option maxRecDepth 100000 in
set_option maxHeartbeats 8000000 in
theorem tthen_no (A0 A1 A2 A3 B0 B1 B2 B3 : Option Addr) (n0 n1 n2 n3 c0 c1 c2 c3 k0 k1 k2 k3 d0 d1 d2 d3 : Nat) (a b : Mach) (RAa : Nat → Option Addr) (rca : Nat → Nat) (PAa : Nat → Option Addr) (pca : Nat → Nat) (RAb : Nat → Option Addr) (rcb : Nat → Nat) (PAb : Nat → Option Addr) (pcb : Nat → Nat) (w : World)
    (hma : MachIn w A0 A1 A2 A3 n0 n1 n2 n3 a RAa rca PAa pca) (hmb : MachIn w B0 B1 B2 B3 k0 k1 k2 k3 b RAb rcb PAb pcb) (hn : (rightM a && rightM b) = false) :
    Calls Try.prog 32 #[.agg #[.slice A0 n0 c0, .slice A1 n1 c1, .slice A2 n2 c2, .slice A3 n3 c3], .agg #[.slice B0 k0 d0, .slice B1 k1 d1, .slice B2 k2 d2, .slice B3 k3 d3]] w
      fun e w' => e = .returned (.tuple #[.agg #[.slice none 0 0, .slice none 0 0, .slice none 0 0, .slice none 0 0], .int .i64 120]) ∧ Below w.heap.size w w' := by
  obtain ⟨W1, hW1⟩ : ∃ W1, W1 = ((w.alloc (.cells #[.slice A0 n0 c0, .slice A1 n1 c1, .slice A2 n2 c2, .slice A3 n3 c3] 42)).alloc (.cells #[.slice B0 k0 d0, .slice B1 k1 d1, .slice B2 k2 d2, .slice B3 k3 d3] 42)).alloc (.cells MP.z4.toArray 42) := ⟨_, rfl⟩
  have hs1 : (w.alloc (.cells #[.slice A0 n0 c0, .slice A1 n1 c1, .slice A2 n2 c2, .slice A3 n3 c3] 42)).heap.size = w.heap.size + 1 := by simp
  have hbel : Below w.heap.size w W1 := by rw [hW1]; exact (((Below.refl _ _).alloc (Nat.le_refl _) _).alloc (by simp) _).alloc (by simp; omega) _
  have hxa : Blk W1 w.heap.size 42 [.slice A0 n0 c0, .slice A1 n1 c1, .slice A2 n2 c2, .slice A3 n3 c3] := by rw [hW1]; exact ((Blk.new w 42 _).alloc _).alloc _
  have hxb : Blk W1 (w.heap.size + 1) 42 [.slice B0 k0 d0, .slice B1 k1 d1, .slice B2 k2 d2, .slice B3 k3 d3] := by
    rw [hW1]
    refine Blk.alloc ?_ _
    have := Blk.new (w.alloc (.cells #[.slice A0 n0 c0, .slice A1 n1 c1, .slice A2 n2 c2, .slice A3 n3 c3] 42)) 42 [.slice B0 k0 d0, .slice B1 k1 d1, .slice B2 k2 d2, .slice B3 k3 d3]
    rw [hs1] at this
    exact this
  have hxr : Blk W1 (w.heap.size + 1 + 1) 42 MP.z4 := by
    rw [hW1]
    have := Blk.new ((w.alloc (.cells #[.slice A0 n0 c0, .slice A1 n1 c1, .slice A2 n2 c2, .slice A3 n3 c3] 42)).alloc (.cells #[.slice B0 k0 d0, .slice B1 k1 d1, .slice B2 k2 d2, .slice B3 k3 d3] 42)) 42 MP.z4
    simpa using this
  have H0 := Lib.hid (And.intro hbel (And.intro hxa (And.intro hxb hxr)))
  have HA := Lib.hid hma
  have HB := Lib.hid hmb
  have a0 := hxa.cell 0
  have a1 := hxa.cell 1
  have a2 := hxa.cell 2
  have a3 := hxa.cell 3
  simp only [List.getElem?_cons_zero, List.getElem?_cons_succ] at a0 a1 a2 a3
  have HW1 := Lib.hid hW1
  obtain ⟨ra, hra⟩ : ∃ ra, ra = rightM a := ⟨_, rfl⟩
  obtain ⟨rb, hrb⟩ : ∃ rb, rb = rightM b := ⟨_, rfl⟩
  have HN := Lib.hid hn
  rw [← hra, ← hrb] at HN
  have HRA := Lib.hid hra
  have HRB := Lib.hid hrb
  clear hbel hxa hxb hxr hma hmb hs1 hW1 hn hra hrb
  go_enter Try.func32, Try.ntmps32
  go_upto_region 1 with (fail)
  rw [show ((w.alloc (.cells #[.slice A0 n0 c0, .slice A1 n1 c1, .slice A2 n2 c2, .slice A3 n3 c3] 42)).alloc (.cells #[.slice B0 k0 d0, .slice B1 k1 d1, .slice B2 k2 d2, .slice B3 k3 d3] 42)).alloc (.cells #[.slice none 0 0, .slice none 0 0, .slice none 0 0, .slice none 0 0] 42) = W1 from HW1.out.symm]
  clear HW1
  have hgrw : w.heap.size ≤ w.heap.size + 1 + 1 := by omega
  have HGW := Lib.hid hgrw
  clear hgrw
  go_wp2_with fail
  refine (tright_any _ _ _ _ _ _ _ _ c0 c1 c2 c3 a RAa rca PAa pca _ (HA.out.keep H0.out.1)).mono ?_
  rw [← HRA.out]
  rintro e W2 ⟨rfl, hb2⟩
  have H2 := Lib.hid (And.intro (H0.out.1.trans (hb2.mono H0.out.1.size)) (And.intro (H0.out.2.2.1.below hb2 H0.out.2.2.1.lt) (H0.out.2.2.2.below hb2 H0.out.2.2.2.lt)))
  clear hb2 a0 a1 a2 a3 H0
  cases ra with
  | false =>
    have r0 := H2.out.2.2.cell 0
    have r1 := H2.out.2.2.cell 1
    have r2 := H2.out.2.2.cell 2
    have r3 := H2.out.2.2.cell 3
    have e0 := H2.out.2.2.frozen 0
    have e1 := H2.out.2.2.frozen 1
    have e2 := H2.out.2.2.frozen 2
    have e3 := H2.out.2.2.frozen 3
    simp only [MP.z4, List.getElem?_cons_zero, List.getElem?_cons_succ] at r0 r1 r2 r3
    have HZ := Lib.hid (MP.four_set H2.out.2.2 (.slice none 0 0) (.slice none 0 0) (.slice none 0 0) (.slice none 0 0))
    go_wp2_with fail
    refine bodyPost_ret (MP.res_mach rfl _ rfl HZ.out.1) rfl ?_
    exact ⟨rfl, H2.out.1.trans (HZ.out.2.below H2.out.1.size (fun k hk => by rw [hk]; exact HGW.out))⟩
  | true =>
    have hrb : rb = false := by simpa using HN.out
    subst hrb
    have b0 := H2.out.2.1.cell 0
    have b1 := H2.out.2.1.cell 1
    have b2 := H2.out.2.1.cell 2
    have b3 := H2.out.2.1.cell 3
    simp only [List.getElem?_cons_zero, List.getElem?_cons_succ] at b0 b1 b2 b3
    go_wp2_with fail
    refine (tright_any _ _ _ _ _ _ _ _ d0 d1 d2 d3 b RAb rcb PAb pcb _ (HB.out.keep H2.out.1)).mono ?_
    rw [← HRB.out]
    rintro e W3 ⟨rfl, hb3⟩
    have H3 := Lib.hid (And.intro (H2.out.1.trans (hb3.mono H2.out.1.size)) (H2.out.2.2.below hb3 H2.out.2.2.lt))
    clear hb3 b0 b1 b2 b3 H2
    have r0 := H3.out.2.cell 0
    have r1 := H3.out.2.cell 1
    have r2 := H3.out.2.cell 2
    have r3 := H3.out.2.cell 3
    have e0 := H3.out.2.frozen 0
    have e1 := H3.out.2.frozen 1
    have e2 := H3.out.2.frozen 2
    have e3 := H3.out.2.frozen 3
    simp only [MP.z4, List.getElem?_cons_zero, List.getElem?_cons_succ] at r0 r1 r2 r3
    have HZ := Lib.hid (MP.four_set H3.out.2 (.slice none 0 0) (.slice none 0 0) (.slice none 0 0) (.slice none 0 0))
    go_wp2_with fail
    refine bodyPost_ret (MP.res_mach rfl _ rfl HZ.out.1) rfl ?_
    exact ⟨rfl, H3.out.1.trans (HZ.out.2.below H3.out.1.size (fun k hk => by rw [hk]; exact HGW.out))⟩
/-- the longest text -/
def mostT (l : List ByteArray) (k : Nat) : Nat := (l.take k).foldl (fun x t => max x t.size) 0
theorem mostT_succ {l : List ByteArray} {k : Nat} {t : ByteArray} (h : l[k]? = some t) : mostT l (k + 1) = max (mostT l k) t.size := by
  unfold mostT
  rw [List.take_add_one, h]
  simp [List.foldl_append]
theorem mostT_ge {l : List ByteArray} {k j : Nat} (hj : j < k) (hk : k ≤ l.length) : (l.getD j ⟨#[]⟩).size ≤ mostT l k := by
  induction k with
  | zero => omega
  | succ k ih =>
    have h1 := List.getElem?_eq_getElem (show k < l.length by omega)
    rw [mostT_succ h1]
    by_cases e : j = k
    · subst e
      rw [List.getD_eq_getElem?_getD, h1]
      exact Nat.le_max_right _ _
    · exact Nat.le_trans (ih (by omega) (by omega)) (Nat.le_max_left _ _)
theorem mostT_le {l : List ByteArray} {k B : Nat} (hk : k ≤ l.length) (h : ∀ j, j < k → (l.getD j ⟨#[]⟩).size ≤ B) : mostT l k ≤ B := by
  induction k with
  | zero => unfold mostT; simp
  | succ k ih =>
    have h1 := List.getElem?_eq_getElem (show k < l.length by omega)
    rw [mostT_succ h1]
    have h2 := ih (by omega) (fun j hj => h j (by omega))
    have h3 := h k (by omega)
    rw [List.getD_eq_getElem?_getD, h1] at h3
    simp only [Option.getD_some] at h3
    omega
end Go.Proofs.Ythjnkpoalbddkaa
namespace Go.Proofs.Ythjnkpoalbddkaa
open Go.RowKit
set_option maxRecDepth 100000 in
set_option maxHeartbeats 8000000 in
theorem size_any (A0 A1 A2 A3 : Option Addr) (n0 n1 n2 n3 c0 c1 c2 c3 : Nat) (m : Mach) (RA : Nat → Option Addr) (rc : Nat → Nat) (PA : Nat → Option Addr) (pc : Nat → Nat) (w : World) (h : MachIn w A0 A1 A2 A3 n0 n1 n2 n3 m RA rc PA pc) :
    Calls Try.prog 52 #[.agg #[.slice A0 n0 c0, .slice A1 n1 c1, .slice A2 n2 c2, .slice A3 n3 c3]] w fun e w' => (∃ x : Int, e = .returned (.tuple #[.int .i64 x, .int .i64 (mostT m.texts n3 : Nat)])) ∧ Below w.heap.size w w' := by
  have hb0 : Below w.heap.size w (w.alloc (.cells #[.slice A0 n0 c0, .slice A1 n1 c1, .slice A2 n2 c2, .slice A3 n3 c3] 42)) := (Below.refl _ _).alloc (Nat.le_refl _) _
  have HM := Lib.hid (h.keep hb0)
  have hx := box_new w A0 A1 A2 A3 n0 n1 n2 n3 c0 c1 c2 c3
  have x3 := hx.cell 3
  simp only [List.getElem?_cons_zero, List.getElem?_cons_succ] at x3
  have HB := Lib.hid hb0
  have htl := h.tlen
  have htle := h.tle
  have HTL := Lib.hid htl
  clear h hb0 hx htl
  go_enter Try.func52, Try.ntmps52
  go_wp2_with fail
  generalize w.alloc (.cells #[.slice A0 n0 c0, .slice A1 n1 c1, .slice A2 n2 c2, .slice A3 n3 c3] 42) = w1 at HM HB x3 ⊢
  go_loopw [4, 5, 11] (fun s mo x wr => ∃ (k : Nat) (v : Int), k ≤ n3 ∧ x = .int .i64 k ∧ s = .int .i64 v ∧ mo = .int .i64 (mostT m.texts k : Nat) ∧ wr = w1) (fun _ _ x _ => n3 - (intOf x).toNat)
  case atStart => exact ⟨0, 0, by omega, rfl, rfl, by simp [mostT], rfl⟩
  case round =>
    obtain ⟨k, v, hk, rfl, rfl, rfl, rfl⟩ := hrel
    obtain ⟨q, hq⟩ : ∃ q, q = mostT m.texts k := ⟨_, rfl⟩
    rw [← hq]
    have HQ := Lib.hid hq
    clear hq
    by_cases hlt : k < n3
    · obtain ⟨b3, o3, e3, _, hc3⟩ := HM.out.tarr.one (k := k) hlt
      subst e3
      unfold StrC at hc3
      obtain ⟨t, ht⟩ : ∃ t, t = m.texts.getD k ⟨#[]⟩ := ⟨_, rfl⟩
      rw [← ht] at hc3
      have hms : mostT m.texts (k + 1) = max q t.size := by
        have h1 := List.getElem?_eq_getElem (show k < m.texts.length by have := HTL.out; omega)
        have h2 : m.texts[k]? = some t := by
          rw [ht, List.getD_eq_getElem?_getD, h1]; rfl
        rw [mostT_succ h2, ← HQ.out]
      have HMS := Lib.hid hms
      have hlk : (k : Int) < (n3 : Int) := by omega
      clear ht hms
      by_cases hbig : q < t.size
      · have d1 : decide ((q : Int) < (t.size : Int)) = true := by simp; omega
        go_wp2_with fail
        go_roundw
        case rel => exact ⟨k + 1, _, by omega, by go_num, rfl, by rw [HMS.out]; congr 2; omega, by first | rfl | trivial⟩
        case measure => simp [intOf]; omega
      · have d1 : decide ((q : Int) < (t.size : Int)) = false := by simp; omega
        go_wp2_with fail
        go_roundw
        case rel => exact ⟨k + 1, _, by omega, by go_num, rfl, by rw [HMS.out]; congr 2; omega, by first | rfl | trivial⟩
        case measure => simp [intOf]; omega
    · obtain rfl : k = n3 := by omega
      go_wp2_with fail
      go_returns
      exact ⟨⟨v, by rw [HQ.out]; first | rfl | simp⟩, HB.out⟩
set_option maxRecDepth 100000 in
set_option maxHeartbeats 8000000 in
theorem large_any (A0 A1 A2 A3 : Option Addr) (n0 n1 n2 n3 c0 c1 c2 c3 : Nat) (m : Mach) (RA : Nat → Option Addr) (rc : Nat → Nat) (PA : Nat → Option Addr) (pc : Nat → Nat) (w : World) (h : MachIn w A0 A1 A2 A3 n0 n1 n2 n3 m RA rc PA pc) :
    Calls Try.prog 31 #[.agg #[.slice A0 n0 c0, .slice A1 n1 c1, .slice A2 n2 c2, .slice A3 n3 c3]] w fun e w' => (∃ v : Bool, e = .returned (.bool v)) ∧ Below w.heap.size w w' := by
  have hb0 : Below w.heap.size w (w.alloc (.cells #[.slice A0 n0 c0, .slice A1 n1 c1, .slice A2 n2 c2, .slice A3 n3 c3] 42)) := (Below.refl _ _).alloc (Nat.le_refl _) _
  have HM := Lib.hid (size_any A0 A1 A2 A3 n0 n1 n2 n3 c0 c1 c2 c3 m RA rc PA pc _ (h.keep hb0))
  have hx := box_new w A0 A1 A2 A3 n0 n1 n2 n3 c0 c1 c2 c3
  have x0 := hx.cell 0
  have x1 := hx.cell 1
  have x2 := hx.cell 2
  have x3 := hx.cell 3
  simp only [List.getElem?_cons_zero, List.getElem?_cons_succ] at x0 x1 x2 x3
  have HB := Lib.hid (And.intro hb0 hx)
  clear h hb0 hx
  go_enter Try.func31, Try.ntmps31
  go_wp2_with fail
  refine HM.out.mono ?_
  rintro e w2 ⟨⟨x, rfl⟩, hb2⟩
  have HB2 := Lib.hid (And.intro (HB.out.1.trans (hb2.mono HB.out.1.size)) (HB.out.2.below hb2 HB.out.2.lt))
  have y0 := HB2.out.2.cell 0
  simp only [List.getElem?_cons_zero] at y0
  clear hb2 x0 x1 x2 x3 HB HM
  by_cases h1 : 60 < n0
  · have d1 : decide ((60 : Int) < (n0 : Int)) = true := by simp; omega
    go_wp2_with fail
    go_returns
    exact ⟨⟨true, by first | rfl | simp⟩, HB2.out.1⟩
  · have d1 : decide ((60 : Int) < (n0 : Int)) = false := by simp; omega
    obtain ⟨bq, hbq⟩ : ∃ bq, bq = decide ((3000 : Int) < x) := ⟨_, rfl⟩
    have d2 : decide ((3000 : Int) < x) = bq := hbq.symm
    clear hbq
    go_wp2_with fail
    go_returns
    exact ⟨⟨bq, by first | rfl | simp⟩, HB2.out.1⟩
set_option maxRecDepth 100000 in
set_option maxHeartbeats 8000000 in
theorem tiny_any (A0 A1 A2 A3 : Option Addr) (n0 n1 n2 n3 c0 c1 c2 c3 : Nat) (m : Mach) (RA : Nat → Option Addr) (rc : Nat → Nat) (PA : Nat → Option Addr) (pc : Nat → Nat) (w : World) (h : MachIn w A0 A1 A2 A3 n0 n1 n2 n3 m RA rc PA pc) :
    Calls Try.prog 33 #[.agg #[.slice A0 n0 c0, .slice A1 n1 c1, .slice A2 n2 c2, .slice A3 n3 c3]] w fun e w' => e = .returned (.bool (decide (n0 ≤ 10 ∧ mostT m.texts n3 ≤ 8))) ∧ Below w.heap.size w w' := by
  have hb0 : Below w.heap.size w (w.alloc (.cells #[.slice A0 n0 c0, .slice A1 n1 c1, .slice A2 n2 c2, .slice A3 n3 c3] 42)) := (Below.refl _ _).alloc (Nat.le_refl _) _
  have HM := Lib.hid (size_any A0 A1 A2 A3 n0 n1 n2 n3 c0 c1 c2 c3 m RA rc PA pc _ (h.keep hb0))
  have hx := box_new w A0 A1 A2 A3 n0 n1 n2 n3 c0 c1 c2 c3
  have x0 := hx.cell 0
  have x1 := hx.cell 1
  have x2 := hx.cell 2
  have x3 := hx.cell 3
  simp only [List.getElem?_cons_zero, List.getElem?_cons_succ] at x0 x1 x2 x3
  have HB := Lib.hid (And.intro hb0 hx)
  obtain ⟨mo, hmo⟩ : ∃ mo, mo = mostT m.texts n3 := ⟨_, rfl⟩
  rw [← hmo] at HM ⊢
  obtain ⟨tb, htb⟩ : ∃ tb, tb = decide (n0 ≤ 10 ∧ mo ≤ 8) := ⟨_, rfl⟩
  rw [← htb]
  have HTB := Lib.hid htb
  clear h hb0 hx hmo htb
  go_enter Try.func33, Try.ntmps33
  go_wp2_with fail
  refine HM.out.mono ?_
  rintro e w2 ⟨⟨x, rfl⟩, hb2⟩
  have HB2 := Lib.hid (And.intro (HB.out.1.trans (hb2.mono HB.out.1.size)) (HB.out.2.below hb2 HB.out.2.lt))
  have y0 := HB2.out.2.cell 0
  simp only [List.getElem?_cons_zero] at y0
  clear hb2 x0 x1 x2 x3 HB HM
  by_cases h1 : n0 ≤ 10
  · have d1 : decide ((n0 : Int) ≤ (10 : Int)) = true := by simp; omega
    by_cases h2 : mo ≤ 8
    · have d2 : decide ((mo : Int) ≤ (8 : Int)) = true := by simp; omega
      have HH : Hid (tb = true) := Lib.hid (by rw [HTB.out]; simp; omega)
      go_wp2_with fail
      go_returns
      exact ⟨by rw [HH.out]; first | rfl | simp, HB2.out.1⟩
    · have d2 : decide ((mo : Int) ≤ (8 : Int)) = false := by simp; omega
      have HH : Hid (tb = false) := Lib.hid (by rw [HTB.out]; simp; omega)
      go_wp2_with fail
      go_returns
      exact ⟨by rw [HH.out]; first | rfl | simp, HB2.out.1⟩
  · have d1 : decide ((n0 : Int) ≤ (10 : Int)) = false := by simp; omega
    have HH : Hid (tb = false) := Lib.hid (by rw [HTB.out]; simp; omega)
    go_wp2_with fail
    go_returns
    exact ⟨by rw [HH.out]; first | rfl | simp, HB2.out.1⟩
end Go.Proofs.Ythjnkpoalbddkaa
