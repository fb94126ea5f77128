/- The maker's part: one of several. -/
import Derived.Test.YtfjhcoeehjephaaMkMa
namespace Go.Proofs.Ytfjhcoeehjephaa
open Go.RowKit
attribute [local go_sem ↓] Go.wp_at_zero Go.wp_at_succ

theorem TrWf.kid {t k : Tr} (h : TrWf t) (hk : k ∈ t.kids) : TrWf k := by cases h with | mk _ _ _ _ h => exact h k hk
theorem few_room {x y a b n S S' K : Nat} (h1 : y ≤ x + 4 * (a * (1 + (S' - S)))) (hS : S ≤ S') (h2 : S' ≤ 2000) (hab : a + b ≤ n) (h : x + 4 * (n * (2001 - S)) ≤ K) : y + 4 * (b * (2001 - S')) ≤ K := by
  have h3 : a * (1 + (S' - S)) ≤ a * (2001 - S) := Nat.mul_le_mul_left a (by omega)
  have h4 : b * (2001 - S') ≤ b * (2001 - S) := Nat.mul_le_mul_left b (by omega)
  have h5 : (a + b) * (2001 - S) ≤ n * (2001 - S) := Nat.mul_le_mul_right _ hab
  rw [Nat.add_mul] at h5
  omega
abbrev kbox (k : Tr) (A : Option Addr) (n c : Nat) : Obj := .cells #[.int .i64 k.kind, .int .u64 k.s0, .int .u64 k.s1, .int .u64 k.s2, .int .u64 k.s3, .int .i64 k.lo, .int .i64 k.hi, .slice A n c] 49
/-- a cell of a block of the call's own that stays -/
theorem Went.cell {p : Nat} {v v' : Value} {w w' : World} (h : Went p v v' w w') {g j : Nat} (hg : g < w.heap.size) (hp : g ≠ p) (hv : v.ownBlock ≠ some g) : w'.cell? ⟨g, j, none⟩ = w.cell? ⟨g, j, none⟩ := by
  simp only [World.cell?, h.same g hg hp hv]

set_option maxRecDepth 100000 in
set_option maxHeartbeats 16000000 in
theorem part_alt (t : Tr) (hk : t.kind = 3) (ih : ∀ k, k ∈ t.kids → PartAt k) : PartAt t := by
  intro w0 p S a z E v W f o A n c h ht hsh hwf hf ho hfo hS hE
  have e1 : (t.kind == 1) = false := by simp [hk]
  have e2 : (t.kind == 2) = false := by simp [hk]
  have e3 : (t.kind == 3) = true := by simp [hk]
  obtain ⟨W1, hW1⟩ : ∃ W1, W1 = W.alloc (tbox t A n c) := ⟨_, rfl⟩
  have h1 := h.alloc (tbox t A n c)
  have q0 : (W.alloc (tbox t A n c)).cell? ⟨W.heap.size, 0, none⟩ = some (.int .i64 t.kind) := by simp
  have q7 : (W.alloc (tbox t A n c)).cell? ⟨W.heap.size, 7, none⟩ = some (.slice A n c) := by simp
  have hwn := Lib.hid (Went.alloc (p := p) (v := v) W (tbox t A n c))
  rw [← hW1] at h1 q0 q7 hwn
  have c4 := h1.blk.cell 4
  simp only [List.getElem?_cons_zero, List.getElem?_cons_succ] at c4
  obtain ⟨KA, KN, KC, hkk⟩ := ht.out
  have hlen := hkk.len
  have hle := hkk.le
  have HK := Lib.hid hkk
  have HIH := Lib.hid ih
  have HS := Lib.hid hsh
  have HWF := Lib.hid hwf
  have HF := Lib.hid (And.intro hf (And.intro ho hfo))
  have HE := Lib.hid hE
  have HTK := Lib.hid hk
  have HB := Lib.hid (AltI.begin (t := t) (E := E) hS hfo)
  have H1 := Lib.hid h1
  have HW1 := Lib.hid hW1
  have HLE := Lib.hid hlen
  clear hk h ht hkk hsh hwf hf ho hfo hE hS h1 ih hlen
  go_enter Try.func47, Try.ntmps47
  go_upto_region 1 with (fail)
  rw [← HW1.out]
  clear HW1 hW1
  go_upto_region 20 with (fail)
  go_loopw [81] (fun i wr => ∃ k S' E' b v', k ≤ n ∧ i = .int .i64 (k : Int) ∧ AltI t f o S E k S' E' b ∧ MI w0 p S' a z E' b v' wr ∧ Went p v v' W1 wr) (fun i _ => n - (intOf i).toNat)
  case atStart => exact ⟨0, S, E, false, v, by omega, rfl, HB.out, H1.out, Went.refl _ _ _⟩
  case round =>
    obtain ⟨k, S', E', b, v', hkn, rfl, hal, hmi, hwt⟩ := hrel
    obtain ⟨w3, rfl⟩ : ∃ w3 : World, w3 = wr := ⟨_, rfl⟩
    have HAL := Lib.hid hal
    have HMI := Lib.hid hmi
    have HWT := Lib.hid hwt
    clear hal hmi hwt
    by_cases hlt : k < n
    · obtain ⟨g, off, rfl, hbl, p0, p1, p2, p3, p4, p5, p6, p7⟩ := (HK.out.keep HMI.out.bel).eight hlt
      have hkid := HK.out.kid k hlt
      have hmem : t.kids.getD k noTr ∈ t.kids := getD_mem (by have := HLE.out; omega)
      have hnk := nodesK_next t.kids k (by have := HLE.out; omega)
      have hnl := nodesL_take_le t.kids (k + 1)
      have hnp := nodesL_pos (t.kids.take k)
      have hne := Tr.nodes_eq t
      have hroom := few_room (b := (t.kids.getD k noTr).nodes) HAL.out.few HAL.out.lo HAL.out.hi (by omega) HE.out
      have IH := HIH.out _ hmem
      have hsk := HS.out.kid hmem
      have hwk := HWF.out.kid hmem
      have HNX := Lib.hid (fun (S2 : Nat) (E2 : List Ed) (b2 : Bool) (hb : b = false) (hg : Grew (t.kids.getD k noTr) f o S' E' S2 E2 b2) => AltI.next HTK.out (hb ▸ HAL.out) (by have := HLE.out; omega) hg)
      clear hnk hnl hnp hne
      obtain ⟨kid, hkid'⟩ : ∃ kid, kid = t.kids.getD k noTr := ⟨_, rfl⟩
      rw [← hkid'] at p0 p1 p2 p3 p4 p5 p6 hkid IH hroom hsk hwk HNX
      have HIK := Lib.hid IH
      have HRO := Lib.hid hroom
      have HKI := Lib.hid (And.intro hkid (And.intro hsk hwk))
      have hmb := HMI.out.alloc (kbox kid (KA k) (KN k) (KC k))
      have HMB := Lib.hid hmb
      clear hkid' hmem hkid IH hroom hsk hwk hmb
      cases b
      · go_wp2_with (go_at_call 47; refine (HIK.out w0 p S' a z E' v' _ f o (KA k) (KN k) (KC k) HMB.out HKI.out.1 HKI.out.2.1 HKI.out.2.2 (by have := HF.out; have := HAL.out.lo; omega) (by have := HF.out; have := HAL.out.lo; omega) HF.out.2.2 HAL.out.hi HRO.out).mono ?_; rintro e w4 ⟨rfl, S2, E2, b2, v2, hg2, hm2, ht2⟩; have HG2 := Lib.hid hg2; have HM2 := Lib.hid hm2; have HT2 := Lib.hid ht2; clear hg2 hm2 ht2)
        go_roundw
        case rel => exact ⟨k + 1, S2, E2, b2, v2, by omega, by go_num, HNX.out S2 E2 b2 (by first | rfl | trivial) HG2.out, HM2.out, HWT.out.trans ((Went.alloc _ _).trans HT2.out)⟩
        case measure => simp [intOf]; omega
      · go_wp2_with (go_at_call 47; refine (part_bad kid w0 p S' a z E' v' _ f o (KA k) (KN k) (KC k) HMB.out).mono ?_; rintro e w4 ⟨rfl, hm2, ht2⟩; have HM2 := Lib.hid hm2; have HT2 := Lib.hid ht2; clear hm2 ht2)
        go_roundw
        case rel => exact ⟨k + 1, S', E', true, v', by omega, by go_num, HAL.out.stay (by have := HLE.out; omega), HM2.out, HWT.out.trans ((Went.alloc _ _).trans HT2.out)⟩
        case measure => simp [intOf]; omega
    · obtain rfl : k = n := by omega
      go_wp2_with fail
      go_returns
      exact ⟨by first | rfl | simp, S', E', b, v', HAL.out.done HTK.out HLE.out.symm, HMI.out, hwn.out.trans HWT.out⟩
end Go.Proofs.Ytfjhcoeehjephaa
