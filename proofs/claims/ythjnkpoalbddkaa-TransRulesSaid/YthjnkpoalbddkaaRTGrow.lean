/- The reference's Grow of machines. -/
import Derived.Test.YthjnkpoalbddkaaMGrow
namespace Go.Proofs.Ythjnkpoalbddkaa
open Go.RowKit

set_option maxRecDepth 100000 in
set_option maxHeartbeats 8000000 in
theorem rtgrow_ok (A0 A1 A2 A3 : Option Addr) (n0 n1 n2 n3 c0 c1 c2 c3 : Nat) (m : Mach) (RA : Nat → Option Addr) (rc : Nat → Nat) (PA : Nat → Option Addr) (pc : Nat → Nat) (w : World) (h : MachIn w A0 A1 A2 A3 n0 n1 n2 n3 m RA rc PA pc) (hr : RightM m) :
    Calls Try.prog 27 #[.agg #[.slice A0 n0 c0, .slice A1 n1 c1, .slice A2 n2 c2, .slice A3 n3 c3]] w fun e w' => e = .returned (.tuple #[.int .i64 (mostM m m.next.length), .int .i64 (endM m m.next.length)]) ∧ Below w.heap.size w w' := by
  have hb0 : Below w.heap.size w (w.alloc (.cells #[.slice A0 n0 c0, .slice A1 n1 c1, .slice A2 n2 c2, .slice A3 n3 c3] 42)) := (Below.refl _ _).alloc (Nat.le_refl _) _
  have hsz : w.heap.size < (w.alloc (.cells #[.slice A0 n0 c0, .slice A1 n1 c1, .slice A2 n2 c2, .slice A3 n3 c3] 42)).heap.size := by simp
  have q0 : (w.alloc (.cells #[.slice A0 n0 c0, .slice A1 n1 c1, .slice A2 n2 c2, .slice A3 n3 c3] 42)).cell? ⟨w.heap.size, 0, none⟩ = some (.slice A0 n0 c0) := by simp
  have q1 : (w.alloc (.cells #[.slice A0 n0 c0, .slice A1 n1 c1, .slice A2 n2 c2, .slice A3 n3 c3] 42)).cell? ⟨w.heap.size, 1, none⟩ = some (.slice A1 n1 c1) := by simp
  have q2 : (w.alloc (.cells #[.slice A0 n0 c0, .slice A1 n1 c1, .slice A2 n2 c2, .slice A3 n3 c3] 42)).cell? ⟨w.heap.size, 2, none⟩ = some (.slice A2 n2 c2) := by simp
  have q3 : (w.alloc (.cells #[.slice A0 n0 c0, .slice A1 n1 c1, .slice A2 n2 c2, .slice A3 n3 c3] 42)).cell? ⟨w.heap.size, 3, none⟩ = some (.slice A3 n3 c3) := by simp
  have hl0 := h.next.len
  have hl1 := h.put.len
  have hl2 := h.elen
  have hl3 := h.tlen
  have hpu := hr.puts
  have hen := hr.ends
  have hhi := hr.hi
  have HM := Lib.hid hr
  have H1 := Lib.hid (h.keep hb0)
  have HB0 := Lib.hid hb0
  clear h hr hb0
  go_enter Try.func27, Try.ntmps27
  go_wp2_with fail
  generalize w.alloc (.cells #[.slice A0 n0 c0, .slice A1 n1 c1, .slice A2 n2 c2, .slice A3 n3 c3] 42) = w1 at H1 HB0 q0 q1 q2 q3 hsz ⊢
  go_loopw [4, 5, 13] (fun mo en x wr => ∃ k : Nat, k ≤ n0 ∧ x = .int .i64 k ∧ mo = .int .i64 (mostM m k) ∧ en = .int .i64 (endM m k) ∧ Below w1.heap.size w1 wr) (fun _ _ x _ => n0 - (intOf x).toNat)
  case atStart => exact ⟨0, by omega, rfl, rfl, rfl, Below.refl _ _⟩
  case round =>
    obtain ⟨k, hk, rfl, rfl, rfl, hbel⟩ := hrel
    have HBE := Lib.hid hbel
    clear hbel
    obtain ⟨w2, rfl⟩ : ∃ w2 : World, w2 = wr := ⟨_, rfl⟩
    by_cases hlt : k < n0
    · have hkn : k < m.next.length := by omega
      obtain ⟨mo, hmo⟩ : ∃ mo, mo = mostM m k := ⟨_, rfl⟩
      obtain ⟨en, hen'⟩ : ∃ en, en = endM m k := ⟨_, rfl⟩
      rw [← hmo, ← hen']
      have HMO := Lib.hid (And.intro hmo hen')
      clear hmo hen'
      go_wp2_with fail
      go_loopw [4, 7] (fun v x wr => ∃ b : Nat, b ≤ 256 ∧ x = .int .i64 b ∧ v = .int .i64 ((max mo (upTo (putLen m k) b) : Nat) : Int) ∧ Below w1.heap.size w1 wr) (fun _ x _ => 256 - (intOf x).toNat)
      case atStart => exact ⟨0, by omega, rfl, by simp [upTo], HBE.out⟩
      case round =>
        obtain ⟨b, hb, rfl, rfl, hbel⟩ := hrel
        have r0 := (hbel.cell (p := ⟨w.heap.size, 0, none⟩) hsz).trans q0
        have r1 := (hbel.cell (p := ⟨w.heap.size, 1, none⟩) hsz).trans q1
        have r2 := (hbel.cell (p := ⟨w.heap.size, 2, none⟩) hsz).trans q2
        have r3 := (hbel.cell (p := ⟨w.heap.size, 3, none⟩) hsz).trans q3
        have H3 := Lib.hid (H1.out.keep hbel)
        have HB3 := Lib.hid hbel
        clear hbel
        obtain ⟨w4, rfl⟩ : ∃ w4 : World, w4 = wr := ⟨_, rfl⟩
        by_cases hlb : b < 256
        · have hcb : (UInt8.ofNat b).toNat = b := by simp; omega
          have HOUT := Lib.hid (out_any A0 A1 A2 A3 n0 n1 n2 n3 c0 c1 c2 c3 m RA rc PA pc w4 H3.out HM.out k hlt (UInt8.ofNat b))
          rw [hcb] at HOUT
          have hol : (outT m k (UInt8.ofNat b)).length ≤ 4097 := outT_len HM.out hkn (UInt8.ofNat b)
          have hpd : putLen m k b = (outT m k (UInt8.ofNat b)).length := rfl
          obtain ⟨ot, hot⟩ : ∃ ot : ByteArray, ot = ⟨(outT m k (UInt8.ofNat b)).toArray⟩ := ⟨_, rfl⟩
          have hos : ot.size = (outT m k (UInt8.ofNat b)).length := by rw [hot]; simp [ByteArray.size]
          rw [← hot] at HOUT
          rw [← hos] at hpd hol
          obtain ⟨cur, hcur⟩ : ∃ cur, cur = max mo (upTo (putLen m k) b) := ⟨_, rfl⟩
          have hnxt : max mo (upTo (putLen m k) (b + 1)) = max cur (putLen m k b) := by rw [hcur]; exact (max_upTo mo _ b).symm
          rw [hpd] at hnxt
          have HNX := Lib.hid hnxt
          rw [← hcur]
          have hx1 : (b : Int) < 256 := by omega
          clear hcb hot hos hpd hcur hnxt
          by_cases hgt : cur < ot.size
          · go_wp2_with fail
            refine HOUT.out.mono ?_
            rintro e w5 ⟨rfl, hb5⟩
            have HB5 := Lib.hid (HB3.out.trans (hb5.mono HB3.out.size))
            clear hb5
            go_wp2_with fail
            go_roundw
            case rel => exact ⟨b + 1, by omega, by go_num, by rw [HNX.out]; congr 1; omega, HB5.out⟩
            case measure => simp [intOf]; omega
          · go_wp2_with fail
            refine HOUT.out.mono ?_
            rintro e w5 ⟨rfl, hb5⟩
            have HB5 := Lib.hid (HB3.out.trans (hb5.mono HB3.out.size))
            clear hb5
            go_wp2_with fail
            go_roundw
            case rel => exact ⟨b + 1, by omega, by go_num, by rw [HNX.out]; congr 1; omega, HB5.out⟩
            case measure => simp [intOf]; omega
        · obtain rfl : b = 256 := by omega
          have hst := HM.out.states k hkn
          have hends := HM.out.ends
          have hlo := hst.endlo
          have hhi2 := hst.endhi
          have hfew := HM.out.few
          obtain ⟨b2, o2, hA2, _, hc2⟩ := H3.out.earr.one (k := k) (by omega)
          unfold NumC at hc2
          obtain ⟨ee, hee⟩ := Int.eq_ofNat_of_zero_le hlo
          obtain ⟨b3, o3, hA3, _, hc3⟩ := H3.out.tarr.one (k := ee) (by omega)
          unfold StrC at hc3
          rw [hee] at hc2
          have het : endText m k = m.texts.getD ee ⟨#[]⟩ := by unfold endText; rw [hee]; rfl
          rw [← het] at hc3
          obtain ⟨t, ht⟩ : ∃ t, t = endText m k := ⟨_, rfl⟩
          rw [← ht] at hc3
          have hts : t.size ≤ 4096 := by
            apply Classical.byContradiction
            intro h9
            exact HM.out.short ⟨ee, by omega, by rw [← het, ← ht]; omega⟩
          have hnx1 : mostM m (k + 1) = max mo (upTo (putLen m k) 256) := by rw [HMO.out.1]; rfl
          have hnx2 : endM m (k + 1) = max en t.size := by rw [HMO.out.2, ht]; rfl
          have HN1 := Lib.hid hnx1
          have HN2 := Lib.hid hnx2
          obtain ⟨cur, hcur⟩ : ∃ cur, cur = max mo (upTo (putLen m k) 256) := ⟨_, rfl⟩
          rw [← hcur] at HN1 ⊢
          have hx1 : (k : Int) < (n2 : Int) := by omega
          have hx2 : (ee : Int) < (n3 : Int) := by omega
          clear hst hends hlo hhi2 hee het ht hnx1 hnx2 hcur hfew
          subst hA2
          subst hA3
          by_cases hgt : en < t.size
          · go_wp2_with fail
            go_quiet (fail)
            go_wp2_with fail
            go_roundw
            case rel => exact ⟨k + 1, by omega, by go_num, by rw [HN1.out], by rw [HN2.out]; congr 1; omega, below_drewN HB3.out _⟩
            case measure => simp [intOf]; omega
          · go_wp2_with fail
            go_quiet (fail)
            go_wp2_with fail
            go_roundw
            case rel => exact ⟨k + 1, by omega, by go_num, by rw [HN1.out], by rw [HN2.out]; congr 1; omega, below_drewN HB3.out _⟩
            case measure => simp [intOf]; omega
    · obtain rfl : k = n0 := by omega
      have hkk : m.next.length = k := by omega
      have HKK := Lib.hid hkk
      clear hkk
      go_wp2_with fail
      go_ret2
      rw [HKK.out]
      exact ⟨rfl, HB0.out.trans (HBE.out.mono (Nat.le_of_lt hsz))⟩
end Go.Proofs.Ythjnkpoalbddkaa
