/- The reference's Reached: marks that are closed. -/
import Derived.Test.YtfjhcoeehjephaaRFreeMd
import Derived.Test.YtfjhcoeehjephaaDEndsMd
import Derived.Test.YtfjhcoeehjephaaBxMd
namespace Go.Proofs.Ytfjhcoeehjephaa
open Go.RowKit
attribute [local go_sem ↓] Go.wp_at_zero Go.wp_at_succ

/-- where a byte leads -/
def nextB (D : Dfa) (i b : Nat) : Int := (D.next.getD i []).getD (D.cls b) 0
def ClD (D : Dfa) (seen : List Bool) (i b : Nat) : Prop := seen.getD i false = true → ∀ j : Nat, nextB D i b = (j : Int) → seen.getD j false = true
theorem rep_get (n : Nat) : (List.replicate n false).getD 0 false = false := by cases n <;> rfl
theorem ofNat_nat {b : Nat} (hb : b < 256) : (UInt8.ofNat b).toNat = b := by rw [UInt8.toNat_ofNat']; omega
theorem falses_lt {seen : List Bool} {j : Nat} (hj : j < seen.length) (h : seen.getD j false = false) : falses (seen.set j true) < falses seen := by
  have := falses_set hj h
  omega
theorem getD_one {seen : List Bool} {j k : Nat} (hk : k < seen.length) (h : seen.getD k false = true) : (seen.set j true).getD k false = true := by
  rw [getD_set hk]
  split
  · rfl
  · exact h

set_option maxRecDepth 100000 in
set_option maxHeartbeats 16000000 in
theorem reached_any (ds : Array Value) (A1 A2 : Option Addr) (n n2 c1 c2 : Nat) (D : Dfa) (RA : Nat → Option Addr) (rc : Nat → Nat) (w : World) (h : DfaIn w ds A1 A2 n n2 c1 c2 D RA rc) (hr : RightD D) :
    Calls Try.prog 13 #[.agg ds] w fun e w' => ∃ g seen, e = .returned (.slice (some ⟨g, 0, none⟩) n n) ∧ Blk w' g 3 (bitsV seen) ∧ seen.length = n ∧ seen.getD 0 false = true ∧ (∀ i, i < n → ∀ b, b < 256 → ClD D seen i b) ∧ Below w.heap.size w w' := by
  have hb0 : Below w.heap.size w (w.alloc (.cells ds 30)) := (Below.refl _ _).alloc (Nat.le_refl _) _
  have hln := h.next.len
  have hn4 : n ≤ 400 := by rw [← hln]; exact hr.hi
  have hn1 : 1 ≤ n := by rw [← hln]; exact hr.lo
  obtain ⟨b1, o1, b2, o2, rfl, rfl⟩ := D8.heads h hr
  have hF := fun W' hb => D8.facts_of (W := W') h hr hb
  have HNX := Lib.hid (fun (i : Nat) (hi : i < n) (b : Nat) (hb : b < 256) => D8.state_next hr (by rw [hln]; exact hi) (UInt8.ofNat b))
  have hmk := make_one 36 3 (.int .i64 0) 8 Try.underlying36 info3 rfl n (by omega) (by omega)
  have hmh := hr.mhi
  have HB := Lib.hid hb0
  have HF := Lib.hid hF
  have HLN := Lib.hid hln
  have f0 := (hF _ (Below.refl _ _)).q1
  have hsz : w.heap.size < (w.alloc (.cells ds 30)).heap.size := by simp
  clear h hF hln hb0
  go_enter Try.func13, Try.ntmps13
  go_upto_region 2 with (fail)
  have hsw : w.heap.size + 1 = (w.alloc (.cells ds 30)).heap.size := by simp
  generalize w.alloc (.cells ds 30) = w1 at HB HF f0 hsz hsw ⊢
  rw [hsw]
  have hrep : Array.replicate n (Value.int .i64 0) = (bitsV (List.replicate n false)).toArray := by simp [bitsV]
  have HRF0 := Lib.hid (show RF w1 (w1.alloc (.cells (Array.replicate n (.int .i64 0)) 3)) w1.heap.size n (List.replicate n false) by
    rw [hrep]
    exact ⟨Blk.new _ _ _, by simp, (Below.refl _ _).alloc (Nat.le_refl _) _⟩)
  clear hrep hmk
  generalize w1.alloc (.cells (Array.replicate n (.int .i64 0)) 3) = w2 at HRF0 ⊢
  obtain ⟨g, hg⟩ : ∃ g, g = w1.heap.size := ⟨_, rfl⟩
  rw [← hg] at HRF0 ⊢
  have HG := Lib.hid hg
  have HSZ := Lib.hid hsz
  have z0 := HRF0.out.cell (j := 0) (by omega)
  have z1 := HRF0.out.blk.frozen 0
  rw [rep_get, if_neg (by simp)] at z0
  have HRF1 := Lib.hid (HRF0.out.mark 0)
  have hn1' : (0 : Int) < (n : Int) := by omega
  clear hg hsz hsw HRF0
  go_upto_region 4 with (fail)
  generalize w2.setCell ⟨g, 0, none⟩ (.int .i64 1) = w3 at HRF1 ⊢
  clear z0 z1
  have hs0 : ((List.replicate n false).set 0 true).getD 0 false = true := by
    rw [getD_set (by simp; omega)]; simp
  generalize (List.replicate n false).set 0 true = seen at HRF1 hs0
  have HS0 := Lib.hid hs0
  clear hs0 f0
  go_loopw [4] (fun mo wr => ∃ (mb : Bool) (seen : List Bool), mo = .bool mb ∧ RF w1 wr g n seen ∧ seen.getD 0 false = true ∧ (mb = false → ∀ i, i < n → ∀ b, b < 256 → ClD D seen i b)) (fun mo wr => left2 g mo wr)
  case atStart => exact ⟨true, seen, rfl, HRF1.out, HS0.out, fun h9 => by cases h9⟩
  case round =>
    clear HRF1 HS0
    obtain ⟨mb, seen0, rfl, hrf, hs0, hcl⟩ := hrel
    obtain ⟨w4, rfl⟩ : ∃ w4 : World, w4 = wr := ⟨_, rfl⟩
    have HR0 := Lib.hid hrf
    have HS0 := Lib.hid hs0
    have HLF := Lib.hid (left2_eq (b := true) hrf.blk)
    have hbe : Below w1.heap.size w1 w4 := by rw [← HG.out]; exact hrf.bel
    have q1 := (HF.out w4 hbe).q1
    clear hrf hs0 hbe
    cases mb with
    | false =>
      have HCL := Lib.hid (hcl rfl)
      clear hcl
      go_wp2_with fail
      go_returns
      have hbel := HB.out.trans (HR0.out.bel.mono (by rw [HG.out]; exact Nat.le_of_lt HSZ.out))
      first
        | exact ⟨g, seen0, by first | rfl | simp, HR0.out.blk, HR0.out.len, HS0.out, HCL.out, hbel⟩
        | exact ⟨g, by first | rfl | simp, seen0, HR0.out.blk, HR0.out.len, HS0.out, HCL.out, hbel⟩
    | true =>
      clear hcl
      go_upto_region 7 with (fail)
      go_loopw [4, 19] (fun mo iv wr => ∃ (q : Nat) (mb : Bool) (seen : List Bool), iv = .int .i64 (q : Int) ∧ mo = .bool mb ∧ q ≤ n ∧ RF w1 wr g n seen ∧ seen.getD 0 false = true ∧ (mb = false → seen = seen0 ∧ ∀ i, i < q → ∀ b, b < 256 → ClD D seen0 i b) ∧ (mb = true → falses seen < falses seen0)) (fun _ iv _ => n - (intOf iv).toNat)
      case atStart => exact ⟨0, false, seen0, rfl, rfl, by omega, HR0.out, HS0.out, fun _ => ⟨rfl, fun i hi => absurd hi (by omega)⟩, fun h9 => by cases h9⟩
      case round =>
        obtain ⟨q, mb, seen, rfl, rfl, hq, hrf, hs0, hf1, hf2⟩ := hrel
        obtain ⟨w5, rfl⟩ : ∃ w5 : World, w5 = wr := ⟨_, rfl⟩
        have HR := Lib.hid hrf
        have HS := Lib.hid hs0
        have HFF := Lib.hid (And.intro hf1 hf2)
        have hbe : Below w1.heap.size w1 w5 := by rw [← HG.out]; exact hrf.bel
        have hFa := HF.out w5 hbe
        clear hrf hs0 hf1 hf2 hbe q1
        by_cases hlt : q < n
        · have d1 : decide ((q : Int) < (n : Int)) = true := by simp; omega
          have r0 := hFa.row q hlt
          obtain ⟨ar, har⟩ : ∃ ar, ar = RA q := ⟨_, rfl⟩
          obtain ⟨cr, hcr⟩ : ∃ cr, cr = rc q := ⟨_, rfl⟩
          obtain ⟨mm, hmm⟩ : ∃ mm, mm = D.many := ⟨_, rfl⟩
          rw [← har, ← hcr, ← hmm] at r0
          have HAR := Lib.hid (And.intro har hmm)
          clear hFa har hcr hmm
          go_upto_region 10 with (fail)
          clear r0
          go_loopw [4, 7] (fun mo bv wr => ∃ (b : Nat) (mb : Bool) (seen : List Bool), bv = .int .i64 (b : Int) ∧ mo = .bool mb ∧ b ≤ 256 ∧ RF w1 wr g n seen ∧ seen.getD 0 false = true ∧ (mb = false → seen = seen0 ∧ (∀ i, i < q → ∀ b, b < 256 → ClD D seen0 i b) ∧ ∀ b', b' < b → ClD D seen0 q b') ∧ (mb = true → falses seen < falses seen0)) (fun _ bv _ => 256 - (intOf bv).toNat)
          case atStart => exact ⟨0, mb, seen, rfl, rfl, by omega, HR.out, HS.out, fun h9 => ⟨(HFF.out.1 h9).1, (HFF.out.1 h9).2, fun b' hb' => absurd hb' (by omega)⟩, HFF.out.2⟩
          case round =>
            clear HR HS HFF
            obtain ⟨b, mb, seen, rfl, rfl, hb, hrf, hs0, hf1, hf2⟩ := hrel
            obtain ⟨w6, rfl⟩ : ∃ w6 : World, w6 = wr := ⟨_, rfl⟩
            have HR := Lib.hid hrf
            have HS := Lib.hid hs0
            have HFF := Lib.hid (And.intro hf1 hf2)
            have hbe : Below w1.heap.size w1 w6 := by rw [← HG.out]; exact hrf.bel
            have hFa := HF.out w6 hbe
            clear hrf hs0 hf1 hf2 hbe
            by_cases hlb : b < 256
            · have d2 : decide ((b : Int) < 256) = true := by simp; omega
              have c0 := hFa.cl b hlb
              have hnx := HNX.out q hlt b hlb
              rw [ofNat_nat hlb] at hnx
              unfold D8.nextD at hnx
              (try rw [ofNat_nat hlb] at hnx)
              obtain ⟨b3, o3, e3, s0⟩ := hFa.el q hlt _ hnx.1
              have hxe : nextB D q b = (D.next.getD q []).getD (D.cls b) 0 := rfl
              obtain ⟨x, hx⟩ : ∃ x, x = (D.next.getD q []).getD (D.cls b) 0 := ⟨_, rfl⟩
              rw [← hx] at s0 hnx hxe
              obtain ⟨cb, hcb⟩ : ∃ cb, cb = D.cls b := ⟨_, rfl⟩
              rw [← hcb] at c0 s0 hnx
              rw [← HAR.out.2] at hnx
              rw [← HAR.out.1] at e3
              have hcm := hnx.1
              have hx1 := hnx.2.1
              have hx2 := hnx.2.2
              rw [HLN.out] at hx2
              have HXE := Lib.hid hxe
              have t0 := HR.out.cell hlt
              subst e3
              clear hx hcb hnx hxe hFa
              have hold : (mb = false → ClD D seen0 q b) → mb = false → seen = seen0 ∧ (∀ i, i < q → ∀ b, b < 256 → ClD D seen0 i b) ∧ ∀ b', b' < b + 1 → ClD D seen0 q b' := fun hC h9 => ⟨(HFF.out.1 h9).1, (HFF.out.1 h9).2.1, fun b' hb' => by
                by_cases e : b' < b
                · exact (HFF.out.1 h9).2.2 b' e
                · obtain rfl : b' = b := by omega
                  exact hC h9⟩
              have HOLD := Lib.hid hold
              clear hold
              obtain ⟨si, hsi⟩ : ∃ si, si = seen.getD q false := ⟨_, rfl⟩
              rw [← hsi] at t0
              have HSI := Lib.hid hsi
              clear hsi
              cases si with
              | false =>
                rw [if_neg (by simp)] at t0
                go_wp2_with fail
                go_roundw
                case rel =>
                  exact ⟨b + 1, mb, seen, by go_num, rfl, by omega, HR.out, HS.out, HOLD.out (fun h9 h8 => by rw [← (HFF.out.1 h9).1, ← HSI.out] at h8; cases h8), HFF.out.2⟩
                case measure => simp [intOf]; omega
              | true =>
                rw [if_pos rfl] at t0
                by_cases hx0 : 0 ≤ x
                · obtain ⟨j, rfl⟩ := Int.eq_ofNat_of_zero_le hx0
                  have hj : j < n := by omega
                  have t1 := HR.out.cell hj
                  have d4 : decide ((0 : Int) ≤ (j : Int)) = true := by simp
                  have y1 := HR.out.blk.frozen j
                  obtain ⟨sj, hsj⟩ : ∃ sj, sj = seen.getD j false := ⟨_, rfl⟩
                  rw [← hsj] at t1
                  have HSJ := Lib.hid hsj
                  clear hsj hx0 hx1
                  cases sj with
                  | true =>
                    rw [if_pos rfl] at t1
                    go_wp2_with fail
                    go_roundw
                    case rel =>
                      exact ⟨b + 1, mb, seen, by go_num, rfl, by omega, HR.out, HS.out, HOLD.out (fun h9 _ j' hj' => by
                        rw [HXE.out] at hj'
                        obtain rfl : j = j' := by omega
                        rw [← (HFF.out.1 h9).1, ← HSJ.out]), HFF.out.2⟩
                    case measure => simp [intOf]; omega
                  | false =>
                    rw [if_neg (by simp)] at t1
                    go_wp2_with fail
                    go_roundw
                    case rel =>
                      refine ⟨b + 1, true, seen.set j true, by go_num, rfl, by omega, HR.out.mark j, getD_one (by rw [HR.out.len]; omega) HS.out, (fun h9 => by cases h9), fun _ => ?_⟩
                      have h1 := falses_lt (j := j) (by rw [HR.out.len]; exact hj) HSJ.out.symm
                      cases mb with
                      | false => rw [← (HFF.out.1 rfl).1]; exact h1
                      | true => exact Nat.lt_trans h1 (HFF.out.2 rfl)
                    case measure => simp [intOf]; omega
                · have d4 : decide ((0 : Int) ≤ x) = false := by simp; omega
                  go_wp2_with fail
                  go_roundw
                  case rel =>
                    exact ⟨b + 1, mb, seen, by go_num, rfl, by omega, HR.out, HS.out, HOLD.out (fun _ _ j' hj' => by rw [HXE.out] at hj'; omega), HFF.out.2⟩
                  case measure => simp [intOf]; omega
            · have hb6 : b = 256 := by omega
              have d2 : decide ((b : Int) < 256) = false := by simp; omega
              have HB6 := Lib.hid hb6
              clear hFa hb6 hb hlb
              go_wp2_with fail
              go_roundw
              case rel =>
                refine ⟨q + 1, mb, seen, by go_num, rfl, by omega, HR.out, HS.out, fun h9 => ⟨(HFF.out.1 h9).1, fun i hi b' hb' => ?_⟩, HFF.out.2⟩
                by_cases e : i < q
                · exact (HFF.out.1 h9).2.1 i e b' hb'
                · obtain rfl : i = q := by omega
                  exact (HFF.out.1 h9).2.2 b' (by rw [HB6.out]; exact hb')
              case measure => simp [intOf]; omega
        · obtain rfl : q = n := by omega
          have d1 : decide ((q : Int) < (q : Int)) = false := by simp
          clear hFa
          go_wp2_with fail
          go_roundw
          case rel =>
            exact ⟨mb, seen, rfl, HR.out, HS.out, fun h9 => by rw [(HFF.out.1 h9).1]; exact (HFF.out.1 h9).2⟩
          case measure =>
            rw [left2_eq HR.out.blk, HLF.out]
            cases mb with
            | false => rw [(HFF.out.1 rfl).1]; simp
            | true => have := HFF.out.2 rfl; simp; omega
end Go.Proofs.Ytfjhcoeehjephaa
