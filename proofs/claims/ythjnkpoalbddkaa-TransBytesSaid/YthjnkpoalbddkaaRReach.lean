/- The reference's Reached. -/
import Derived.Test.YthjnkpoalbddkaaBPl
namespace Go.Proofs.Ythjnkpoalbddkaa
open Go.RowKit

theorem info3 : (Try.prog.info? 3).map (fun i => (i.zero, i.size, i.bytes)) = some (some (.int .i64 0), 1, 8) := by kernel_rfl
structure RF (w1 W : World) (g S : Nat) (seen : List Bool) : Prop where
  blk : Blk W g 3 (bitsV seen)
  len : seen.length = S
  bel : Below g w1 W
section
variable {w1 W : World} {g S : Nat} {seen : List Bool}
theorem RF.mark (h : RF w1 W g S seen) (j : Nat) : RF w1 (W.setCell ⟨g, j, none⟩ (.int .i64 1)) g S (seen.set j true) := ⟨by rw [bitsV_set]; exact h.blk.set j _, by simp [h.len], h.bel.setCell (p := ⟨g, j, none⟩) (Nat.le_refl _) _⟩
theorem RF.cell (h : RF w1 W g S seen) {j : Nat} (hj : j < S) : W.cell? ⟨g, j, none⟩ = some (.int .i64 (if seen.getD j false = true then 1 else 0)) := by
  rw [h.blk.cell, bitsV_get (by rw [h.len]; exact hj)]
end
def left2 (g : Nat) (v : Value) (W : World) : Nat :=
  (match W.heap[g]? with
    | some (.cells cs _ _) => cs.toList.countP (fun v => match v with | .int _ x => decide (x = 0) | _ => false)
    | _ => 0) + (match v with | .bool true => 1 | _ => 0)
theorem left2_eq {g : Nat} {b : Bool} {W : World} {seen : List Bool} (h : Blk W g 3 (bitsV seen)) : left2 g (.bool b) W = falses seen + (if b = true then 1 else 0) := by
  unfold left2 falses bitsV at *
  rw [show W.heap[g]? = _ from h]
  simp only [List.countP_map]
  congr 1
  · refine List.countP_congr (fun x _ => ?_)
    cases x <;> simp
  · cases b <;> rfl
/-- what is known of the marks -/
def Mks (m : Mach) (seen : List Bool) : Prop := (∀ j, seen.getD j false = true → Met m j) ∧ seen.getD 0 false = true
theorem Mks.push {m : Mach} {seen : List Bool} (h : Mks m seen) {j : Nat} (hr : Met m j) : Mks m (seen.set j true) := by
  refine ⟨fun k hs => ?_, ?_⟩
  · by_cases e9 : k = j
    · subst e9; exact hr
    · exact h.1 k (by simpa [List.getD_eq_getElem?_getD, Ne.symm e9] using hs)
  · have h0 : 0 < seen.length := by
      cases seen with
      | nil => have := h.2; simp at this
      | cons => simp
    rw [getD_set h0]
    split
    · rfl
    · exact h.2
/-- what is reached from the first so many states, at the first so many bytes, is marked -/
def ClsB (m : Mach) (i : Nat) (c : Nat) (seen : List Bool) : Prop := ∀ b, b < c → seen.getD i false = true → seen.getD (nextS m i (UInt8.ofNat b)) false = true
def Cls (m : Mach) (c : Nat) (seen : List Bool) : Prop := ∀ i, i < c → ClsB m i 256 seen
theorem mks_all {m : Mach} {seen : List Bool} {S : Nat} (hl : seen.length = S) (h1 : Mks m seen) (h2 : Cls m S seen) {i : Nat} (h : Met m i) : seen.getD i false = true := by
  induction h with
  | start => exact h1.2
  | @go i c _ ih =>
    have hi : i < S := by
      rw [← hl]
      apply Classical.byContradiction
      intro h9
      simp [show seen.length ≤ i by omega] at ih
    have := h2 i hi c.toNat c.toNat_lt ih
    rwa [ofNat_toNat] at this

set_option maxRecDepth 100000 in
set_option maxHeartbeats 8000000 in
theorem reached_new (A0 A1 A2 A3 : Option Addr) (n0 n1 n2 n3 c0 c1 c2 c3 : Nat) (m : Mach) (RA : Nat → Option Addr) (rc : Nat → Nat) (PA : Nat → Option Addr) (pc : Nat → Nat) (w : World) (h : MachIn w A0 A1 A2 A3 n0 n1 n2 n3 m RA rc PA pc) (hr : RightM m) :
    Calls Try.prog 51 #[.agg #[.slice A0 n0 c0, .slice A1 n1 c1, .slice A2 n2 c2, .slice A3 n3 c3]] w fun e w' => ∃ g seen, e = .returned (.slice (some ⟨g, 0, none⟩) n0 n0) ∧ Blk w' g 3 (bitsV seen) ∧ seen.length = n0 ∧ (∀ j, j < n0 → (seen.getD j false = true ↔ Met m j)) ∧ Below w.heap.size w w' ∧ w.heap.size ≤ g := by
  have hb0 : Below w.heap.size w (w.alloc (.cells #[.slice A0 n0 c0, .slice A1 n1 c1, .slice A2 n2 c2, .slice A3 n3 c3] 42)) := (Below.refl _ _).alloc (Nat.le_refl _) _
  have hsz : w.heap.size < (w.alloc (.cells #[.slice A0 n0 c0, .slice A1 n1 c1, .slice A2 n2 c2, .slice A3 n3 c3] 42)).heap.size := by simp
  have q0 : (w.alloc (.cells #[.slice A0 n0 c0, .slice A1 n1 c1, .slice A2 n2 c2, .slice A3 n3 c3] 42)).cell? ⟨w.heap.size, 0, none⟩ = some (.slice A0 n0 c0) := by simp
  have hl0 := h.next.len
  have hhi := hr.hi
  have hlo := hr.lo
  have HM := Lib.hid hr
  have H1 := Lib.hid (h.keep hb0).next
  have HB := Lib.hid hb0
  have hmk := fun W => make_one 39 3 (.int .i64 0) 8 Try.underlying39 info3 rfl n0 (by omega) (by omega) W
  have hnl : Hid (∀ k, k < n0 → (m.next.getD k []).length = 256) := fun k hk => (hr.states k (by omega)).nlen
  have hsw : w.heap.size + 1 = (w.alloc (.cells #[.slice A0 n0 c0, .slice A1 n1 c1, .slice A2 n2 c2, .slice A3 n3 c3] 42)).heap.size := by simp
  have hrep : Array.replicate n0 (Value.int .i64 0) = (bitsV (List.replicate n0 false)).toArray := by simp [bitsV]
  have hblk : Blk ((w.alloc (.cells #[.slice A0 n0 c0, .slice A1 n1 c1, .slice A2 n2 c2, .slice A3 n3 c3] 42)).alloc (.cells (Array.replicate n0 (.int .i64 0)) 3)) (w.heap.size + 1) 3 (bitsV (List.replicate n0 false)) := by
    rw [hrep, hsw]
    exact Blk.new _ _ _
  have HRF0 := Lib.hid (show RF (w.alloc (.cells #[.slice A0 n0 c0, .slice A1 n1 c1, .slice A2 n2 c2, .slice A3 n3 c3] 42)) _ (w.heap.size + 1) n0 (List.replicate n0 false) from ⟨hblk, by simp, (Below.refl _ _).alloc (Nat.le_of_eq hsw) _⟩)
  have hrep1 : (Array.replicate n0 (Value.int .i64 0)).setIfInBounds 0 (.int .i64 1) = (bitsV ((List.replicate n0 false).set 0 true)).toArray := by rw [bitsV_set, hrep]; simp
  have HRF1 := Lib.hid (show RF (w.alloc (.cells #[.slice A0 n0 c0, .slice A1 n1 c1, .slice A2 n2 c2, .slice A3 n3 c3] 42)) ((w.alloc (.cells #[.slice A0 n0 c0, .slice A1 n1 c1, .slice A2 n2 c2, .slice A3 n3 c3] 42)).alloc (.cells ((Array.replicate n0 (.int .i64 0)).setIfInBounds 0 (.int .i64 1)) 3)) (w.heap.size + 1) n0 ((List.replicate n0 false).set 0 true) from ⟨by rw [hrep1, hsw]; exact Blk.new _ _ _, by simp, (Below.refl _ _).alloc (Nat.le_of_eq hsw) _⟩)
  have hc0 := HRF0.out.cell (j := 0) (by omega)
  rw [show ((List.replicate n0 false).getD 0 false) = false by simp [show 0 < n0 by omega], if_neg (by decide)] at hc0
  have hfz := hblk.frozen 0
  have hpos : (0 : Int) < (n0 : Int) := by omega
  have HMK := Lib.hid (show Mks m ((List.replicate n0 false).set 0 true) from ⟨fun j hj => by
    by_cases e9 : j = 0
    · subst e9; exact .start
    · simp [List.getD_eq_getElem?_getD, Ne.symm e9, List.getElem?_replicate] at hj
      split at hj <;> simp at hj, by rw [getD_set (by simp; omega)]; simp⟩)
  have HSW := Lib.hid hsw
  clear h hb0 hr hrep hrep1 hblk HRF0 hsw
  go_enter Try.func51, Try.ntmps51
  go_wp2_with fail
  have hsw := HSW.out
  generalize hw1 : w.alloc (.cells #[.slice A0 n0 c0, .slice A1 n1 c1, .slice A2 n2 c2, .slice A3 n3 c3] 42) = w1 at H1 HB q0 hsz hsw HRF1 hc0 hfz ⊢
  obtain ⟨g, hg⟩ : ∃ g, g = w.heap.size + 1 := ⟨_, rfl⟩
  rw [← hg] at HRF1 hsw hc0 hfz ⊢
  generalize w1.alloc (.cells ((Array.replicate n0 (.int .i64 0)).setIfInBounds 0 (.int .i64 1)) 3) = w2 at HRF1 ⊢
  have HG := Lib.hid hsw
  have HSZ := Lib.hid hsz
  have HGW := Lib.hid hg
  clear hg hsw hsz hc0 hfz hw1 HSW
  go_loopw [4] (fun mo wr => ∃ (mb : Bool) (seen : List Bool), mo = .bool mb ∧ RF w1 wr g n0 seen ∧ Mks m seen ∧ (mb = false → Cls m n0 seen)) (fun mo wr => left2 g mo wr)
  case atStart => exact ⟨true, _, rfl, HRF1.out, HMK.out, fun h9 => by cases h9⟩
  case round =>
    clear HRF1 HMK
    obtain ⟨mb, seen0, rfl, hrf, hmk2, hcl⟩ := hrel
    obtain ⟨w3, rfl⟩ : ∃ w3 : World, w3 = wr := ⟨_, rfl⟩
    have HR0 := Lib.hid hrf
    have HM0 := Lib.hid hmk2
    have hbe : Below w1.heap.size w1 w3 := by rw [← HG.out]; exact hrf.bel
    have q0' : w3.cell? ⟨w.heap.size, 0, none⟩ = some (.slice A0 n0 c0) := (hbe.cell HSZ.out).trans q0
    have HLF := Lib.hid (left2_eq (b := true) hrf.blk)
    clear hrf hmk2 hbe
    cases mb with
    | false =>
      have HCL := Lib.hid (hcl rfl)
      clear hcl
      go_wp2_with fail
      go_returns
      have hfin : ∀ j, j < n0 → (seen0.getD j false = true ↔ Met m j) := fun j hj => ⟨HM0.out.1 j, fun h9 => mks_all HR0.out.len HM0.out HCL.out h9⟩
      have hbel := HB.out.trans (HR0.out.bel.mono (by rw [HG.out]; exact Nat.le_of_lt HSZ.out))
      have hgl : w.heap.size ≤ g := by rw [HGW.out]; omega
      first
        | exact ⟨g, seen0, by first | rfl | simp, HR0.out.blk, HR0.out.len, hfin, hbel, hgl⟩
        | exact ⟨g, by first | rfl | simp, seen0, HR0.out.blk, HR0.out.len, by simpa using hfin, hbel, hgl⟩
    | true =>
      clear hcl
      go_wp2_with fail
      go_loopw [4, 19] (fun mo i wr => ∃ (q : Nat) (mb : Bool) (seen : List Bool), q ≤ n0 ∧ i = .int .i64 q ∧ mo = .bool mb ∧ RF w1 wr g n0 seen ∧ Mks m seen ∧ (mb = false → falses seen ≤ falses seen0 ∧ Cls m q seen) ∧ (mb = true → falses seen + 1 ≤ falses seen0)) (fun _ i _ => n0 - (intOf i).toNat)
      case atStart => exact ⟨0, false, seen0, by omega, rfl, rfl, HR0.out, HM0.out, fun _ => ⟨Nat.le_refl _, fun i hi => by omega⟩, fun h9 => by cases h9⟩
      case round =>
        obtain ⟨q, mb, seen, hq, rfl, rfl, hrf, hmk2, hf1, hf2⟩ := hrel
        obtain ⟨w4, rfl⟩ : ∃ w4 : World, w4 = wr := ⟨_, rfl⟩
        have HR := Lib.hid hrf
        have HMm := Lib.hid hmk2
        have HF := Lib.hid (And.intro hf1 hf2)
        have hbe : Below w1.heap.size w1 w4 := by rw [← HG.out]; exact hrf.bel
        have H4 := Lib.hid (H1.out.keep hbe)
        clear hrf hmk2 hf1 hf2 q0' hbe
        by_cases hlt : q < n0
        · obtain ⟨b0, o0, rfl, hbl, hc⟩ := H4.out.arr.one hlt
          unfold RowC at hc
          have hnl' := hnl.out q hlt
          have HROW := Lib.hid (H1.out.row q hlt)
          obtain ⟨bp, op, hPA, hbp, _⟩ := HROW.out.one (k := 0) (by omega)
          rw [hPA, hnl'] at hc
          have HCELL : Hid (∀ b, b < 256 → w1.cell? ⟨bp, op + b, none⟩ = some (.int .i64 ((m.next.getD q []).getD b 0))) := fun b hb => by
            obtain ⟨b', o', e', _, h'⟩ := HROW.out.one (k := b) (by omega)
            rw [hPA] at e'
            simp only [Option.some.injEq, Addr.mk.injEq, and_true] at e'
            obtain ⟨rfl, rfl⟩ := e'
            exact h'
          have hqn : (q : Int) < (n0 : Int) := by omega
          clear hPA hnl' HROW
          go_wp2_with fail
          go_loopw [4, 26] (fun mo x wr => ∃ (b : Nat) (mb : Bool) (seen : List Bool), b ≤ 256 ∧ x = .int .i64 b ∧ mo = .bool mb ∧ RF w1 wr g n0 seen ∧ Mks m seen ∧ (mb = false → falses seen ≤ falses seen0 ∧ Cls m q seen ∧ ClsB m q b seen) ∧ (mb = true → falses seen + 1 ≤ falses seen0)) (fun _ x _ => 256 - (intOf x).toNat)
          case atStart => exact ⟨0, mb, seen, by omega, rfl, rfl, HR.out, HMm.out, fun h9 => ⟨(HF.out.1 h9).1, (HF.out.1 h9).2, fun i hi => by omega⟩, HF.out.2⟩
          case round =>
            clear HR HMm HF H4 hc hbl
            obtain ⟨b, mb, seen, hb, rfl, rfl, hrf, hmk2, hf1, hf2⟩ := hrel
            obtain ⟨w5, rfl⟩ : ∃ w5 : World, w5 = wr := ⟨_, rfl⟩
            have HR := Lib.hid hrf
            have HMm := Lib.hid hmk2
            have HF := Lib.hid (And.intro hf1 hf2)
            have hbe : Below w1.heap.size w1 w5 := by rw [← HG.out]; exact hrf.bel
            have HBE := Lib.hid hbe
            clear hrf hmk2 hf1 hf2 hbe
            by_cases hlb : b < 256
            · obtain ⟨f1, f2, f3, f4, _⟩ := state_facts HM.out (i := q) (by omega) (UInt8.ofNat b)
              have hcb : (UInt8.ofNat b).toNat = b := by simp; omega
              rw [hcb] at f3
              have hcc := (HBE.out.cell (p := ⟨bp, op + b, none⟩) hbp).trans (HCELL.out b hlb)
              rw [f3] at hcc
              have hmet : seen.getD q false = true → Met m (nextS m q (UInt8.ofNat b)) := fun h9 => .go _ (HMm.out.1 q h9)
              have hcls : ∀ s, ClsB m q b s → (s.getD q false = true → s.getD (nextS m q (UInt8.ofNat b)) false = true) → ClsB m q (b + 1) s := fun s h1 h2 b' hb' => by
                by_cases e9 : b' = b
                · subst e9; exact h2
                · exact h1 b' (by omega)
              obtain ⟨j, hj⟩ : ∃ j, j = nextS m q (UInt8.ofNat b) := ⟨_, rfl⟩
              rw [← hj] at hcc f4 hmet hcls
              have HST := Lib.hid (And.intro hmet hcls)
              have hjn : j < n0 := by omega
              have hbn : (b : Int) < 256 := by omega
              have hjn2 : (j : Int) < (n0 : Int) := by omega
              have hci := HR.out.cell hlt
              have hcj := HR.out.cell hjn
              have hfz := HR.out.blk.frozen j
              clear f1 f2 f3 f4 hcb hmet hcls hj
              cases hsi : seen.getD q false with
              | false =>
                rw [hsi, if_neg (by decide)] at hci
                have HS := Lib.hid hsi
                clear hsi
                go_wp2_with fail
                go_roundw
                case rel => exact ⟨b + 1, mb, seen, by omega, by go_num, rfl, HR.out, HMm.out, fun h9 => ⟨(HF.out.1 h9).1, (HF.out.1 h9).2.1, HST.out.2 seen (HF.out.1 h9).2.2 (fun h8 => by rw [HS.out] at h8; cases h8)⟩, HF.out.2⟩
                case measure => simp [intOf]; omega
              | true =>
                rw [hsi, if_pos rfl] at hci
                have HS := Lib.hid hsi
                clear hsi
                cases hsj : seen.getD j false with
                | true =>
                  rw [hsj, if_pos rfl] at hcj
                  have HSJ := Lib.hid hsj
                  clear hsj
                  go_wp2_with fail
                  go_roundw
                  case rel => exact ⟨b + 1, mb, seen, by omega, by go_num, rfl, HR.out, HMm.out, fun h9 => ⟨(HF.out.1 h9).1, (HF.out.1 h9).2.1, HST.out.2 seen (HF.out.1 h9).2.2 (fun _ => HSJ.out)⟩, HF.out.2⟩
                  case measure => simp [intOf]; omega
                | false =>
                  rw [hsj, if_neg (by decide)] at hcj
                  have HSJ := Lib.hid hsj
                  have HRJ := Lib.hid (HR.out.mark j)
                  clear hsj
                  go_wp2_with fail
                  go_roundw
                  case rel =>
                    refine ⟨b + 1, true, seen.set j true, by omega, by go_num, rfl, HRJ.out, HMm.out.push (HST.out.1 HS.out), fun h9 => (by cases h9), fun _ => ?_⟩
                    have h8 := falses_set (l := seen) (j := j) (by rw [HR.out.len]; exact hjn) HSJ.out
                    cases mb with
                    | false => have := (HF.out.1 rfl).1; omega
                    | true => have := HF.out.2 rfl; omega
                  case measure => simp [intOf]; omega
            · obtain rfl : b = 256 := by omega
              go_wp2_with fail
              go_roundw
              case rel =>
                refine ⟨q + 1, mb, seen, by omega, by go_num, rfl, HR.out, HMm.out, fun h9 => ⟨(HF.out.1 h9).1, fun i hi => ?_⟩, HF.out.2⟩
                by_cases e9 : i = q
                · subst e9; exact (HF.out.1 h9).2.2
                · exact (HF.out.1 h9).2.1 i (by omega)
              case measure => simp [intOf]; omega
        · obtain rfl : q = n0 := by omega
          go_wp2_with fail
          go_roundw
          case rel => exact ⟨mb, seen, rfl, HR.out, HMm.out, fun h9 => (HF.out.1 h9).2⟩
          case measure =>
            rw [HLF.out, left2_eq HR.out.blk]
            cases mb with
            | false => have := (HF.out.1 rfl).1; simp; omega
            | true => have := HF.out.2 rfl; simp; omega
end Go.Proofs.Ythjnkpoalbddkaa
