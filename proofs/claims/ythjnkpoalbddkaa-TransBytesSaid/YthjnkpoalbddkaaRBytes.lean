/- The reference's Bytes. -/
import Derived.Test.YthjnkpoalbddkaaBox51
import Derived.Test.YthjnkpoalbddkaaRight
namespace Go.Proofs.Ythjnkpoalbddkaa
open Go.RowKit
attribute [local go_sem ↓] load_box store_box

open Classical in
noncomputable def okB (m : Mach) : Bool := if BytesOk m then true else false
theorem okB_yes {m : Mach} (h : BytesOk m) : okB m = true := by unfold okB; rw [if_pos h]
theorem okB_no {m : Mach} (h : ¬ BytesOk m) : okB m = false := by unfold okB; rw [if_neg h]
theorem zeros_tab (m : Mach) : Try.zeroCells51 = (tab m 0).toArray := by rw [tab_zero]; exact zeros51
theorem byte_at {t : ByteArray} {x : UInt8} (h : t.data.toList = [x]) (W : World) : (Instr.index 9 (.string t) (.int .i64 0)).run Try.prog W = .ok (.int .u8 (x.toNat : Int)) W := by
  have hs : t.size = 1 := by rw [← size_data, h]; rfl
  rw [run_index_string W 9 t .i64 _ Try.underlying9, dif_pos ⟨by omega, by omega⟩]
  have h0 : t.data.toList[0]'(by rw [h]; simp) = x := by simp [h]
  have h1 : t[Int.toNat 0]'(by rw [show Int.toNat 0 = 0 from rfl]; omega) = x := h0
  rw [h1]
set_option maxRecDepth 100000 in
set_option maxHeartbeats 8000000 in
theorem rbytes_ok (A0 A1 A2 A3 : Option Addr) (n0 n1 n2 n3 c0 c1 c2 c3 : Nat) (m : Mach) (RA : Nat → Option Addr) (rc : Nat → Nat) (PA : Nat → Option Addr) (pc : Nat → Nat) (w : World) (h : MachIn w A0 A1 A2 A3 n0 n1 n2 n3 m RA rc PA pc) (hr : RightM m) :
    Calls Try.prog 30 #[.agg #[.slice A0 n0 c0, .slice A1 n1 c1, .slice A2 n2 c2, .slice A3 n3 c3]] w fun e w' => e = .returned (.tuple #[.agg (tab m (if okB m = true then 256 else 0)).toArray, .bool (okB m)]) ∧ Below w.heap.size w w' := by
  obtain ⟨wz, hstz, hLz⟩ := store_zero (LB.start w A0 A1 A2 A3 n0 n1 n2 n3 c0 c1 c2 c3 m)
  have LZ := Lib.hid hLz
  have q0 := hLz.q0
  have q1 := hLz.q1
  have q2 := hLz.q2
  have q3 := hLz.q3
  have HRE := Lib.hid (reached_new A0 A1 A2 A3 n0 n1 n2 n3 c0 c1 c2 c3 m RA rc PA pc wz (h.keep hLz.bel) hr)
  have hl0 := h.next.len
  have hl2 := h.elen
  have hl3 := h.tlen
  have hhi := hr.hi
  have hlo := hr.lo
  have hen := hr.ends
  have H := Lib.hid h
  have HM := Lib.hid hr
  obtain ⟨bq, hbq⟩ : ∃ bq, bq = okB m := ⟨_, rfl⟩
  obtain ⟨cf, hcf⟩ : ∃ cf, cf = if bq = true then 256 else 0 := ⟨_, rfl⟩
  rw [← hbq, ← hcf]
  have HBQ := Lib.hid hbq
  have HCF := Lib.hid hcf
  have HNO := Lib.hid (show ¬ BytesOk m → bq = false ∧ cf = 0 from fun h9 => by
    have h8 : bq = false := by rw [hbq]; exact okB_no h9
    refine ⟨h8, ?_⟩
    rw [hcf, h8]; rfl)
  have HYES := Lib.hid (show BytesOk m → bq = true ∧ cf = 256 from fun h9 => by
    have h8 : bq = true := by rw [hbq]; exact okB_yes h9
    refine ⟨h8, ?_⟩
    rw [hcf, h8]; rfl)
  clear h hr hLz hbq hcf HBQ HCF
  go_enter Try.func30, Try.ntmps30
  go_wp2_with fail
  refine HRE.out.mono ?_
  rintro e w1 ⟨g, seen, rfl, hblk, hsl, hmet, hb1, hg⟩
  have hgb : w.heap.size + 1 + 1 < g := Nat.lt_of_lt_of_le LZ.out.lt hg
  have L1 := Lib.hid (LZ.out.go hb1)
  have HBK := Lib.hid hblk
  have HSL := Lib.hid hsl
  have HMET := Lib.hid hmet
  have HGB := Lib.hid hgb
  clear hblk hsl hmet hb1 hg hgb LZ HRE q0 q1 q2 q3 hstz
  go_wp2_with fail
  go_loopw [13] (fun x wr => ∃ k : Nat, k ≤ n0 ∧ x = .int .i64 k ∧ LB w A0 A1 A2 A3 n0 n1 n2 n3 c0 c1 c2 c3 m wr (tab m (if 0 < k then 256 else 0)) ∧ Blk wr g 3 (bitsV seen) ∧ ∀ i, i < k → Met m i → Same1 m i) (fun x _ => n0 - (intOf x).toNat)
  case atStart => exact ⟨0, by omega, rfl, L1.out, HBK.out, fun i hi => by omega⟩
  case round =>
    clear L1 HBK
    obtain ⟨k, hk, rfl, hL, hB, hS⟩ := hrel
    obtain ⟨w2, rfl⟩ : ∃ w2 : World, w2 = wr := ⟨_, rfl⟩
    have L2 := Lib.hid hL
    have HB2 := Lib.hid hB
    have HS := Lib.hid hS
    clear hL hB hS
    by_cases hlt : k < n0
    · have hcell : w2.cell? ⟨g, k, none⟩ = some (.int .i64 (if seen.getD k false = true then 1 else 0)) := by rw [HB2.out.cell, bitsV_get (by rw [HSL.out]; exact hlt)]
      have hmk := HMET.out k hlt
      cases hsk : seen.getD k false with
      | false =>
        rw [hsk, if_neg (by decide)] at hcell
        have hnm : ¬ Met m k := fun h9 => by rw [hmk.2 h9] at hsk; cases hsk
        have hk0 : 0 < k := by
          rcases Nat.eq_zero_or_pos k with rfl | h9
          · exact absurd .start hnm
          · exact h9
        have HN := Lib.hid hnm
        have HK0 := Lib.hid hk0
        clear hmk hsk hnm hk0
        go_wp2_with fail
        go_roundw
        case rel =>
          refine ⟨k + 1, by omega, by go_num, ?_, HB2.out, fun i hi hmi => ?_⟩
          · have := L2.out
            rw [if_pos HK0.out] at this
            rw [if_pos (by omega)]
            exact this
          · by_cases e9 : i = k
            · subst e9; exact absurd hmi HN.out
            · exact HS.out i (by omega) hmi
        case measure => simp [intOf]; omega
      | true =>
        rw [hsk, if_pos rfl] at hcell
        have HMK := Lib.hid (hmk.1 hsk)
        clear hmk hsk
        have hst := HM.out.states k (by omega)
        have hlo := hst.endlo
        have hhi2 := hst.endhi
        have HW := Lib.hid (H.out.keep L2.out.bel)
        obtain ⟨b2, o2, hA2, _, hc2⟩ := HW.out.earr.one (k := k) (by omega)
        unfold NumC at hc2
        obtain ⟨ee, hee⟩ := Int.eq_ofNat_of_zero_le hlo
        obtain ⟨b3, o3, hA3, _, hc3⟩ := HW.out.tarr.one (k := ee) (by omega)
        unfold StrC at hc3
        rw [hee] at hc2
        have het : endText m k = m.texts.getD ee ⟨#[]⟩ := by unfold endText; rw [hee]; rfl
        rw [← het] at hc3
        obtain ⟨t, ht⟩ : ∃ t, t = endText m k := ⟨_, rfl⟩
        rw [← ht] at hc3
        have HT := Lib.hid ht
        have hx1 : (k : Int) < (n2 : Int) := by omega
        have hx2 : (ee : Int) < (n3 : Int) := by omega
        have q0 := L2.out.q0
        have q1 := L2.out.q1
        have q2 := L2.out.q2
        have q3 := L2.out.q3
        have hstz : ∀ nq, (storeBox (.pointer (some ⟨w.heap.size + 1, 0, none⟩)) (.agg Try.zeroCells51)).run Try.prog (w2.drewN nq) = .ok () ((w2.drewN nq).setRow (w.heap.size + 1) Try.zeroCells51) := fun nq => by rw [zeros_tab m]; exact (L2.out.go (below_drewN (Below.refl _ _) nq)).store 0
        clear hst hlo hhi2 hee het ht
        have HA2 := Lib.hid hA2
        have HA3 := Lib.hid hA3
        subst hA2
        subst hA3
        by_cases hts : t.size = 0
        · have e1 : t.toList.isEmpty = true := by rw [strB]; simp [hts]
          have HTS := Lib.hid hts
          clear hts
          go_wp2_with fail
          go_quiet (fail)
          go_wp2_with fail
          rename_i nq _ _
          obtain ⟨c0', hc0⟩ : ∃ c0', c0' = if 0 < k then 256 else 0 := ⟨_, rfl⟩
          have hL3 := L2.out.go (below_drewN (Below.refl _ _) nq)
          rw [← hc0] at hL3
          have L3 := Lib.hid hL3
          have HB3 := Lib.hid (HB2.out.drewN nq)
          have hcc : c0' = 256 ∨ c0' = 0 := by rw [hc0]; split <;> simp
          have HCC := Lib.hid hcc
          clear hL3 hc0 hcc L2 HB2 q0 q1 q2 q3 hc2 hc3 hstz HW
          generalize w2.drewN nq = w3 at L3 HB3 ⊢
          go_loopw [7] (fun x wr => ∃ b : Nat, b ≤ 256 ∧ x = .int .i64 b ∧ LB w A0 A1 (some ⟨b2, o2, none⟩) (some ⟨b3, o3, none⟩) n0 n1 n2 n3 c0 c1 c2 c3 m wr (tab m (max c0' b)) ∧ Blk wr g 3 (bitsV seen) ∧ ∀ j, j < b → SameAt m k j) (fun x _ => 256 - (intOf x).toNat)
          case atStart => exact ⟨0, by omega, rfl, by rw [Nat.max_eq_left (by omega)]; exact L3.out, HB3.out, fun j hj => by omega⟩
          case round =>
            clear L3 HB3
            obtain ⟨b, hb, rfl, hL, hB, hS⟩ := hrel
            obtain ⟨w4, rfl⟩ : ∃ w4 : World, w4 = wr := ⟨_, rfl⟩
            have L4 := Lib.hid hL
            have HB4 := Lib.hid hB
            have HS4 := Lib.hid hS
            clear hL hB hS
            by_cases hlb : b < 256
            · have q0 := L4.out.q0
              have q1 := L4.out.q1
              have q2 := L4.out.q2
              have q3 := L4.out.q3
              have hcb : (UInt8.ofNat b).toNat = b := by simp; omega
              have HOUT := Lib.hid (out_any A0 A1 (some ⟨b2, o2, none⟩) (some ⟨b3, o3, none⟩) n0 n1 n2 n3 c0 c1 c2 c3 m RA rc PA pc w4 (H.out.keep L4.out.bel) HM.out k hlt (UInt8.ofNat b))
              have HOUT0 := Lib.hid (fun W hW => out_any A0 A1 (some ⟨b2, o2, none⟩) (some ⟨b3, o3, none⟩) n0 n1 n2 n3 c0 c1 c2 c3 m RA rc PA pc W hW HM.out 0 (by omega) (UInt8.ofNat b))
              rw [hcb] at HOUT HOUT0
              obtain ⟨ot, hot⟩ : ∃ ot : ByteArray, ot = ⟨(outT m k (UInt8.ofNat b)).toArray⟩ := ⟨_, rfl⟩
              obtain ⟨oz, hoz⟩ : ∃ oz : ByteArray, oz = ⟨(outT m 0 (UInt8.ofNat b)).toArray⟩ := ⟨_, rfl⟩
              have hol : (outT m k (UInt8.ofNat b)).length ≤ 4097 := outT_len HM.out (by omega) (UInt8.ofNat b)
              have hos : ot.size = (outT m k (UInt8.ofNat b)).length := by rw [hot]; simp [ByteArray.size]
              rw [← hot] at HOUT
              rw [← hoz] at HOUT0
              rw [← hos] at hol
              have hbi : (b : Int) < 256 := by omega
              have HOT := Lib.hid (And.intro hot (And.intro hoz hos))
              clear hot hoz hos hcb
              by_cases h1 : ot.size = 1
              · have e1 : ((ot.size : Int) != 1) = false := by simp [h1]
                go_wp2_with fail
                refine HOUT.out.mono ?_
                rintro e w5 ⟨rfl, hb5⟩
                have L5 := Lib.hid (L4.out.go hb5)
                have HB5 := Lib.hid (HB4.out.below hb5 HB4.out.lt)
                clear hb5 q0 q1 q2 q3
                have q0 := L5.out.q0
                have q1 := L5.out.q1
                have q2 := L5.out.q2
                have q3 := L5.out.q3
                go_wp2_with fail
                refine (HOUT0.out w5 (H.out.keep L5.out.bel)).mono ?_
                rintro e w6 ⟨rfl, hb6⟩
                have L6 := Lib.hid (L5.out.go hb6)
                have HB6 := Lib.hid (HB5.out.below hb6 HB5.out.lt)
                clear hb6 q0 q1 q2 q3
                by_cases h2 : ot = oz
                · have e2 := eqB_true h2
                  have hsame : SameAt m k b := ⟨by rw [← HOT.out.2.2]; exact h1, by
                    have h3 := HOT.out.1
                    have h4 := HOT.out.2.1
                    rw [h2] at h3
                    have h5 := h3.symm.trans h4
                    simpa using h5⟩
                  have hix := byte_at (t := ot) (x := byteOf m b) (by rw [HOT.out.1]; simpa using sameAt_one hsame)
                  have hcl := L6.out.o.cell b
                  rw [tab_get _ _ hlb] at hcl
                  have hfr := L6.out.o.frozen b
                  have HSA := Lib.hid hsame
                  have hby := (byteOf m b).toNat_lt
                  obtain ⟨y, hy⟩ : ∃ y, y = (byteOf m b).toNat := ⟨_, rfl⟩
                  have hset := L6.out.set b (.int .u8 ((byteOf m b).toNat : Int))
                  rw [tab_set m hlb (by have := HCC.out; omega), ← hy, Nat.max_assoc, Nat.max_eq_right (by omega : b ≤ b + 1)] at hset
                  rw [← hy] at hix hby
                  have LS := Lib.hid hset
                  obtain ⟨old, hold⟩ : ∃ old : Int, old = if b < max c0' b then ((byteOf m b).toNat : Int) else 0 := ⟨_, rfl⟩
                  rw [← hold] at hcl
                  clear h2 hsame hset hy hold
                  go_wp2_with fail
                  go_roundw
                  case rel =>
                    refine ⟨b + 1, by omega, by go_num, LS.out, HB6.out.same (Below.heap_setCell _ _ _ g (fun e9 => by have := HGB.out; simp at e9; omega)), fun j hj => ?_⟩
                    by_cases e9 : j = b
                    · subst e9; exact HSA.out
                    · exact HS4.out j (by omega)
                  case measure => simp [intOf]; omega
                · have e2 := eqB_false h2
                  have hst : (storeBox (.pointer (some ⟨w.heap.size + 1, 0, none⟩)) (.agg Try.zeroCells51)).run Try.prog w6 = .ok () (w6.setRow (w.heap.size + 1) Try.zeroCells51) := by rw [zeros_tab m]; exact L6.out.store 0
                  have hno := HNO.out (fun h9 => h2 (by
                    rw [HOT.out.1, HOT.out.2.1, ((h9 k HMK.out).2 b hlb).2]))
                  obtain ⟨h8, h9⟩ := hno
                  subst h8
                  subst h9
                  go_wp2_with fail
                  (try simp only [Exit.inBlock, Exit.then])
                  refine bodyPost_ret (res51 (cs := tab m 0) rfl rfl rfl (by rw [zeros_tab m]; exact L6.out.res _) (tab_len m 0)) rfl ?_
                  exact ⟨rfl, L6.out.out _⟩
              · have e1 : ((ot.size : Int) != 1) = true := by simp; omega
                go_wp2_with fail
                refine HOUT.out.mono ?_
                rintro e w5 ⟨rfl, hb5⟩
                have L5 := Lib.hid (L4.out.go hb5)
                clear hb5 q0 q1 q2 q3
                have hst : (storeBox (.pointer (some ⟨w.heap.size + 1, 0, none⟩)) (.agg Try.zeroCells51)).run Try.prog w5 = .ok () (w5.setRow (w.heap.size + 1) Try.zeroCells51) := by rw [zeros_tab m]; exact L5.out.store 0
                have hno := HNO.out (fun h9 => h1 (by
                  rw [HOT.out.2.2]; exact ((h9 k HMK.out).2 b hlb).1))
                obtain ⟨h8, h9⟩ := hno
                subst h8
                subst h9
                go_wp2_with fail
                (try simp only [Exit.inBlock, Exit.then])
                refine bodyPost_ret (res51 (cs := tab m 0) rfl rfl rfl (by rw [zeros_tab m]; exact L5.out.res _) (tab_len m 0)) rfl ?_
                exact ⟨rfl, L5.out.out _⟩
            · obtain rfl : b = 256 := by omega
              go_wp2_with fail
              go_roundw
              case rel =>
                refine ⟨k + 1, by omega, by go_num, ?_, HB4.out, fun i hi hmi => ?_⟩
                · have := L4.out
                  rw [show max c0' 256 = 256 by have := HCC.out; omega] at this
                  rw [if_pos (by omega)]
                  exact this
                · by_cases e9 : i = k
                  · subst e9; exact ⟨by rw [← HT.out]; exact HTS.out, HS4.out⟩
                  · exact HS.out i (by omega) hmi
              case measure => simp [intOf]; omega
        · have e1 : t.toList.isEmpty = false := by rw [strB]; simp [hts]
          have hno := HNO.out (fun h9 => hts (by have := (h9 k HMK.out).1; rw [HT.out]; exact this))
          obtain ⟨h8, h9⟩ := hno
          subst h8
          subst h9
          clear hts
          go_wp2_with fail
          go_quiet (fail)
          go_wp2_with fail
          rename_i nq _ _
          have L3 := Lib.hid (L2.out.go (below_drewN (Below.refl _ _) nq))
          (try simp only [Exit.inBlock, Exit.then])
          refine bodyPost_ret (res51 (cs := tab m 0) rfl rfl rfl (by rw [zeros_tab m]; exact L3.out.res _) (tab_len m 0)) rfl ?_
          exact ⟨rfl, L3.out.out _⟩
    · obtain rfl : k = n0 := by omega
      have hL := L2.out
      rw [if_pos (by omega)] at hL
      have hld := hL.load
      have hst := hL.store 256
      have L3 := Lib.hid hL
      obtain ⟨h8, h9⟩ := HYES.out (fun i hi => HS.out i (by have := hi.lt HM.out; omega) hi)
      subst h8
      subst h9
      clear hL
      go_wp2_with fail
      (try simp only [Exit.inBlock, Exit.then])
      refine bodyPost_ret (res51 (cs := tab m 256) rfl rfl rfl (L3.out.res _) (tab_len m 256)) rfl ?_
      exact ⟨rfl, L3.out.out _⟩
end Go.Proofs.Ythjnkpoalbddkaa
