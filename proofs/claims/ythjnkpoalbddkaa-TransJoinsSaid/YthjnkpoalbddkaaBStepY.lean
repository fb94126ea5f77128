/- Build's step, and its end. -/
import Derived.Test.YthjnkpoalbddkaaBCtxY
import Derived.Deep.Cut
import Derived.Deep.CutRange
import Derived.Deep.CutBlock
namespace Go.Proofs.Ythjnkpoalbddkaa
open Go.RowKit Go.Maps Go.WideMaps
set_option maxRecDepth 100000 in
set_option maxHeartbeats 8000000 in
theorem bstep_any (w0 : World) (l : List SR) (A : Option Addr) (n c : Nat) (bo bt br go gt ko kt : Nat) (Do Dt : DataW Unit) (W : World) (h : BCtx w0 l A n c bo bt br go gt ko kt Do Dt W) (w : Bs) (hw : OpenW (rulesOf l) w) (ch : UInt8) :
    Calls Try.prog 58 #[.string ⟨w.toArray⟩, .int .u8 (ch.toNat : Int), .pointer (some ⟨bo, 0, none⟩), .pointer (some ⟨bt, 0, none⟩)] W fun e W' =>
      e = .returned (.tuple #[.string ⟨(stepB (rulesOf l) w ch).1.toArray⟩, .string ⟨(stepB (rulesOf l) w ch).2.toArray⟩]) ∧ Below W.heap.size W W' := by
  obtain ⟨res, hres⟩ : ∃ res, res = stepB (rulesOf l) w ch := ⟨_, rfl⟩
  rw [← hres]
  have hwl := open_len h.h16 hw
  have hcb := ch.toNat_lt
  have hcv : UInt8.ofNat ch.toNat = ch := by simp
  obtain ⟨cn, hcn⟩ : ∃ cn, cn = ch.toNat := ⟨_, rfl⟩
  have hconv := run_byte_string (P := Try.prog) W 54 5 9 Try.underlying54 Try.underlying5 Try.underlying9 (cn : Int) (by omega) (by omega)
  rw [show UInt8.ofNat (cn : Int).toNat = ch by rw [hcn]; simp] at hconv
  rw [← hcn]
  have HRES := Lib.hid hres
  have H := Lib.hid h
  have hbW : Below W.heap.size W (W.alloc (.cells #[.int .u8 (cn : Int)] 5)) := (Below.refl _ _).alloc (Nat.le_refl _) _
  have HBW := Lib.hid hbW
  obtain ⟨y0, hy0⟩ : ∃ y0 : ByteArray, y0 = (⟨w.toArray⟩ : ByteArray) ++ ⟨#[ch]⟩ := ⟨_, rfl⟩
  have hyl : y0.data.toList = w ++ [ch] := by rw [hy0]; simp
  have hys : y0.size = w.length + 1 := by rw [← size_data, hyl]; simp
  have HY := Lib.hid (And.intro hyl hys)
  have hfit := h.ok.fit
  have HFIT := Lib.hid hfit
  clear h hw hres hcv hbW hyl hys hfit hcb hcn
  go_enter Try.func58, Try.ntmps58
  go_wp2_with fail
  rw [← hy0]
  clear hconv hy0
  generalize W.alloc (.cells #[.int .u8 (cn : Int)] 5) = w1 at HBW ⊢
  go_loopw [0, 8] (fun x o wr => ∃ (y ob : ByteArray) (k : Nat), x = .string y ∧ o = .string ob ∧ cuts (rulesOf l) k (ob.data.toList, y.data.toList) = res ∧ y.size ≤ k ∧ y.size ≤ 16 ∧ ob.size + 32 * y.size ≤ 512 ∧ Below W.heap.size W wr) (fun x _ _ => strLen x)
  case atStart => exact ⟨y0, ⟨#[]⟩, w.length + 1, rfl, rfl, by rw [HRES.out, HY.out.1]; rfl, by rw [HY.out.2]; exact Nat.le_refl _, by rw [HY.out.2]; omega, by rw [HY.out.2]; simp [ByteArray.size]; omega, HBW.out⟩
  case round =>
    obtain ⟨y, ob, k, rfl, rfl, hcu, hyk, hy16, hob, hbel⟩ := hrel
    have HC := Lib.hid (H.out.go' hbel)
    have HCU := Lib.hid hcu
    have HBL := Lib.hid hbel
    have o0 := HC.out.xo.cell 0
    have t0 := HC.out.xt.cell 0
    simp only [List.getElem?_cons_zero] at o0 t0
    have hlo := opn_lookup HC.out.mo HC.out.opn y (by unfold maxLen; omega)
    obtain ⟨bo9, hbo9⟩ : ∃ b, b = openB (rulesOf l) y.data.toList := ⟨_, rfl⟩
    rw [← hbo9] at hlo
    have HBO := Lib.hid hbo9
    obtain ⟨w4, rfl⟩ : ∃ w4 : World, w4 = wr := ⟨_, rfl⟩
    clear hcu hbel hbo9
    cases bo9 with
    | true =>
      go_wp2_with fail
      go_ret2
      have hop := openB_iff.1 HBO.out.symm
      have e : (ob.data.toList, y.data.toList) = res := by rw [← HCU.out, cuts_open hop]
      rw [← e]
      exact ⟨rfl, HBL.out⟩
    | false =>
      have hno : ¬ OpenW (rulesOf l) y.data.toList := fun h9 => by
        have := openB_iff.2 h9
        rw [← HBO.out] at this
        cases this
      have hyp : 0 < y.size := by
        apply Nat.pos_of_ne_zero
        intro e
        exact hno (.inl (List.eq_nil_of_length_eq_zero (by rw [size_data]; exact e)))
      obtain ⟨k', rfl⟩ : ∃ k', k = k' + 1 := ⟨k - 1, by omega⟩
      have HNO := Lib.hid hno
      clear hno
      go_wp2_with fail
      go_loopw [8, 9] (fun o x wr => ∃ p : Nat, p ≤ y.size ∧ x = .int .i64 p ∧ o = .string ob ∧ Below w4.heap.size w4 wr ∧ ∀ r ∈ rulesOf l, r.1 <+: y.data.toList → r.1.length ≤ p) (fun _ x _ => (intOf x).toNat)
      case atStart => exact ⟨y.size, Nat.le_refl _, rfl, rfl, Below.refl _ _, fun r _ hp => by have := hp.length_le; rw [size_data] at this; exact this⟩
      case round =>
        obtain ⟨p, hpy, rfl, rfl, hb5, hmo⟩ := hrel
        have HMO := Lib.hid hmo
        have HC5 := Lib.hid (HC.out.go' hb5)
        have HB5 := Lib.hid (HBL.out.trans (hb5.mono HBL.out.size))
        have HB45 := Lib.hid hb5
        obtain ⟨w5, rfl⟩ : ∃ w5 : World, w5 = wr := ⟨_, rfl⟩
        have t0 := HC5.out.xt.cell 0
        simp only [List.getElem?_cons_zero] at t0
        clear hb5 hmo o0 hlo
        by_cases h0 : 0 < p
        · have hpi : (0 : Int) < (p : Int) := by omega
          obtain ⟨pc, hpl, hps, hsl⟩ := cut_to y p hpy
          have hll := H.out.ll
          have hlook : ∀ nq, (Instr.lookup 60 (.map (some gt)) (.string pc) true).run Try.prog (w5.drewN nq) = .ok (.tuple #[.string (orNone (toF l l.length pc.data.toList)), .bool (toF l l.length pc.data.toList).isSome]) (w5.drewN nq) := fun nq =>
            tells_lookup (HC5.out.go' (below_drewN (Below.refl _ _) nq)).mt HC5.out.tel pc (by unfold maxLen; omega)
          rw [hpl] at hlook
          cases hF : toF l l.length (y.data.toList.take p) with
          | some u =>
            rw [hF] at hlook
            simp only [orNone, Option.isSome_some] at hlook
            obtain ⟨r, hbest, hrl, hru, hu32⟩ := H.out.ok.best (by rw [size_data]; exact hpy) HMO.out hF
            have hnx := one_hit (o := ob.data.toList) HFIT.out hbest
            rw [hrl, hru] at hnx
            have HNX := Lib.hid hnx
            obtain ⟨tc, htl, hts, htsl⟩ := cut_from y p hpy
            have HTL := Lib.hid htl
            have ne0 : ((p : Int) == 0) = false := by simp; omega
            clear hbest hrl hru hF hnx hpl htl hll
            go_wp2_with fail
            go_quiet (fail)
            go_wp2_with fail
            go_roundw
            case rel =>
              refine ⟨tc, ob ++ u, k', rfl, rfl, ?_, by omega, by omega, by rw [ByteArray.size_append]; omega, HB5.out.trans (below_drewN (Below.refl w5.heap.size w5) _ |>.mono HB5.out.size)⟩
              have h9 := HCU.out
              rw [cuts_go HNO.out, HNX.out] at h9
              rw [← h9, HTL.out]
              simp
            case measure => simp [strLen]; omega
          | none =>
            rw [hF] at hlook
            simp only [orNone, Option.isSome_none] at hlook
            have HM2 := Lib.hid (most_less HMO.out hF)
            clear hF hpl hll
            go_wp2_with fail
            go_quiet (fail)
            go_wp2_with fail
            go_roundw
            case rel => exact ⟨p - 1, by omega, by go_num, rfl, HB45.out.trans (below_drewN (Below.refl w5.heap.size w5) _ |>.mono HB45.out.size), HM2.out⟩
            case measure => simp [intOf]; omega
        · obtain rfl : p = 0 := by omega
          have hnone := none_of H.out.ok HMO.out
          obtain ⟨cc, tt, hdr, hdr1, _⟩ := index_byte y 0 hyp
          rw [List.drop_zero] at hdr
          rw [hdr] at hnone
          have HNX := Lib.hid (one_miss (o := ob.data.toList) hnone)
          obtain ⟨hc, hhl, hhs, hhsl⟩ := cut_to y 1 (by omega)
          obtain ⟨tc, htl, hts, htsl⟩ := cut_from y 1 (by omega)
          have hhd : hc.data.toList = [cc] := by rw [hhl, hdr]; rfl
          have htd : tc.data.toList = tt := by rw [htl, ← hdr1]
          have HHD := Lib.hid (And.intro hhd (And.intro htd hdr))
          have hhsl : ∀ W, (Instr.slice 9 (.string y) none (some (.int .i64 1)) none).run Try.prog W = .ok (.string hc) W := hhsl
          have htsl : ∀ W, (Instr.slice 9 (.string y) (some (.int .i64 1)) none none).run Try.prog W = .ok (.string tc) W := htsl
          clear hnone hdr hdr1 hhl htl hhd htd
          go_wp2_with fail
          go_roundw
          case rel =>
            refine ⟨tc, ob ++ hc, k', rfl, rfl, ?_, by omega, by omega, by rw [ByteArray.size_append]; omega, HB5.out⟩
            have h9 := HCU.out
            rw [cuts_go HNO.out, HHD.out.2.2, HNX.out] at h9
            rw [← h9, HHD.out.2.1]
            simp [HHD.out.1]
          case measure => simp [strLen]; omega
set_option maxRecDepth 100000 in
set_option maxHeartbeats 8000000 in
theorem bend_any (w0 : World) (l : List SR) (A : Option Addr) (n c : Nat) (bo bt br go gt ko kt : Nat) (Do Dt : DataW Unit) (W : World) (h : BCtx w0 l A n c bo bt br go gt ko kt Do Dt W) (w : Bs) (hw : OpenW (rulesOf l) w) :
    Calls Try.prog 59 #[.string ⟨w.toArray⟩, .pointer (some ⟨br, 0, none⟩)] W fun e W' => e = .returned (.string ⟨(finB (rulesOf l) w).toArray⟩) ∧ Below W.heap.size W W' := by
  have hwl := open_len h.h16 hw
  have hap := apply_ok A n c l ⟨w.toArray⟩ W h.ll ((h.arr.below h.bel).more h.bel.size) (fun k hk => by
    have h1 := (h.ok.2 k (by rw [h.ll]; exact hk)).few
    have h2 := (h.ok.2 k (by rw [h.ll]; exact hk)).few2
    unfold maxLen
    omega) h.ok (by simp [ByteArray.size]; omega)
  have HAP := Lib.hid hap
  have HU := Lib.hid (fun o (h9 : Rew (rulesOf l) w o) => h9.unique h.ok.fit (finB_rew h.ok.fit w))
  have r0 := h.xr.cell 0
  simp only [List.getElem?_cons_zero] at r0
  clear h hw hap
  go_enter Try.func59, Try.ntmps59
  go_wp2_with fail
  refine HAP.out.mono ?_
  rintro e W' ⟨o, hrw, hol, rfl, hb⟩
  have ho := HU.out o hrw
  have HB := Lib.hid hb
  have HO := Lib.hid ho
  clear hrw hb ho
  go_wp2_with fail
  go_returns
  exact ⟨by rw [← HO.out]; first | rfl | simp, HB.out⟩
end Go.Proofs.Ythjnkpoalbddkaa
