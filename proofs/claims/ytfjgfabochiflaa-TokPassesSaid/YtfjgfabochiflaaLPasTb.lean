/- TokPasses, with its configuration and text laid open. -/
import Derived.Test.YtfjgfabochiflaaLLoTb
import Derived.Deep.Cut
import Derived.Deep.CutRange
namespace Go.Proofs.Ytfjgfabochiflaa
open Go.RowKit
open H14 (Blk But TS Eg numsV bytesI fget)

/-- a configuration without merges -/
def noM (c : Cfg) : Cfg := { c with merges := [] }
def noMA (a : CfgAd) : CfgAd := { a with M := none, nm := 0, cm := 0 }
theorem noM_in {w : World} {c : Cfg} {a : CfgAd} (h : CfgIn w c a) : CfgIn w (noM c) (noMA a) :=
  ⟨h.plen, h.ple, h.parr, h.prow, h.prl, h.psz, h.tree, h.wf, rfl, by show 0 ≤ _; omega, fun h9 => absurd h9 (by show ¬ 0 < 0; omega), h.nlen, h.nle, h.ncap, h.narr, h.blen, h.ble, h.barr, h.alen, h.ale, h.aarr⟩
theorem noM_ok {c : Cfg} (h : cfgE c = 0) : cfgE (noM c) = 0 := by
  obtain ⟨hF, hR⟩ := cfgE_zero h
  exact cfgE_ok ⟨hF.few, hF.pass, hF.grow, hF.split, hF.size, rfl⟩ ⟨hR.few, hR.names, hR.before, hR.after⟩
theorem scan_nil : ∀ (out : List Int) (n : Nat), H14.R13.scanTo [] out n = none
  | _, 0 => rfl
  | out, n + 1 => by
    rw [H14.R13.scanTo, scan_nil out n]
    rfl
theorem pieceI_nil (p : ByteArray) : pieceI [] p = bytesI p := by
  unfold pieceI H14.R13.mergeAll
  exact H14.R13.mergeF_stop (scan_nil _ _)
theorem piecesI_nil : ∀ P : List ByteArray, piecesI [] P = (P.flatMap (·.data.toList)).map fun b => (b.toNat : Int)
  | [] => rfl
  | p :: P => by
    have e : piecesI [] (p :: P) = pieceI [] p ++ piecesI [] P := by simp [piecesI]
    rw [e, pieceI_nil, piecesI_nil P, List.flatMap_cons, List.map_append]
    rfl
theorem tokL_noM (c : Cfg) (x : ByteArray) : tokL (noM c) x = upI 0 c.before ++ bytesI x ++ upI 0 c.after := by
  unfold tokL
  show upI 0 c.before ++ piecesI [] (piecesT c.split x) ++ upI 0 c.after = _
  rw [piecesI_nil, pieces_join]
  rfl
theorem tokL_at (c : Cfg) (x : ByteArray) (i : Nat) (h : i < x.size) : (tokL (noM c) x).getD (c.before.length + i) 0 = (bytesI x).getD i 0 := by
  have hb : (bytesI x).length = x.size := H14.length_bytesI x
  have hu : (upI 0 c.before).length = c.before.length := by simp [upI]
  rw [tokL_noM, List.append_assoc, List.getD, List.getElem?_append_right (by omega), hu, List.getElem?_append_left (by omega), Nat.add_sub_cancel_left]
  rfl

set_option maxRecDepth 100000 in
set_option maxHeartbeats 16000000 in
theorem law_passes (c : Cfg) (a : CfgAd) (s : ByteArray) (W : World) (h : CfgIn W c a) :
    Calls Try.prog 8 #[.agg #[.slice a.P a.np a.cp, .int .i64 c.split.kind, .int .u64 c.split.s0, .int .u64 c.split.s1, .int .u64 c.split.s2, .int .u64 c.split.s3, .int .i64 c.split.lo, .int .i64 c.split.hi, .slice a.T a.nt a.ct, .slice a.M a.nm a.cm, .slice a.N a.nn a.cn, .slice a.B a.nb a.cb, .slice a.A a.na a.ca], .string s] W fun e w' => e = .returned (.bool true) ∧ Below W.heap.size W w' := by
  obtain ⟨w1, hw1⟩ : ∃ w1, w1 = W.alloc (.cells #[.slice a.P a.np a.cp, .int .i64 c.split.kind, .int .u64 c.split.s0, .int .u64 c.split.s1, .int .u64 c.split.s2, .int .u64 c.split.s3, .int .i64 c.split.lo, .int .i64 c.split.hi, .slice a.T a.nt a.ct, .slice a.M a.nm a.cm, .slice a.N a.nn a.cn, .slice a.B a.nb a.cb, .slice a.A a.na a.ca] 34) := ⟨_, rfl⟩
  have hb0 : Below W.heap.size W w1 := by rw [hw1]; exact (Below.refl _ _).alloc (Nat.le_refl _) _
  have hgl : W.heap.size < w1.heap.size := by rw [hw1]; simp
  have q0 : w1.cell? ⟨W.heap.size, 0, none⟩ = some (.slice a.P a.np a.cp) := by rw [hw1]; simp
  have q1 : w1.cell? ⟨W.heap.size, 1, none⟩ = some (.int .i64 c.split.kind) := by rw [hw1]; simp
  have q2 : w1.cell? ⟨W.heap.size, 2, none⟩ = some (.int .u64 c.split.s0) := by rw [hw1]; simp
  have q3 : w1.cell? ⟨W.heap.size, 3, none⟩ = some (.int .u64 c.split.s1) := by rw [hw1]; simp
  have q4 : w1.cell? ⟨W.heap.size, 4, none⟩ = some (.int .u64 c.split.s2) := by rw [hw1]; simp
  have q5 : w1.cell? ⟨W.heap.size, 5, none⟩ = some (.int .u64 c.split.s3) := by rw [hw1]; simp
  have q6 : w1.cell? ⟨W.heap.size, 6, none⟩ = some (.int .i64 c.split.lo) := by rw [hw1]; simp
  have q7 : w1.cell? ⟨W.heap.size, 7, none⟩ = some (.int .i64 c.split.hi) := by rw [hw1]; simp
  have q8 : w1.cell? ⟨W.heap.size, 8, none⟩ = some (.slice a.T a.nt a.ct) := by rw [hw1]; simp
  have q9 : w1.cell? ⟨W.heap.size, 9, none⟩ = some (.slice a.M a.nm a.cm) := by rw [hw1]; simp
  have q10 : w1.cell? ⟨W.heap.size, 10, none⟩ = some (.slice a.N a.nn a.cn) := by rw [hw1]; simp
  have q11 : w1.cell? ⟨W.heap.size, 11, none⟩ = some (.slice a.B a.nb a.cb) := by rw [hw1]; simp
  have q12 : w1.cell? ⟨W.heap.size, 12, none⟩ = some (.slice a.A a.na a.ca) := by rw [hw1]; simp
  have HC := Lib.hid (h.keep hb0)
  have HB := Lib.hid hb0
  have GO := Lib.hid (fun (w2 : World) (hb : Below w1.heap.size w1 w2) (j : Nat) (v : Value) (hv : w1.cell? ⟨W.heap.size, j, none⟩ = some v) => (hb.cell (p := ⟨W.heap.size, j, none⟩) hgl).trans hv)
  have HCW := Lib.hid h
  have hbx : Blk w1 W.heap.size 34 [.slice a.P a.np a.cp, .int .i64 c.split.kind, .int .u64 c.split.s0, .int .u64 c.split.s1, .int .u64 c.split.s2, .int .u64 c.split.s3, .int .i64 c.split.lo, .int .i64 c.split.hi, .slice a.T a.nt a.ct, .slice a.M a.nm a.cm, .slice a.N a.nn a.cn, .slice a.B a.nb a.cb, .slice a.A a.na a.ca] := by rw [hw1]; exact Blk.new W 34 _
  have HBX := Lib.hid hbx
  have hcz := H14.cutS_le s 60
  have HSH := Lib.hid (fun (w2 : World) => short27_any s 60 (by omega) w2)
  obtain ⟨s', hs'⟩ : ∃ s', s' = H14.cutS s 60 := ⟨_, rfl⟩
  rw [← hs'] at HSH hcz
  have HNO := Lib.hid (fun (w2 : World) (hb : Below w1.heap.size w1 w2) => normal_any c a s' w2 (HC.out.keep hb))
  have hlong : ¬ 4096 < s'.size := by omega
  clear hs' h hb0 hbx
  by_cases h0 : cfgE c = 0
  · have hF := (cfgE_zero h0).1
    have hRO := (cfgE_zero h0).2
    have HTK := Lib.hid (fun (w2 : World) (hb : Below W.heap.size W w2) => show Calls Try.prog 30 #[.agg #[.slice a.P a.np a.cp, .int .i64 c.split.kind, .int .u64 c.split.s0, .int .u64 c.split.s1, .int .u64 c.split.s2, .int .u64 c.split.s3, .int .i64 c.split.lo, .int .i64 c.split.hi, .slice a.T a.nt a.ct, .slice none 0 0, .slice a.N a.nn a.cn, .slice a.B a.nb a.cb, .slice a.A a.na a.ca], .string s'] w2 fun e w' => ∃ v, e = .returned (.tuple #[v, .int .i64 (tokR (noM c) s').2]) ∧ w'.ownsRow w2.heap.size 3 1 v (tokR (noM c) s').1.length (numsV .i64 (tokR (noM c) s').1) ∧ Below w2.heap.size w2 w' from tok_any (noM c) (noMA a) s' w2 (noM_in (HCW.out.keep hb)) (.inl hcz))
    have hnx := norm_small hF (s := s') c.passes.length (Nat.le_refl _)
    obtain ⟨x, hx⟩ : ∃ x, x = normB c s' := ⟨_, rfl⟩
    have hxz : x.size ≤ 1920 := by rw [hx]; exact Nat.le_trans hnx (by omega)
    rw [tokR_ok (noM_ok h0) hlong, show normB (noM c) s' = x from hx.symm] at HTK
    rw [normR_ok h0 hlong, ← hx] at HNO
    have HX := Lib.hid (show normTo c.passes s' c.passes.length = x from hx.symm)
    have hpl := HC.out.plen
    have hple := HC.out.ple
    have hbl := HC.out.blen
    have hal := HC.out.alen
    have HF := Lib.hid hF
    have hlen := congrArg List.length (tokL_noM c x)
    rw [List.length_append, List.length_append, H14.length_bytesI] at hlen
    have hat := fun i hi => tokL_at c x i hi
    obtain ⟨L, hL⟩ : ∃ L, L = tokL (noM c) x := ⟨_, rfl⟩
    rw [← hL] at HTK hlen hat
    have hl3 : L.length = a.nb + x.size + a.na := by rw [hlen, ← hbl, ← hal]; simp [upI]
    have HL3 := Lib.hid hl3
    have HAT := Lib.hid (fun i hi => show L.getD (a.nb + i) 0 = (bytesI x).getD i 0 by rw [← hbl]; exact hat i hi)
    have hb32 : a.nb ≤ 32 := by have := hRO.before.few; omega
    have ha32 : a.na ≤ 32 := by have := hRO.after.few; omega
    clear hnx hx hF hRO hbl hal hlen hL hl3 hat
    go_enter Try.func8, Try.ntmps8
    go_upto_region 1 with (fail)
    rw [← hw1]
    clear hw1
    go_upto_block 0 with first
      | (go_at_call 27; refine (HSH.out _).mono ?_; rintro e w2 ⟨rfl, hw2⟩; rw [hw2]; clear hw2)
      | (go_at_call 28; refine (HNO.out _ (Below.refl _ _)).mono ?_; rintro e w4 ⟨rfl, hb4⟩; have HB4 := Lib.hid hb4; have r0 := GO.out _ hb4 _ _ q0; clear hb4)
    go_wp2_with fail
    go_loopw [7, 31] (fun t i wr => ∃ k : Nat, k ≤ a.np ∧ i = .int .i64 (k : Int) ∧ t = .string (normTo c.passes s' k) ∧ Below w1.heap.size w1 wr) (fun _ i _ => a.np - (intOf i).toNat)
    case atStart => exact ⟨0, by omega, rfl, rfl, HB4.out⟩
    case round =>
      obtain ⟨k, hk, rfl, rfl, hb⟩ := hrel
      have HBL := Lib.hid hb
      clear hb
      by_cases hlt : k < a.np
      · have hc := HC.out.keep HBL.out
        obtain ⟨b, o, hPa, _, hcell⟩ := hc.parr.one hlt
        unfold PassC at hcell
        have hsz := norm_small HF.out (s := s') k (by omega)
        have hok := T12.allOk_of (HF.out.pass k (by omega))
        have HA := Lib.hid (T12.apply_ok (a.PA k) (c.passes.getD k []).length (a.pc k) (c.passes.getD k []) (normTo c.passes s' k) wr rfl (hc.prow k hlt) (hc.psz k hlt) hok (by omega))
        have HAP := Lib.hid (fun (o : T12.Bs) (hr : T12.Rew (T12.rulesOf (c.passes.getD k [])) (normTo c.passes s' k).data.toList o) => show normTo c.passes s' (k + 1) = ⟨o.toArray⟩ from appB_of hok hr)
        obtain ⟨l, hl⟩ : ∃ l, l = c.passes.getD k [] := ⟨_, rfl⟩
        rw [← hl] at hcell HA HAP
        rw [hPa]
        clear hc hsz hl hok
        go_wp2_with (go_at_call 29; refine HA.out.mono ?_; rintro e w5 ⟨o, hrew, _, rfl, hb5⟩; rw [← HAP.out o hrew]; have HB5 := Lib.hid hb5; clear hb5 hrew)
        go_roundw
        case rel => exact ⟨k + 1, by omega, by go_num, rfl, HBL.out.trans (HB5.out.mono HBL.out.size)⟩
        case measure => simp [intOf]; omega
      · have hkl : k = c.passes.length := by omega
        have htk : normTo c.passes s' k = x := by rw [hkl]; exact HX.out
        rw [htk]
        have hbx := HBX.out.below HBL.out hgl
        have f9 := hbx.frozen 9
        have t0 := GO.out _ HBL.out _ _ q0
        clear hkl htk
        have t9 := GO.out _ HBL.out _ _ q9
        go_upto_region 15 with (fail)
        have hb6 := hbx.set 9 (.slice none 0 0)
        have hbw6 : Below W.heap.size W (wr.setCell ⟨W.heap.size, 9, none⟩ (.slice none 0 0)) := (HB.out.trans (HBL.out.mono HB.out.size)).setCell (p := ⟨W.heap.size, 9, none⟩) (Nat.le_refl _) _
        generalize wr.setCell ⟨W.heap.size, 9, none⟩ (.slice none 0 0) = w6 at hb6 hbw6 ⊢
        have u0 := hb6.cell 0
        have u1 := hb6.cell 1
        have u2 := hb6.cell 2
        have u3 := hb6.cell 3
        have u4 := hb6.cell 4
        have u5 := hb6.cell 5
        have u6 := hb6.cell 6
        have u7 := hb6.cell 7
        have u8 := hb6.cell 8
        have u9 := hb6.cell 9
        have u10 := hb6.cell 10
        have u11 := hb6.cell 11
        have u12 := hb6.cell 12
        simp only [List.set_cons_zero, List.set_cons_succ, List.getElem?_cons_zero, List.getElem?_cons_succ] at u0 u1 u2 u3 u4 u5 u6 u7 u8 u9 u10 u11 u12
        have HB6 := Lib.hid (And.intro hb6 hbw6)
        have ene : (x.toList != x.toList) = false := by simp
        have elen : ((L.length : Int) != (a.nb : Int) + (x.size : Int) + (a.na : Int)) = false := by have := HL3.out; simp; omega
        have hLb : L.length ≤ 2000 := by have := HL3.out; omega
        clear hbx f9 t0 t9 hb6 hbw6
        go_wp2_with (go_at_call 30; refine (HTK.out _ HB6.out.2).mono ?_; rintro e w7 ⟨v, rfl, hv, hb7⟩; have hv9 := hv; obtain ⟨LA, lc, rfl⟩ := own_form hv9; have hbx7 := HB6.out.1.below hb7 HB6.out.1.lt; have y11 := hbx7.cell 11; have y12 := hbx7.cell 12; simp only [List.set_cons_zero, List.set_cons_succ, List.getElem?_cons_zero, List.getElem?_cons_succ] at y11 y12; have HV := Lib.hid (And.intro hv hb7); clear hv hv9 hb7 hbx7)
        go_loopw [76] (fun i wq => ∃ k q : Nat, k ≤ x.size ∧ i = .int .i64 (k : Int) ∧ wq = w7.drewN q) (fun i _ => x.size - (intOf i).toNat)
        case atStart => exact ⟨0, 0, by omega, rfl, rfl⟩
        case round =>
          obtain ⟨k2, q, hk2, rfl, rfl⟩ := hrel
          by_cases hlt2 : k2 < x.size
          · obtain ⟨gl, cl, hle, _, _⟩ := HV.out.1.form (by have := HL3.out; omega)
            obtain rfl : LA = some ⟨gl, 0, none⟩ := (by injection hle)
            obtain ⟨hi1, hi2, hi3⟩ := H14.index_bytes x k2 hlt2
            have hcl : w7.cell? ⟨gl, a.nb + k2, none⟩ = some (.int .i64 ((bytesI x).getD k2 0)) := by
              rw [HV.out.1.cellAt (a.nb + k2) (by have := HL3.out; omega), ← HAT.out k2 hlt2]
              have : a.nb + k2 < L.length := by have := HL3.out; omega
              simp [numsV, this]
            obtain ⟨bv, hbv⟩ : ∃ bv, bv = (bytesI x).getD k2 0 := ⟨_, rfl⟩
            rw [← hbv] at hi1 hi2 hi3 hcl
            have z3 : (0 : Int) ≤ (a.nb : Int) + (k2 : Int) := by omega
            have z4 : (a.nb : Int) + (k2 : Int) < (L.length : Int) := by have := HL3.out; omega
            have z5 : IntKind.i64.wrap ((a.nb : Int) + (k2 : Int)) = (a.nb : Int) + (k2 : Int) := IntWalk.i64_in _ (by omega)
            have z6 : ((a.nb : Int) + (k2 : Int)).toNat = a.nb + k2 := by omega
            have z7 : (bv != bv) = false := by simp
            have y11' : ∀ m, (w7.drewN m).cell? ⟨W.heap.size, 11, none⟩ = some (.slice a.B a.nb a.cb) := fun m => y11
            have hcl' : ∀ m, (w7.drewN m).cell? ⟨gl, a.nb + k2, none⟩ = some (.int .i64 bv) := fun m => hcl
            clear hle hbv
            go_wp2_with fail
            go_quiet (fail)
            go_wp2_with fail
            go_roundw
            case rel => exact ⟨k2 + 1, _, by omega, by go_num, rfl⟩
            case measure => simp [intOf]; omega
          · obtain rfl : k2 = x.size := by omega
            go_wp2_with fail
            go_returns
            exact ⟨by first | rfl | simp, below_drewN (HB6.out.2.trans (HV.out.2.mono HB6.out.2.size)) _⟩
  · rw [normR_cfg h0] at HNO
    obtain ⟨ce, hce⟩ : ∃ ce, ce = cfgE c := ⟨_, rfl⟩
    rw [← hce] at HNO h0
    have e0 : (ce != 0) = true := by simpa using h0
    clear h0 hce
    go_enter Try.func8, Try.ntmps8
    go_upto_region 1 with (fail)
    rw [← hw1]
    clear hw1
    go_wp2_with first
      | (go_at_call 27; refine (HSH.out _).mono ?_; rintro e w2 ⟨rfl, hw2⟩; rw [hw2]; clear hw2)
      | (go_at_call 28; refine (HNO.out _ (Below.refl _ _)).mono ?_; rintro e w4 ⟨rfl, hb4⟩; have HB4 := Lib.hid hb4; clear hb4)
    go_returns
    exact ⟨by first | rfl | simp, HB.out.trans (HB4.out.mono HB.out.size)⟩
end Go.Proofs.Ytfjgfabochiflaa
