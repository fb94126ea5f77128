/- maker.run over pairs. -/
import Derived.Test.YthjnkpoalbddkaaMPRun2Y
import Derived.Laws.Rows
import Derived.Test.YthjnkpoalbddkaaSufY
import Derived.Deep.Cut
import Derived.Deep.CutRange
import Derived.Deep.CutBlock
import Derived.Deep.RegionHeld3
import Derived.Deep.DrawnRows
import Derived.BigRegion
namespace Go.Proofs.Ythjnkpoalbddkaa.MP
open Go.RowKit Go.Maps Go.WideMaps
theorem info3 : (Try.prog.info? 3).map (fun i => (i.zero, i.size, i.bytes)) = some (some (.int .i64 0), 1, 8) := by kernel_rfl
theorem two_rows (w : World) (x : Value) (t : TypeId) : Blk ((w.alloc (.cells (Array.replicate 256 x) t)).alloc (.cells (Array.replicate 256 x) t)).drew w.heap.size t (List.replicate 256 x) ∧ Blk ((w.alloc (.cells (Array.replicate 256 x) t)).alloc (.cells (Array.replicate 256 x) t)).drew (w.heap.size + 1) t (List.replicate 256 x) ∧ Below w.heap.size w ((w.alloc (.cells (Array.replicate 256 x) t)).alloc (.cells (Array.replicate 256 x) t)).drew := by
  have e : Array.replicate 256 x = (List.replicate 256 x).toArray := by simp only [List.toArray_replicate]
  rw [e]
  have h1 := (Blk.new w t (List.replicate 256 x)).alloc (.cells (List.replicate 256 x).toArray t)
  have h2 := Blk.new (w.alloc (.cells (List.replicate 256 x).toArray t)) t (List.replicate 256 x)
  have h3 : (w.alloc (.cells (List.replicate 256 x).toArray t)).heap.size = w.heap.size + 1 := by
    show (w.heap.push _).size = _
    rw [Array.size_push]
  rw [h3] at h2
  exact ⟨h1, h2, (((Below.refl _ _).alloc (Nat.le_refl _) _).alloc (by rw [h3]; omega) _).drew⟩
set_option maxRecDepth 100000 in
set_option maxHeartbeats 8000000 in
theorem run_any (B bk : Nat) (C : Bool → World → Prop) (pa pf pb : Value) (step : St → UInt8 → Bs × St) (fin : St → Bs) (first : St) (Ok : St → Prop) (lg : St → UInt8 → Bool) (lge : St → Bool) (gno gtx : Nat)
    (he : Env 56 57 B C [pa, pf] [pf, pa, pb] step fin Ok lg lge) (W : World) (m : Mk St) (fl : Bool) (vn vp ve vt va : Value) (D1 D2 : DataW Unit) (RN RP : Nat → Nat)
    (hrun : RunI step fin first Ok lg lge m 0 0 fl) (hmk : MkIn W B bk m vn vp ve vt va gno gtx D1 D2 RN RP) (hctx : C fl W) (hfew : m.all.length ≤ 1200) (htf : m.texts.length ≤ 4097) :
    Calls Try.prog 55 #[.pointer (some ⟨bk, 0, none⟩), .func (.func 56) #[] #[pa, pf], .func (.func 57) #[] #[pf, pa, pb]] W fun e W' =>
      (∃ m' k c fl', e = .returned (.tuple #[.agg #[.slice none 0 0, .slice none 0 0, .slice none 0 0, .slice none 0 0], .int .i64 80]) ∧ RunI step fin first Ok lg lge m' k c fl' ∧ (k < m'.all.length ∧ c ≤ 256 ∨ c = 0) ∧ m'.bad = true ∧ C fl' W') ∨
      (∃ m' fl' vn' vp' ve' vt' va' D1' D2' RN' RP', e = .returned (.tuple #[.agg #[vn', vp', ve', vt'], .int .i64 0]) ∧ RunI step fin first Ok lg lge m' m'.all.length 0 fl' ∧ MkIn W' B bk m' vn' vp' ve' vt' va' gno gtx D1' D2' RN' RP' ∧ C fl' W' ∧ m'.bad = false) := by
  obtain ⟨gr, hgr⟩ : ∃ gr, gr = W.heap.size := ⟨_, rfl⟩
  have hb0 : Below W.heap.size W (W.alloc (.cells z4.toArray 42)) := (Below.refl _ _).alloc (Nat.le_refl _) _
  have h : OutI C step fin first Ok lg lge B bk gr gno gtx (W.alloc (.cells z4.toArray 42)) m 0 fl vn vp ve vt va D1 D2 RN RP :=
    ⟨hrun, hmk.go hb0, he.go _ _ _ hctx hmk.hB ((But.of_below hb0).mono (fun k hk e => by omega)), hfew, htf, hgr ▸ Blk.new W 42 z4, hgr ▸ hmk.hB⟩
  obtain ⟨w1, hw1⟩ : ∃ w1, w1 = W.alloc (.cells z4.toArray 42) := ⟨_, rfl⟩
  rw [← hw1] at h
  have HW1 := Lib.hid hw1
  have HGR := Lib.hid hgr
  clear hrun hmk hctx hfew htf hb0 hw1 hgr
  have HE := Lib.hid he
  have H := Lib.hid h
  clear he h
  go_enter Try.func55, Try.ntmps55
  go_upto_region 1 with (fail)
  rw [← HGR.out, show W.alloc (.cells #[.slice none 0 0, .slice none 0 0, .slice none 0 0, .slice none 0 0] 42) = w1 from HW1.out.symm]
  go_wp2_with fail
  go_loopw [8] (fun x wr => ∃ (k : Nat) (m' : Mk St) (fl' : Bool) (vn' vp' ve' vt' va' : Value) (D1' D2' : DataW Unit) (RN' RP' : Nat → Nat), x = .int .i64 k ∧ OutI C step fin first Ok lg lge B bk gr gno gtx wr m' k fl' vn' vp' ve' vt' va' D1' D2' RN' RP') (fun x _ => 2000 - (intOf x).toNat)
  case atStart => exact ⟨0, m, fl, vn, vp, ve, vt, va, D1, D2, RN, RP, rfl, H.out⟩
  case round =>
    obtain ⟨k, m, fl, vn, vp, ve, vt, va, D1, D2, RN, RP, rfl, h⟩ := hrel
    have H := Lib.hid h
    obtain ⟨A, c, hva⟩ := own_sl h.mkr.oa
    subst hva
    have c5 := h.mkr.box.cell 5
    have c7 := h.mkr.box.cell 7
    simp only [List.getElem?_cons_zero, List.getElem?_cons_succ] at c5 c7
    have hfew := h.few
    have hkl := h.run.ok.kl
    clear h
    by_cases hlt : k < m.all.length
    · have hmk := make_one 39 3 (.int .i64 0) 8 Try.underlying39 info3 rfl 256 (by omega) (by omega)
      have hmk2 : ∀ W : World, (Instr.makeSlice 39 (.int .i64 256) (.int .i64 256)).run Try.prog W = .ok (.slice (some ⟨W.heap.size, 0, none⟩) 256 256) (W.alloc (.cells (Array.replicate 256 (.int .i64 0)) 3)) := hmk
      clear hmk
      go_wp2_with fail
      go_cut [9, 10] from 24 to 120 (fun u v wx => ∃ gx gp : Nat, u = .slice (some ⟨gx, 0, none⟩) 256 256 ∧ v = .slice (some ⟨gp, 0, none⟩) 256 256 ∧ gx ≠ gp ∧ Blk wx gx 3 (List.replicate 256 (.int .i64 0)) ∧ Blk wx gp 3 (List.replicate 256 (.int .i64 0)) ∧ wr.heap.size ≤ gx ∧ wr.heap.size ≤ gp ∧ Below wr.heap.size wr wx)
      case first =>
        go_region
        all_goals
          go_wp2_with fail
          go_meet
          have h9 := two_rows wr (.int .i64 0) 3
          first
            | exact ⟨wr.heap.size, wr.heap.size + 1, rfl, rfl, by omega, h9.1, h9.2.1, by omega, by omega, h9.2.2⟩
            | exact ⟨wr.heap.size + 1, wr.heap.size, rfl, rfl, by omega, h9.2.1, h9.1, by omega, by omega, h9.2.2⟩
      case rest =>
        obtain ⟨gx, gp, rfl, rfl, hne, hbx, hbp, hlx, hlp, hbel⟩ := hcut
        obtain ⟨s, hs⟩ : ∃ s, m.all[k]? = some s := ⟨_, List.getElem?_eq_getElem hlt⟩
        have hB := H.out.mkr.hB
        have hin : InI C step fin first Ok lg lge B bk k gx gp gr s vn vp ve gno gtx RN RP wc m 0 fl vt (.slice A m.all.length c) D1 D2 [] [] :=
          ⟨H.out.run, ⟨H.out.mkr.go hbel, H.out.run.ok.nl, H.out.run.ok.pl, HE.out.go _ _ _ H.out.ctx hB ((But.of_below hbel).mono (fun k hk e => by omega)), hbx, hbp, fun e => by have := (H.out.mkr.oe.lt _ e).2; omega, fun e => by have := (H.out.mkr.oe.lt _ e).2; omega,
            fun i hi => by
              have h1 := H.out.mkr.nx.lt i (by have := H.out.run.ok.nl; omega)
              have h2 := H.out.mkr.pt.lt i (by have := H.out.run.ok.pl; omega)
              exact ⟨by omega, by omega, by omega, by omega⟩, hne, by omega, by omega, H.out.br.below hbel H.out.br.lt, H.out.ar⟩, ⟨rfl, rfl, fun c hc => absurd hc (by omega)⟩, hs, H.out.few, H.out.tfew⟩
        have HI := Lib.hid hin
        have HNE := Lib.hid hne
        clear hin hne hbx hbp hlx hlp hbel hs hmk2 c5 c7 hfew hkl hB
        go_wp2_with fail
        go_loopw [26] (fun x wi => ∃ (cc : Nat) (m' : Mk St) (fl' : Bool) (vt' va' : Value) (D1' D2' : DataW Unit) (nx pt : List Int), x = .int .i64 cc ∧ cc ≤ 256 ∧ InI C step fin first Ok lg lge B bk k gx gp gr s vn vp ve gno gtx RN RP wi m' cc fl' vt' va' D1' D2' nx pt ∧ (0 < cc → m'.bad = false)) (fun x _ => 256 - (intOf x).toNat)
        case atStart => exact ⟨0, m, fl, vt, _, D1, D2, [], [], rfl, by omega, HI.out, fun h => absurd h (by omega)⟩
        case round =>
          obtain ⟨cc, m1, fl1, vt1, va1, D11, D21, nx, pt, rfl, hcc, h1, hbad⟩ := hrel
          have H1 := Lib.hid h1
          have hk1 := h1.klt
          have hok := h1.ok
          obtain ⟨ga, c1, hva1, _, _⟩ := h1.mid.mkr.oa.form (by omega)
          subst hva1
          have hgd : m1.all.getD k (0, 0) = s := by rw [List.getD_eq_getElem?_getD, h1.cur]; rfl
          have hcells : cellsOfEl 2 pF s = [.int .i64 s.1, .int .i64 s.2] := rfl
          have hrg := (own_range h1.mid.mkr.oa rfl hk1).1
          rw [hgd, hcells] at hrg
          have x0 := hrg 0 _ rfl
          have x1 := hrg 1 _ rfl
          simp only [Nat.add_zero] at x0
          clear hrg hcells hgd
          have c5 := h1.mid.mkr.box.cell 5
          have c7 := h1.mid.mkr.box.cell 7
          simp only [List.getElem?_cons_zero, List.getElem?_cons_succ] at c5 c7
          have HBAD := Lib.hid hbad
          clear h1 hbad
          by_cases hc : cc < 256
          · --[1
            obtain ⟨cb, hcb⟩ : ∃ cb, cb = UInt8.ofNat cc := ⟨_, rfl⟩
            have hcn : cb.toNat = cc := by rw [hcb]; simp; omega
            have hst := HE.out.hstep fl1 wr s cb H1.out.mid.ctx H1.out.mid.mkr.hB hok
            rw [hcn] at hst
            have HST := Lib.hid hst
            have HCB := Lib.hid (And.intro hcb hcn)
            have u1 : IntKind.u8.wrap (cc : Int) = (cc : Int) := IntWalk.u8_in _ (by omega)
            have i1 : (k : Int) < (m1.all.length : Int) := by omega
            clear hst hcb hcn
            go_wp2_with fail
            refine HST.out.mono ?_
            rintro e W1 ⟨rfl, hb1, hctx1⟩
            obtain ⟨t, ht⟩ : ∃ t, t = (step s cb).1 := ⟨_, rfl⟩
            obtain ⟨q1, hq1⟩ : ∃ q1, q1 = (step s cb).2.1 := ⟨_, rfl⟩
            obtain ⟨q2, hq2⟩ : ∃ q2, q2 = (step s cb).2.2 := ⟨_, rfl⟩
            have htl : t.length ≤ 100000 := by rw [ht]; exact HE.out.len s cb hok
            have M1 := Lib.hid (H1.out.mid.behind hb1 hctx1)
            have HQ := Lib.hid (And.intro ht (And.intro hq1 hq2))
            rw [← ht, ← hq1, ← hq2]
            clear hb1 hctx1 ht hq1 hq2 x0 x1 c5 c7 HST
            have hsz2 : (W1.alloc (.cells #[.int .i64 q1, .int .i64 q2] 89)).heap.size = W1.heap.size + 1 := by simp
            have hconv := run_byte_string (P := Try.prog) (W1.alloc (.cells #[.int .i64 q1, .int .i64 q2] 89)) 54 5 9 Try.underlying54 Try.underlying5 Try.underlying9 (cc : Int) (by omega) (by omega)
            rw [hsz2, show UInt8.ofNat (cc : Int).toNat = cb by rw [HCB.out.1]; simp] at hconv
            have htz : (⟨t.toArray⟩ : ByteArray).size ≤ 9223372036854775807 := by simp [ByteArray.size]; omega
            go_wp2_with fail
            refine (Try.strings_HasSuffix ⟨t.toArray⟩ ⟨#[cb]⟩ _ htz).mono ?_
            rintro e W3 ⟨rfl, hW3⟩
            rw [show Lib.hasSuffix (⟨t.toArray⟩ : ByteArray).data.toList (⟨#[cb]⟩ : ByteArray).data.toList = oddB t cb from suf_odd t cb]
            have hb3 : Below W1.heap.size W1 W3 := by rw [hW3]; exact ((Below.refl _ _).alloc (Nat.le_refl _) _).alloc (by rw [hsz2]; omega) _
            have M3 := Lib.hid (M1.out.go HE.out hb3)
            have hbq : Blk W3 W1.heap.size 89 [.int .i64 q1, .int .i64 q2] := by rw [hW3]; exact (Blk.new W1 89 _).alloc _
            have HBQ := Lib.hid hbq
            clear hW3 hb3 hbq hsz2 hconv
            obtain ⟨od, hod⟩ : ∃ od, od = oddB t cb := ⟨_, rfl⟩
            rw [← hod]
            have HOD := Lib.hid hod
            clear hod
            go_upto_if 48 with (fail)
            go_cut [12, 14] from 49 to 53 (fun u v wx => u = .string ⟨(cutB t cb).toArray⟩ ∧ v = .int .i64 (oddN t cb) ∧ wx = W3)
            case first =>
              cases od with
              | true =>
                obtain ⟨hp, hsl⟩ := cut_slice HOD.out.symm
                have hsl := hsl W3
                have hz : (⟨t.toArray⟩ : ByteArray).size = t.length := by simp [ByteArray.size]
                go_wp2_with fail
                go_meet
                exact ⟨rfl, by unfold oddN; rw [← HOD.out]; rfl, rfl⟩
              | false =>
                go_wp2_with fail
                go_meet
                exact ⟨by unfold cutB; rw [← HOD.out]; rfl, by unfold oddN; rw [← HOD.out]; rfl, rfl⟩
            case rest =>
              obtain ⟨rfl, rfl, hw3⟩ := hcut
              subst hw3
              clear htz
              have b0 := HBQ.out.cell 0
              have b1 := HBQ.out.cell 1
              simp only [List.getElem?_cons_zero, List.getElem?_cons_succ] at b0 b1
              have hqq : (step s cb).2 = (q1, q2) := Prod.ext HQ.out.2.1.symm HQ.out.2.2.symm
              have HQQ := Lib.hid hqq
              have hS : Calls Try.prog 67 #[.pointer (some ⟨bk, 0, none⟩), .agg #[.int .i64 q1, .int .i64 q2]] _ _ := state_any _ _ _ _ _ _ _ _ _ _ _ _ _ _ _ M3.out.mkr (q1, q2) (hqq ▸ HE.out.i64 _ (HE.out.ok s cb hok)) (by have := H1.out.few; omega)
              have HS := Lib.hid hS
              clear hS hqq
              go_wp2_with fail
              refine HS.out.mono ?_
              rintro e W4 ⟨va4, D14, rfl, hb4, hm4, _⟩
              have M4 := Lib.hid (M3.out.state HE.out hb4 hm4)
              obtain ⟨p4, hp4⟩ : ∃ p4, p4 = plc (m1.addS (q1, q2)).all (q1, q2) := ⟨_, rfl⟩
              rw [← hp4]
              have HP4 := Lib.hid hp4
              have x4 := M4.out.bx.cell cc
              rw [row_next H1.out.row.nl hc] at x4
              have f4 := M4.out.bx.frozen cc
              have M5 := Lib.hid (M4.out.putX HE.out cc (.int .i64 (p4 : Nat)))
              have hT := text_any _ _ _ _ _ _ _ _ _ _ _ _ _ _ _ M5.out.mkr (cutB t cb) (by have := cutB_len t cb; omega) (by rw [addS_texts]; have := H1.out.tfew; omega)
              have HT := Lib.hid hT
              have hci : (cc : Int) < 256 := by omega
              clear hp4 hb4 hm4 HS b0 b1 hT
              go_wp2_with fail
              refine HT.out.mono ?_
              rintro e W6 ⟨vt6, D26, rfl, hb6, hm6, _⟩
              have M6 := Lib.hid (M5.out.text HE.out hb6 hm6)
              obtain ⟨p6, hp6⟩ : ∃ p6, p6 = plc ((m1.addS (q1, q2)).addT (cutB t cb)).texts (cutB t cb) := ⟨_, rfl⟩
              rw [← hp6]
              have HP6 := Lib.hid hp6
              have hpl : p6 ≤ 4098 := by
                rw [hp6]
                have h1 := plc_le ((m1.addS (q1, q2)).addT (cutB t cb)).texts (cutB t cb)
                have h2 := addT_len (m1.addS (q1, q2)) (cutB t cb)
                rw [addS_texts] at h2
                have := H1.out.tfew
                omega
              obtain ⟨on, hon⟩ : ∃ on, on = oddN t cb := ⟨_, rfl⟩
              rw [← hon]
              have hon0 : 0 ≤ on ∧ on ≤ 1 := by rw [hon]; unfold oddN; split <;> omega
              obtain ⟨ho0, ho1⟩ := hon0
              have HON := Lib.hid hon
              have x6 := M6.out.bp.cell cc
              rw [row_next H1.out.row.pl hc] at x6
              have f6 := M6.out.bp.frozen cc
              have M7 := Lib.hid (M6.out.putP HE.out cc (.int .i64 (2 * (p6 : Nat) + on)))
              obtain ⟨bd, hbd⟩ : ∃ bd, bd = ((m1.addS (q1, q2)).addT (cutB t cb)).bad := ⟨_, rfl⟩
              have c7 := M7.out.mkr.box.cell 7
              simp only [List.getElem?_cons_zero, List.getElem?_cons_succ] at c7
              rw [← hbd] at c7
              have HBD := Lib.hid hbd
              clear hp6 hb6 hm6 HT x4 f4 hon hbd
              cases bd with
              | true =>
                have HRB := Lib.hid (H1.out.bad HE.out HCB.out.1 HQQ.out HQ.out.1.symm)
                have r0 := M7.out.br.cell 0
                have r1 := M7.out.br.cell 1
                have r2 := M7.out.br.cell 2
                have r3 := M7.out.br.cell 3
                have e0 := M7.out.br.frozen 0
                have e1 := M7.out.br.frozen 1
                have e2 := M7.out.br.frozen 2
                have e3 := M7.out.br.frozen 3
                simp only [z4, List.getElem?_cons_zero, List.getElem?_cons_succ] at r0 r1 r2 r3
                have hz4 := four_set M7.out.br (.slice none 0 0) (.slice none 0 0) (.slice none 0 0) (.slice none 0 0)
                have HZ4 := Lib.hid hz4
                clear hz4
                go_wp2_with fail
                refine bodyPost_ret (res_mach rfl _ rfl HZ4.out.1) rfl ?_
                exact .inl ⟨_, _, _, _, rfl, HRB.out.1, .inl ⟨HRB.out.2, by omega⟩, HBD.out.symm, HE.out.go _ _ _ M7.out.ctx M7.out.mkr.hB (HZ4.out.2.mono (fun k _ e => by rw [e]; exact M7.out.ar))⟩
              | false =>
                go_wp2_with fail
                go_roundw
                case rel => exact ⟨cc + 1, _, _, _, _, _, _, _, _, by go_num, by omega, H1.out.next HE.out hc HCB.out.1 HQQ.out HQ.out.1.symm HP4.out HP6.out HON.out HBD.out rfl M7.out, fun _ => HBD.out.symm⟩
                case measure => simp [intOf]; omega
            --]1
          · have hce : cc = 256 := by omega
            have h256 := H1.out
            have hbd1 := HBAD.out (by omega)
            rw [hce] at h256
            clear H1 HBAD
            have H1 := Lib.hid h256
            have HBAD := Lib.hid hbd1
            have d1 : decide ((cc : Int) < 256) = false := by simp; omega
            clear hce h256 hbd1 hc hcc
            obtain ⟨i39, z39, hi39, hz39, hsz39, hbt39, hzc39⟩ : ∃ i z, Try.prog.info? 39 = some i ∧ i.zero = some z ∧ i.size = 1 ∧ i.bytes = 24 ∧ z.cells.size = 1 := ⟨_, _, rfl, rfl, rfl, rfl, rfl⟩
            have hx0 := H1.out.mid.mkr.rw
            rw [H1.out.mid.nl, H1.out.mid.pl] at hx0
            have HX1 := Lib.hid hx0
            clear hx0 x0 x1 c5 c7
            have q0 := HX1.out.box.cell 0
            have q1 := HX1.out.box.cell 1
            have f0 := HX1.out.box.frozen 0
            have f1 := HX1.out.box.frozen 1
            simp only [List.getElem?_cons_zero, List.getElem?_cons_succ] at q0 q1
            have hbk := HX1.out.box.lt
            have hk12 : k ≤ 1200 := by have := H1.out.few; omega
            go_wp2_with fail
            go_upto_block 1 with (fail)
            go_cut [] from 75 to 98 (fun wx => ∃ g2 cap2 g3 cap3 : Nat, RwIn wr wx B bk vn vp [ve, vt1, .map (some gno), .slice (some ⟨ga, 0, none⟩) m1.all.length c1, .map (some gtx), .bool m1.bad] (.slice (some ⟨g2, 0, none⟩) (k + 1) cap2) (.slice (some ⟨g3, 0, none⟩) (k + 1) cap3) (.slice (some ⟨g2, 0, none⟩) (k + 1) cap2) (k + 1) (slV RN k ++ [.slice (some ⟨gx, 0, none⟩) 256 256]) (.slice (some ⟨g3, 0, none⟩) (k + 1) cap3) (k + 1) (slV RP k ++ [.slice (some ⟨gp, 0, none⟩) 256 256]))
            case rest =>
              obtain ⟨g2, cap2, g3, cap3, hx3⟩ := hcut
              obtain ⟨v0, hv0⟩ : ∃ v0, v0 = Value.slice (some ⟨g2, 0, none⟩) (k + 1) cap2 := ⟨_, rfl⟩
              obtain ⟨v1, hv1⟩ : ∃ v1, v1 = Value.slice (some ⟨g3, 0, none⟩) (k + 1) cap3 := ⟨_, rfl⟩
              rw [← hv0, ← hv1] at hx3
              have HO := Lib.hid (H1.out.rowsIn HE.out hx3)
              have hdr := (Below.refl wc.heap.size wc).drew
              have HOD := Lib.hid (And.intro (HO.out.1.go hdr) (And.intro (HE.out.go _ _ _ HO.out.2.1 HO.out.1.hB ((But.of_below hdr).mono (fun k hk e => by have := HO.out.1.hB; omega))) (HO.out.2.2.below hdr HO.out.2.2.lt)))
              have hfn := HE.out.hfin fl1 wc.drew s HOD.out.2.1 HOD.out.1.hB hok
              have HFN := Lib.hid hfn
              have hfl := HE.out.elen s hok
              obtain ⟨tx, htx⟩ : ∃ tx, tx = fin s := ⟨_, rfl⟩
              rw [← htx] at HFN hfl
              have HTX := Lib.hid htx
              obtain ⟨c2, c5, x0, x1⟩ := HO.out.1.four (k := k) rfl H1.out.cur
              have hel : m1.ends.length = k := H1.out.run.ok.el
              have HEL := Lib.hid hel
              have i1 : (k : Int) < (m1.all.length : Int) := by omega
              obtain ⟨i3, z3, hi3, hz3, hsz3, hbt3, hzc3⟩ : ∃ i z, Try.prog.info? 3 = some i ∧ i.zero = some z ∧ i.size = 1 ∧ i.bytes = 8 ∧ z.cells.size = 1 := ⟨_, _, rfl, rfl, rfl, rfl, rfl⟩
              have y1 : (0 : Nat) < 1 := by omega
              have y2 : k + 1 ≤ maxLen := by unfold maxLen; omega
              have y3 : (k + 1) * 8 ≤ 140737488355328 := by omega
              have y4 : ∀ x : Int, ∀ u ∈ [Value.int .i64 x], u.oneCell' = true := by intro x u hu; simp at hu; subst hu; rfl
              clear hx3 hv0 hv1 hdr hfn htx hel q0 q1 f0 f1 hi39 hz39 hsz39 hbt39 hzc39
              go_wp2_with fail
              --[3
              refine wp_region_L (S := SL [(18, fun W' => W'.cell? ⟨bk, 2, none⟩ = some ve), (15, fun W' => W'.cell? ⟨bk, 5, none⟩ = some (.slice (some ⟨ga, 0, none⟩) m1.all.length c1) ∧ W'.cell? ⟨ga, k * 2, none⟩ = some (.int .i64 s.1) ∧ W'.cell? ⟨ga, k * 2 + 1, none⟩ = some (.int .i64 s.2))]) (by kernel_rfl) (SL.cons c2 (SL.cons ⟨c5, x0, x1⟩ SL.nil)) (fun hHeld => ?_)
              refine takeP (i := 0) (v := ?v0) (List.getElem?_toArray.trans rfl) (by kernel_rfl) (by kernel_rfl) (by kernel_rfl) (fun _ _ _ h => h) (by kernel_rfl) (Or.inl ⟨by rfl, ?hy0⟩) hHeld (fun hHeld => ?rest0)
              case hy0 => (intro W hSw; go_simp <;> (with_reducible rfl))
              simp only [Act.put, List.setIfInBounds_toArray, List.set_cons_zero, List.set_cons_succ]
              refine takeP (i := 1) (v := ?v1) (List.getElem?_toArray.trans rfl) (by kernel_rfl) (by kernel_rfl) (by kernel_rfl) (fun _ _ _ h => h) (by kernel_rfl) (Or.inl ⟨by rfl, ?hy1⟩) hHeld (fun hHeld => ?rest1)
              case hy1 => (intro W hSw; go_simp <;> (with_reducible rfl))
              simp only [Act.put, List.setIfInBounds_toArray, List.set_cons_zero, List.set_cons_succ]
              refine takeP (i := 2) (v := ?v2) (List.getElem?_toArray.trans rfl) (by kernel_rfl) (by kernel_rfl) (by kernel_rfl) (fun _ _ _ h => h) (by kernel_rfl) (Or.inl ⟨by rfl, ?hy2⟩) hHeld (fun hHeld => ?rest2)
              case hy2 => (intro W hSw; go_simp <;> (with_reducible rfl))
              simp only [Act.put, List.setIfInBounds_toArray, List.set_cons_zero, List.set_cons_succ]
              refine takeP (i := 3) (v := ?v3) (List.getElem?_toArray.trans rfl) (by kernel_rfl) (by kernel_rfl) (by kernel_rfl) (fun _ _ _ h => h) (by kernel_rfl) (Or.inl ⟨by rfl, ?hy3⟩) hHeld (fun hHeld => ?rest3)
              case hy3 => (intro W hSw; go_simp <;> (with_reducible rfl))
              simp only [Act.put, List.setIfInBounds_toArray, List.set_cons_zero, List.set_cons_succ]
              refine takeP (i := 4) (v := ?v4) (List.getElem?_toArray.trans rfl) (by kernel_rfl) (by kernel_rfl) (by kernel_rfl) (fun _ _ _ h => h) (by kernel_rfl) (Or.inl ⟨by rfl, ?hy4⟩) hHeld (fun hHeld => ?rest4)
              case hy4 => (intro W hSw; go_simp <;> (with_reducible rfl))
              simp only [Act.put, List.setIfInBounds_toArray, List.set_cons_zero, List.set_cons_succ]
              refine takeP (i := 6) (v := ?v6) (List.getElem?_toArray.trans rfl) (by kernel_rfl) (by kernel_rfl) (by kernel_rfl) (fun _ _ _ h => h) (by kernel_rfl) (Or.inl ⟨by rfl, ?hy6⟩) hHeld (fun hHeld => ?rest6)
              case hy6 => (intro W hSw; go_simp <;> (with_reducible rfl))
              simp only [Act.put, List.setIfInBounds_toArray, List.set_cons_zero, List.set_cons_succ]
              refine takeP (i := 7) (v := ?v7) (List.getElem?_toArray.trans rfl) (by kernel_rfl) (by kernel_rfl) (by kernel_rfl) (fun _ _ _ h => h) (by kernel_rfl) (Or.inl ⟨by rfl, ?hy7⟩) hHeld (fun hHeld => ?rest7)
              case hy7 => (intro W hSw; go_simp <;> (with_reducible rfl))
              simp only [Act.put, List.setIfInBounds_toArray, List.set_cons_zero, List.set_cons_succ]
              refine takeP (i := 8) (v := ?v8) (List.getElem?_toArray.trans rfl) (by kernel_rfl) (by kernel_rfl) (by kernel_rfl) (fun _ _ _ h => h) (by kernel_rfl) (Or.inl ⟨by rfl, ?hy8⟩) hHeld (fun hHeld => ?rest8)
              case hy8 => (intro W hSw; go_simp <;> (with_reducible rfl))
              simp only [Act.put, List.setIfInBounds_toArray, List.set_cons_zero, List.set_cons_succ]
              refine takeP (i := 9) (v := ?v9) (List.getElem?_toArray.trans rfl) (by kernel_rfl) (by kernel_rfl) (by kernel_rfl) (fun _ _ _ h => h) (by kernel_rfl) (Or.inl ⟨by rfl, ?hy9⟩) hHeld (fun hHeld => ?rest9)
              case hy9 => (intro W hSw; go_simp <;> (with_reducible rfl))
              simp only [Act.put, List.setIfInBounds_toArray, List.set_cons_zero, List.set_cons_succ]
              refine takeP (i := 10) (v := ?v10) (List.getElem?_toArray.trans rfl) (by kernel_rfl) (by kernel_rfl) (by kernel_rfl) (fun _ _ _ h => h) (by kernel_rfl) (Or.inl ⟨by rfl, ?hy10⟩) hHeld (fun hHeld => ?rest10)
              case hy10 => (intro W hSw; go_simp <;> (with_reducible rfl))
              simp only [Act.put, List.setIfInBounds_toArray, List.set_cons_zero, List.set_cons_succ]
              refine takeP (i := 12) (v := ?v12) (List.getElem?_toArray.trans rfl) (by kernel_rfl) (by kernel_rfl) (by kernel_rfl) (fun _ _ _ h => h) (by kernel_rfl) (Or.inl ⟨by rfl, ?hy12⟩) hHeld (fun hHeld => ?rest12)
              case hy12 => (intro W hSw; go_simp <;> (with_reducible rfl))
              simp only [Act.put, List.setIfInBounds_toArray, List.set_cons_zero, List.set_cons_succ]
              refine takeL (i := 5) (v := ?v5) 18 (fun W' => W'.cell? ⟨bk, 2, none⟩ = some ve) [5, 18] (by simp) (List.getElem?_toArray.trans rfl) (by kernel_rfl) (by kernel_rfl) (by kernel_rfl) (fun _ _ _ h => h) (by kernel_rfl) (Or.inl ⟨by rfl, ?hy5⟩) hHeld (fun hHeld => ?rest5)
              case hy5 => (intro W hSw; go_simp <;> (with_reducible rfl))
              simp only [Act.put, List.setIfInBounds_toArray, List.set_cons_zero, List.set_cons_succ]
              refine takeL (i := 11) (v := ?v11) 15 (fun W' => W'.cell? ⟨bk, 5, none⟩ = some (.slice (some ⟨ga, 0, none⟩) m1.all.length c1) ∧ W'.cell? ⟨ga, k * 2, none⟩ = some (.int .i64 s.1) ∧ W'.cell? ⟨ga, k * 2 + 1, none⟩ = some (.int .i64 s.2)) [11, 13, 14, 15] (by simp) (List.getElem?_toArray.trans rfl) (by kernel_rfl) (by kernel_rfl) (by kernel_rfl) (fun _ _ _ h => h) (by kernel_rfl) (Or.inl ⟨by rfl, ?hy11⟩) hHeld (fun hHeld => ?rest11)
              case hy11 => (intro W hSw; obtain ⟨hS1, hS2, hS3⟩ := hSw; go_simp <;> (with_reducible rfl))
              simp only [Act.put, List.setIfInBounds_toArray, List.set_cons_zero, List.set_cons_succ]
              refine takeP (i := 13) (v := ?v13) (List.getElem?_toArray.trans rfl) (by kernel_rfl) (by kernel_rfl) (by kernel_rfl) (fun _ _ _ h => h) (by kernel_rfl) (Or.inl ⟨by rfl, ?hy13⟩) hHeld (fun hHeld => ?rest13)
              case hy13 => (intro W hSw; go_simp <;> (with_reducible rfl))
              simp only [Act.put, List.setIfInBounds_toArray, List.set_cons_zero, List.set_cons_succ]
              refine takeL (i := 14) (v := ?v14) 15 (fun W' => W'.cell? ⟨bk, 5, none⟩ = some (.slice (some ⟨ga, 0, none⟩) m1.all.length c1) ∧ W'.cell? ⟨ga, k * 2, none⟩ = some (.int .i64 s.1) ∧ W'.cell? ⟨ga, k * 2 + 1, none⟩ = some (.int .i64 s.2)) [14, 15] (by simp) (List.getElem?_toArray.trans rfl) (by kernel_rfl) (by kernel_rfl) (by kernel_rfl) (fun _ _ _ h => h) (by kernel_rfl) (Or.inl ⟨by rfl, ?hy14⟩) hHeld (fun hHeld => ?rest14)
              case hy14 => (intro W hSw; obtain ⟨hS1, hS2, hS3⟩ := hSw; go_simp <;> (with_reducible rfl))
              simp only [Act.put, List.setIfInBounds_toArray, List.set_cons_zero, List.set_cons_succ]
              refine wpAnyL_ready (rs := [15]) (by kernel_rfl) (by simp) ?_
              refine AllReadyL.cons (List.getElem?_toArray.trans rfl) (fun K hK => ?_) AllReadyL.nil
              go_simp
              go_at_call 57
              refine HFN.out.mono ?_
              rintro e w9 ⟨rfl, hb9, hC9⟩
              have M9 := Lib.hid (HOD.out.1.but hb9 (fun k hk => by omega))
              have HC9 := Lib.hid hC9
              have HR9 := Lib.hid (hb9.blk HOD.out.2.2 (by have := H1.out.mid.ar; omega))
              have n9 := M9.out.box.cell 2
              clear hb9 hC9 c2 c5 x0 x1
              refine hK.out _ _ (SL.cons n9 (SL.off (by kernel_rfl) SL.nil)) (fun hHeld => ?_)
              clear hK K n9
              try simp only [Act.put, List.setIfInBounds_toArray, List.set_cons_zero, List.set_cons_succ]
              refine wpAnyL_ready (rs := [16]) (by kernel_rfl) (by simp) ?_
              refine AllReadyL.cons (List.getElem?_toArray.trans rfl) (fun K hK => ?_) AllReadyL.nil
              go_simp
              go_at_call 68
              refine (text_any _ _ _ _ _ _ _ _ _ _ _ _ _ _ _ M9.out tx (by omega) (by have := H1.out.tfew; show m1.texts.length ≤ _; omega)).mono ?_
              rintro e w10 ⟨vt10, D210, rfl, hb10, hm10, _⟩
              have M10 := Lib.hid hm10
              have HB10 := Lib.hid hb10
              obtain ⟨p10, hp10⟩ : ∃ p10, p10 = plc ((m1.rowed nx pt).addT tx).texts tx := ⟨_, rfl⟩
              rw [← hp10]
              have HP10 := Lib.hid hp10
              have n10 := M10.out.box.cell 2
              clear hb10 hm10 hp10
              refine hK.out _ _ (SL.cons n10 (SL.off (by kernel_rfl) SL.nil)) (fun hHeld => ?_)
              clear hK K
              try simp only [Act.put, List.setIfInBounds_toArray, List.set_cons_zero, List.set_cons_succ]
              refine wpAnyL_ready (rs := [17]) (by kernel_rfl) (by simp) ?_
              refine AllReadyL.cons (List.getElem?_toArray.trans rfl) (fun K hK => ?_) AllReadyL.nil
              go_simp
              have k17 := Blk.new w10 3 [.int .i64 (p10 : Int)]
              have hb17 := (Below.refl w10.heap.size w10).alloc (Nat.le_refl _) (.cells #[.int .i64 (p10 : Int)] 3)
              have ho17 := (M10.out.go hb17).oe
              rw [show ((m1.rowed nx pt).addT tx).ends = m1.ends from ((m1.rowed nx pt).addT_le tx).ends, HEL.out] at ho17
              refine hK.out _ _ (SL.cons (cell_al n10 _) (SL.off (by kernel_rfl) SL.nil)) (fun hHeld => ?_)
              clear hK K n10
              try simp only [Act.put, List.setIfInBounds_toArray, List.set_cons_zero, List.set_cons_succ]
              refine wpAnyL_ready (rs := [18]) (by kernel_rfl) (by simp) ?_
              refine AllReadyL.cons (List.getElem?_toArray.trans rfl) (fun K hK => ?_) AllReadyL.nil
              refine step_append_lies _ rfl (.tmp 104) (.tmp 116) 39 rfl B 3 i3 z3 1 8 Try.underlying39 hi3 hz3 hsz3 hbt3 hzc3 y1 ve k (numsV .i64 m1.ends) rfl ho17 ⟨_, 0, none⟩ 1 1 [.int .i64 (p10 : Int)] rfl rfl (one_news (Blk.cell k17 0)) (y4 _) y1 y2 y3 (Nat.le_trans M10.out.hB hb17.size) _ rfl ?_
              intro g11 c11 w11 hown11 hgrow11 hat11 hlt11
              have hb11 : But (fun k => ve.ownBlock = some k) w10 w11 := ((But.of_below hb17).mono (S' := fun k => ve.ownBlock = some k) (fun k hk e9 => by omega)).trans (But.of_grown hgrow11) (fun k _ e9 => e9)
              have hbx11 := hb11.blk M10.out.box (fun e => blk_own_ne M10.out.box M10.out.oe (by decide) e)
              have q2 := hbx11.cell 2
              have f2 := hbx11.frozen 2
              simp only [List.getElem?_cons_zero, List.getElem?_cons_succ] at q2
              have hat : ve.ownBlock = some g11 ∨ w10.heap.size ≤ g11 := hat11.imp (fun e => e) (fun e => by rw [e]; exact hb17.size)
              have HO2 := Lib.hid (H1.out.whole HTX.out HE.out HBAD.out M9.out HC9.out HR9.out HB10.out M10.out HP10.out hb11 hown11 hat)
              clear hown11 hgrow11 hat11 hlt11 hb11 hbx11 hat
              refine hK.out _ _ (SL.off (by kernel_rfl) (SL.off (by kernel_rfl) SL.nil)) (fun hHeld => ?_)
              clear hK K
              try simp only [Act.put, List.setIfInBounds_toArray, List.set_cons_zero, List.set_cons_succ]
              refine takeP (i := 19) (v := ?v19) (List.getElem?_toArray.trans rfl) (by kernel_rfl) (by kernel_rfl) (by kernel_rfl) (fun _ _ _ h => h) (by kernel_rfl) (Or.inl ⟨by rfl, ?hy19⟩) hHeld (fun hHeld => ?rest19)
              case hy19 => (intro W hSw; go_simp <;> (with_reducible rfl))
              simp only [Act.put, List.setIfInBounds_toArray, List.set_cons_zero, List.set_cons_succ]
              refine takeP (i := 20) (v := ?v20) (List.getElem?_toArray.trans rfl) (by kernel_rfl) (by kernel_rfl) (by kernel_rfl) (fun _ _ _ h => h) (by kernel_rfl) (Or.inl ⟨by rfl, ?hy20⟩) hHeld (fun hHeld => ?rest20)
              case hy20 => (intro W hSw; go_simp <;> (with_reducible rfl))
              simp only [Act.put, List.setIfInBounds_toArray, List.set_cons_zero, List.set_cons_succ]
              refine takeP (i := 21) (v := ?v21) (List.getElem?_toArray.trans rfl) (by kernel_rfl) (by kernel_rfl) (by kernel_rfl) (fun _ _ _ h => h) (by kernel_rfl) (Or.inl ⟨by rfl, ?hy21⟩) hHeld (fun hHeld => ?rest21)
              case hy21 => (intro W hSw; go_simp <;> (with_reducible rfl))
              simp only [Act.put, List.setIfInBounds_toArray, List.set_cons_zero, List.set_cons_succ]
              refine wpAnyL_ready (rs := [22]) (by kernel_rfl) (by simp) ?_
              refine AllReadyL.cons (List.getElem?_toArray.trans rfl) (fun K hK => ?_) AllReadyL.nil
              go_simp
              refine hK.out _ _ (SL.off (by kernel_rfl) (SL.off (by kernel_rfl) SL.nil)) (fun hHeld => ?_)
              clear hK K
              try simp only [Act.put, List.setIfInBounds_toArray, List.set_cons_zero, List.set_cons_succ]
              refine wpAnyL_done (by kernel_rfl) ?_ _
              clear HFN HOD HO HTX HEL i1
              go_wp2_with fail
              go_roundw
              case rel => exact ⟨k + 1, _, _, _, _, _, _, _, _, _, _, _, by go_num, HO2.out⟩
              case measure => simp [intOf]; omega
              --]3
            case first =>
              rename_i hJ1 hK1
              --[2
              have HB := Lib.hid H1.out.mid.mkr.hB
              clear H HE HI HNE H1 HBAD HGR HW1
              have y1 : (0 : Nat) < 1 := by omega
              have y2 : k + 1 ≤ maxLen := by unfold maxLen; omega
              have y3 : (k + 1) * 24 ≤ 140737488355328 := by omega
              have y4 : ∀ u ∈ [Value.slice (some ⟨gx, 0, none⟩) 256 256], u.oneCell' = true := by intro u hu; simp at hu; subst hu; rfl
              have y5 : ∀ u ∈ [Value.slice (some ⟨gp, 0, none⟩) 256 256], u.oneCell' = true := by intro u hu; simp at hu; subst hu; rfl
              refine wp_region_L (S := SL [(21, fun W' => W'.cell? ⟨bk, 0, none⟩ = some vn), (25, fun W' => W'.cell? ⟨bk, 1, none⟩ = some vp)]) (by kernel_rfl) (rw_sl HX1.out.drew) (fun hHeld => ?_)
              refine takeP (i := 0) (v := ?v0_1) (List.getElem?_toArray.trans rfl) (by kernel_rfl) (by kernel_rfl) (by kernel_rfl) (fun _ _ _ h => h) (by kernel_rfl) (Or.inl ⟨by rfl, ?hy0_1⟩) hHeld (fun hHeld => ?rest0_1)
              case hy0_1 => (intro W hSw; go_simp <;> (with_reducible rfl))
              simp only [Act.put, List.setIfInBounds_toArray, List.set_cons_zero, List.set_cons_succ]
              refine takeP (i := 1) (v := ?v1_2) (List.getElem?_toArray.trans rfl) (by kernel_rfl) (by kernel_rfl) (by kernel_rfl) (fun _ _ _ h => h) (by kernel_rfl) (Or.inl ⟨by rfl, ?hy1_2⟩) hHeld (fun hHeld => ?rest1_2)
              case hy1_2 => (intro W hSw; go_simp <;> (with_reducible rfl))
              simp only [Act.put, List.setIfInBounds_toArray, List.set_cons_zero, List.set_cons_succ]
              refine takeP (i := 2) (v := ?v2_3) (List.getElem?_toArray.trans rfl) (by kernel_rfl) (by kernel_rfl) (by kernel_rfl) (fun _ _ _ h => h) (by kernel_rfl) (Or.inl ⟨by rfl, ?hy2_3⟩) hHeld (fun hHeld => ?rest2_3)
              case hy2_3 => (intro W hSw; go_simp <;> (with_reducible rfl))
              simp only [Act.put, List.setIfInBounds_toArray, List.set_cons_zero, List.set_cons_succ]
              refine takeP (i := 3) (v := ?v3_4) (List.getElem?_toArray.trans rfl) (by kernel_rfl) (by kernel_rfl) (by kernel_rfl) (fun _ _ _ h => h) (by kernel_rfl) (Or.inl ⟨by rfl, ?hy3_4⟩) hHeld (fun hHeld => ?rest3_4)
              case hy3_4 => (intro W hSw; go_simp <;> (with_reducible rfl))
              simp only [Act.put, List.setIfInBounds_toArray, List.set_cons_zero, List.set_cons_succ]
              refine takeP (i := 4) (v := ?v4_5) (List.getElem?_toArray.trans rfl) (by kernel_rfl) (by kernel_rfl) (by kernel_rfl) (fun _ _ _ h => h) (by kernel_rfl) (Or.inl ⟨by rfl, ?hy4_5⟩) hHeld (fun hHeld => ?rest4_5)
              case hy4_5 => (intro W hSw; go_simp <;> (with_reducible rfl))
              simp only [Act.put, List.setIfInBounds_toArray, List.set_cons_zero, List.set_cons_succ]
              refine takeP (i := 5) (v := ?v5_6) (List.getElem?_toArray.trans rfl) (by kernel_rfl) (by kernel_rfl) (by kernel_rfl) (fun _ _ _ h => h) (by kernel_rfl) (Or.inl ⟨by rfl, ?hy5_6⟩) hHeld (fun hHeld => ?rest5_6)
              case hy5_6 => (intro W hSw; go_simp <;> (with_reducible rfl))
              simp only [Act.put, List.setIfInBounds_toArray, List.set_cons_zero, List.set_cons_succ]
              refine takeP (i := 7) (v := ?v7_7) (List.getElem?_toArray.trans rfl) (by kernel_rfl) (by kernel_rfl) (by kernel_rfl) (fun _ _ _ h => h) (by kernel_rfl) (Or.inl ⟨by rfl, ?hy7_7⟩) hHeld (fun hHeld => ?rest7_7)
              case hy7_7 => (intro W hSw; go_simp <;> (with_reducible rfl))
              simp only [Act.put, List.setIfInBounds_toArray, List.set_cons_zero, List.set_cons_succ]
              refine takeP (i := 10) (v := ?v10_8) (List.getElem?_toArray.trans rfl) (by kernel_rfl) (by kernel_rfl) (by kernel_rfl) (fun _ _ _ h => h) (by kernel_rfl) (Or.inl ⟨by rfl, ?hy10_8⟩) hHeld (fun hHeld => ?rest10_8)
              case hy10_8 => (intro W hSw; go_simp <;> (with_reducible rfl))
              simp only [Act.put, List.setIfInBounds_toArray, List.set_cons_zero, List.set_cons_succ]
              refine takeP (i := 11) (v := ?v11_9) (List.getElem?_toArray.trans rfl) (by kernel_rfl) (by kernel_rfl) (by kernel_rfl) (fun _ _ _ h => h) (by kernel_rfl) (Or.inl ⟨by rfl, ?hy11_9⟩) hHeld (fun hHeld => ?rest11_9)
              case hy11_9 => (intro W hSw; go_simp <;> (with_reducible rfl))
              simp only [Act.put, List.setIfInBounds_toArray, List.set_cons_zero, List.set_cons_succ]
              refine takeP (i := 12) (v := ?v12_10) (List.getElem?_toArray.trans rfl) (by kernel_rfl) (by kernel_rfl) (by kernel_rfl) (fun _ _ _ h => h) (by kernel_rfl) (Or.inl ⟨by rfl, ?hy12_10⟩) hHeld (fun hHeld => ?rest12_10)
              case hy12_10 => (intro W hSw; go_simp <;> (with_reducible rfl))
              simp only [Act.put, List.setIfInBounds_toArray, List.set_cons_zero, List.set_cons_succ]
              refine takeP (i := 13) (v := ?v13_11) (List.getElem?_toArray.trans rfl) (by kernel_rfl) (by kernel_rfl) (by kernel_rfl) (fun _ _ _ h => h) (by kernel_rfl) (Or.inl ⟨by rfl, ?hy13_11⟩) hHeld (fun hHeld => ?rest13_11)
              case hy13_11 => (intro W hSw; go_simp <;> (with_reducible rfl))
              simp only [Act.put, List.setIfInBounds_toArray, List.set_cons_zero, List.set_cons_succ]
              refine takeP (i := 15) (v := ?v15_12) (List.getElem?_toArray.trans rfl) (by kernel_rfl) (by kernel_rfl) (by kernel_rfl) (fun _ _ _ h => h) (by kernel_rfl) (Or.inl ⟨by rfl, ?hy15_12⟩) hHeld (fun hHeld => ?rest15_12)
              case hy15_12 => (intro W hSw; go_simp <;> (with_reducible rfl))
              simp only [Act.put, List.setIfInBounds_toArray, List.set_cons_zero, List.set_cons_succ]
              refine takeL (i := 6) (v := ?v6_13) 21 (fun W' => W'.cell? ⟨bk, 0, none⟩ = some vn) [6, 9, 21] (by simp) (List.getElem?_toArray.trans rfl) (by kernel_rfl) (by kernel_rfl) (by kernel_rfl) (fun _ _ _ h => h) (by kernel_rfl) (Or.inl ⟨by rfl, ?hy6_13⟩) hHeld (fun hHeld => ?rest6_13)
              case hy6_13 => (intro W hSw; go_simp <;> (with_reducible rfl))
              simp only [Act.put, List.setIfInBounds_toArray, List.set_cons_zero, List.set_cons_succ]
              refine takeL (i := 14) (v := ?v14_14) 25 (fun W' => W'.cell? ⟨bk, 1, none⟩ = some vp) [14, 17, 25] (by simp) (List.getElem?_toArray.trans rfl) (by kernel_rfl) (by kernel_rfl) (by kernel_rfl) (fun _ _ _ h => h) (by kernel_rfl) (Or.inl ⟨by rfl, ?hy14_14⟩) hHeld (fun hHeld => ?rest14_14)
              case hy14_14 => (intro W hSw; go_simp <;> (with_reducible rfl))
              simp only [Act.put, List.setIfInBounds_toArray, List.set_cons_zero, List.set_cons_succ]
              have hxA := HX1.out.drew
              obtain ⟨w0, hw0⟩ : ∃ w0, w0 = wr.drew := ⟨_, rfl⟩
              rw [← hw0] at hxA hHeld ⊢
              have hb0 : wr.heap.size ≤ w0.heap.size := by rw [hw0]; exact Nat.le_refl _
              clear hw0
              refine wpAnyL_ready (rs := [8, 16]) (by kernel_rfl) (by simp) ?_
              refine AllReadyL.cons (List.getElem?_toArray.trans rfl) (fun K hK => ?w8_34) (AllReadyL.cons (List.getElem?_toArray.trans rfl) (fun K hK => ?w16_34) (AllReadyL.nil))
              case w8_34 =>
                go_simp
                have hxB := hxA.alloc (.cells #[.slice (some ⟨gx, 0, none⟩) 256 256] 39)
                refine hK.out _ _ (rw_sl hxB) (fun hHeld => ?_)
                clear hK K
                try simp only [Act.put, List.setIfInBounds_toArray, List.set_cons_zero, List.set_cons_succ]
                have k8 := Blk.new w0 39 [.slice (some ⟨gx, 0, none⟩) 256 256]
                refine wpAnyL_ready (rs := [9, 16]) (by kernel_rfl) (by simp) ?_
                refine AllReadyL.cons (List.getElem?_toArray.trans rfl) (fun K hK => ?w9_27) (AllReadyL.cons (List.getElem?_toArray.trans rfl) (fun K hK => ?w16_27) (AllReadyL.nil))
                case w9_27 =>
                  refine step_append_lies _ rfl (.tmp 81) (.tmp 83) 38 rfl B 39 i39 z39 1 24 Try.underlying38 hi39 hz39 hsz39 hbt39 hzc39 y1 vn k (slV RN k) rfl hxB.o0 ⟨_, 0, none⟩ 1 1 [.slice (some ⟨gx, 0, none⟩) 256 256] rfl rfl (one_news (by first | exact Blk.cell k8 0 | (simp; done) | (have h9 := Blk.cell k8 0; simpa using h9))) y4 y1 y2 y3 (Nat.le_trans HB.out hxB.but.size) _ rfl ?_
                  intro g2 cap2 w2 hown2 hgrow2 hat2 hlt2
                  have hxC := hxB.app0 (g := g2) hgrow2 hown2 rfl hat2 rfl
                  refine hK.out _ _ (rw_sl hxC) (fun hHeld => ?_)
                  clear hK K
                  try simp only [Act.put, List.setIfInBounds_toArray, List.set_cons_zero, List.set_cons_succ]
                  refine wpAnyL_ready (rs := [16]) (by kernel_rfl) (by simp) ?_
                  refine AllReadyL.cons (List.getElem?_toArray.trans rfl) (fun K hK => ?_) AllReadyL.nil
                  go_simp
                  have hxD := hxC.alloc (.cells #[.slice (some ⟨gp, 0, none⟩) 256 256] 39)
                  refine hK.out _ _ (rw_sl hxD) (fun hHeld => ?_)
                  clear hK K
                  try simp only [Act.put, List.setIfInBounds_toArray, List.set_cons_zero, List.set_cons_succ]
                  have k16 := Blk.new w2 39 [.slice (some ⟨gp, 0, none⟩) 256 256]
                  refine wpAnyL_ready (rs := [17]) (by kernel_rfl) (by simp) ?_
                  refine AllReadyL.cons (List.getElem?_toArray.trans rfl) (fun K hK => ?_) AllReadyL.nil
                  refine step_append_lies _ rfl (.tmp 89) (.tmp 91) 38 rfl B 39 i39 z39 1 24 Try.underlying38 hi39 hz39 hsz39 hbt39 hzc39 y1 vp k (slV RP k) rfl hxD.o1 ⟨_, 0, none⟩ 1 1 [.slice (some ⟨gp, 0, none⟩) 256 256] rfl rfl (one_news (by first | exact Blk.cell k16 0 | (simp; done) | (have h9 := Blk.cell k16 0; simpa using h9))) y5 y1 y2 y3 (Nat.le_trans HB.out hxD.but.size) _ rfl ?_
                  intro g3 cap3 w3 hown3 hgrow3 hat3 hlt3
                  have hxE := hxD.app1 (g := g3) hgrow3 hown3 rfl hat3 rfl
                  refine hK.out _ _ (rw_sl hxE) (fun hHeld => ?_)
                  clear hK K
                  try simp only [Act.put, List.setIfInBounds_toArray, List.set_cons_zero, List.set_cons_succ]
                  refine takeP (i := 18) (v := ?v18_15) (List.getElem?_toArray.trans rfl) (by kernel_rfl) (by kernel_rfl) (by kernel_rfl) (fun _ _ _ h => h) (by kernel_rfl) (Or.inl ⟨by rfl, ?hy18_15⟩) hHeld (fun hHeld => ?rest18_15)
                  case hy18_15 => (intro W hSw; go_simp <;> (with_reducible rfl))
                  simp only [Act.put, List.setIfInBounds_toArray, List.set_cons_zero, List.set_cons_succ]
                  refine takeP (i := 19) (v := ?v19_16) (List.getElem?_toArray.trans rfl) (by kernel_rfl) (by kernel_rfl) (by kernel_rfl) (fun _ _ _ h => h) (by kernel_rfl) (Or.inl ⟨by rfl, ?hy19_16⟩) hHeld (fun hHeld => ?rest19_16)
                  case hy19_16 => (intro W hSw; go_simp <;> (with_reducible rfl))
                  simp only [Act.put, List.setIfInBounds_toArray, List.set_cons_zero, List.set_cons_succ]
                  refine takeP (i := 20) (v := ?v20_17) (List.getElem?_toArray.trans rfl) (by kernel_rfl) (by kernel_rfl) (by kernel_rfl) (fun _ _ _ h => h) (by kernel_rfl) (Or.inl ⟨by rfl, ?hy20_17⟩) hHeld (fun hHeld => ?rest20_17)
                  case hy20_17 => (intro W hSw; go_simp <;> (with_reducible rfl))
                  simp only [Act.put, List.setIfInBounds_toArray, List.set_cons_zero, List.set_cons_succ]
                  have q0 := hxE.box.cell 0
                  have f0 := hxE.box.frozen 0
                  simp only [List.getElem?_cons_zero] at q0
                  refine wpAnyL_ready (rs := [21]) (by kernel_rfl) (by simp) ?_
                  refine AllReadyL.cons (List.getElem?_toArray.trans rfl) (fun K hK => ?_) AllReadyL.nil
                  go_simp
                  have hxY := hxE.put0 (.slice (some ⟨g2, 0, none⟩) (k + 1) cap2)
                  refine hK.out _ _ (rw_sl1 (by kernel_rfl) hxY) (fun hHeld => ?_)
                  clear hK K q0 f0
                  try simp only [Act.put, List.setIfInBounds_toArray, List.set_cons_zero, List.set_cons_succ]
                  refine takeP (i := 22) (v := ?v22_18) (List.getElem?_toArray.trans rfl) (by kernel_rfl) (by kernel_rfl) (by kernel_rfl) (fun _ _ _ h => h) (by kernel_rfl) (Or.inl ⟨by rfl, ?hy22_18⟩) hHeld (fun hHeld => ?rest22_18)
                  case hy22_18 => (intro W hSw; go_simp <;> (with_reducible rfl))
                  simp only [Act.put, List.setIfInBounds_toArray, List.set_cons_zero, List.set_cons_succ]
                  refine takeP (i := 23) (v := ?v23_19) (List.getElem?_toArray.trans rfl) (by kernel_rfl) (by kernel_rfl) (by kernel_rfl) (fun _ _ _ h => h) (by kernel_rfl) (Or.inl ⟨by rfl, ?hy23_19⟩) hHeld (fun hHeld => ?rest23_19)
                  case hy23_19 => (intro W hSw; go_simp <;> (with_reducible rfl))
                  simp only [Act.put, List.setIfInBounds_toArray, List.set_cons_zero, List.set_cons_succ]
                  refine takeP (i := 24) (v := ?v24_20) (List.getElem?_toArray.trans rfl) (by kernel_rfl) (by kernel_rfl) (by kernel_rfl) (fun _ _ _ h => h) (by kernel_rfl) (Or.inl ⟨by rfl, ?hy24_20⟩) hHeld (fun hHeld => ?rest24_20)
                  case hy24_20 => (intro W hSw; go_simp <;> (with_reducible rfl))
                  simp only [Act.put, List.setIfInBounds_toArray, List.set_cons_zero, List.set_cons_succ]
                  have q0 := hxY.box.cell 1
                  have f0 := hxY.box.frozen 1
                  simp only [List.getElem?_cons_zero, List.getElem?_cons_succ] at q0
                  refine wpAnyL_ready (rs := [25]) (by kernel_rfl) (by simp) ?_
                  refine AllReadyL.cons (List.getElem?_toArray.trans rfl) (fun K hK => ?_) AllReadyL.nil
                  go_simp
                  have hxZ := hxY.put1 (.slice (some ⟨g3, 0, none⟩) (k + 1) cap3)
                  refine hK.out _ _ (rw_sl2 (by kernel_rfl) (by kernel_rfl)) (fun hHeld => ?_)
                  clear hK K
                  try simp only [Act.put, List.setIfInBounds_toArray, List.set_cons_zero, List.set_cons_succ]
                  refine wpAnyL_done (by kernel_rfl) ?_ _
                  refine hK1 _ _ (Met.intro (hJ1 _ _ ?_))
                  repeat apply Exists.intro
                  exact ⟨⟨g2, cap2, g3, cap3, hxZ⟩, rfl⟩
                case w16_27 =>
                  go_simp
                  have hxC := hxB.alloc (.cells #[.slice (some ⟨gp, 0, none⟩) 256 256] 39)
                  refine hK.out _ _ (rw_sl hxC) (fun hHeld => ?_)
                  clear hK K
                  try simp only [Act.put, List.setIfInBounds_toArray, List.set_cons_zero, List.set_cons_succ]
                  have k16 := Blk.new (w0.alloc (.cells #[.slice (some ⟨gx, 0, none⟩) 256 256] 39)) 39 [.slice (some ⟨gp, 0, none⟩) 256 256]
                  have k8' := k8.alloc (.cells #[.slice (some ⟨gp, 0, none⟩) 256 256] 39)
                  refine wpAnyL_ready (rs := [9]) (by kernel_rfl) (by simp) ?_
                  refine AllReadyL.cons (List.getElem?_toArray.trans rfl) (fun K hK => ?_) AllReadyL.nil
                  refine step_append_lies _ rfl (.tmp 81) (.tmp 83) 38 rfl B 39 i39 z39 1 24 Try.underlying38 hi39 hz39 hsz39 hbt39 hzc39 y1 vn k (slV RN k) rfl hxC.o0 ⟨_, 0, none⟩ 1 1 [.slice (some ⟨gx, 0, none⟩) 256 256] rfl rfl (one_news (by first | exact Blk.cell k8' 0 | (simp; done) | (have h9 := Blk.cell k8' 0; simpa using h9))) y4 y1 y2 y3 (Nat.le_trans HB.out hxC.but.size) _ rfl ?_
                  intro g2 cap2 w2 hown2 hgrow2 hat2 hlt2
                  have hxD := hxC.app0 (g := g2) hgrow2 hown2 rfl hat2 rfl
                  refine hK.out _ _ (rw_sl hxD) (fun hHeld => ?_)
                  clear hK K
                  try simp only [Act.put, List.setIfInBounds_toArray, List.set_cons_zero, List.set_cons_succ]
                  have k16' := grow_blk k16 hgrow2 (far_own HX1.out.o0 (Nat.le_trans hb0 (by simp)))
                  refine wpAnyL_ready (rs := [17]) (by kernel_rfl) (by simp) ?_
                  refine AllReadyL.cons (List.getElem?_toArray.trans rfl) (fun K hK => ?_) AllReadyL.nil
                  refine step_append_lies _ rfl (.tmp 89) (.tmp 91) 38 rfl B 39 i39 z39 1 24 Try.underlying38 hi39 hz39 hsz39 hbt39 hzc39 y1 vp k (slV RP k) rfl hxD.o1 ⟨_, 0, none⟩ 1 1 [.slice (some ⟨gp, 0, none⟩) 256 256] rfl rfl (one_news (by first | exact Blk.cell k16' 0 | (simp; done) | (have h9 := Blk.cell k16' 0; simpa using h9))) y5 y1 y2 y3 (Nat.le_trans HB.out hxD.but.size) _ rfl ?_
                  intro g3 cap3 w3 hown3 hgrow3 hat3 hlt3
                  have hxE := hxD.app1 (g := g3) hgrow3 hown3 rfl hat3 rfl
                  refine hK.out _ _ (rw_sl hxE) (fun hHeld => ?_)
                  clear hK K
                  try simp only [Act.put, List.setIfInBounds_toArray, List.set_cons_zero, List.set_cons_succ]
                  refine takeP (i := 18) (v := ?v18_21) (List.getElem?_toArray.trans rfl) (by kernel_rfl) (by kernel_rfl) (by kernel_rfl) (fun _ _ _ h => h) (by kernel_rfl) (Or.inl ⟨by rfl, ?hy18_21⟩) hHeld (fun hHeld => ?rest18_21)
                  case hy18_21 => (intro W hSw; go_simp <;> (with_reducible rfl))
                  simp only [Act.put, List.setIfInBounds_toArray, List.set_cons_zero, List.set_cons_succ]
                  refine takeP (i := 19) (v := ?v19_22) (List.getElem?_toArray.trans rfl) (by kernel_rfl) (by kernel_rfl) (by kernel_rfl) (fun _ _ _ h => h) (by kernel_rfl) (Or.inl ⟨by rfl, ?hy19_22⟩) hHeld (fun hHeld => ?rest19_22)
                  case hy19_22 => (intro W hSw; go_simp <;> (with_reducible rfl))
                  simp only [Act.put, List.setIfInBounds_toArray, List.set_cons_zero, List.set_cons_succ]
                  refine takeP (i := 20) (v := ?v20_23) (List.getElem?_toArray.trans rfl) (by kernel_rfl) (by kernel_rfl) (by kernel_rfl) (fun _ _ _ h => h) (by kernel_rfl) (Or.inl ⟨by rfl, ?hy20_23⟩) hHeld (fun hHeld => ?rest20_23)
                  case hy20_23 => (intro W hSw; go_simp <;> (with_reducible rfl))
                  simp only [Act.put, List.setIfInBounds_toArray, List.set_cons_zero, List.set_cons_succ]
                  have q0 := hxE.box.cell 0
                  have f0 := hxE.box.frozen 0
                  simp only [List.getElem?_cons_zero] at q0
                  refine wpAnyL_ready (rs := [21]) (by kernel_rfl) (by simp) ?_
                  refine AllReadyL.cons (List.getElem?_toArray.trans rfl) (fun K hK => ?_) AllReadyL.nil
                  go_simp
                  have hxY := hxE.put0 (.slice (some ⟨g2, 0, none⟩) (k + 1) cap2)
                  refine hK.out _ _ (rw_sl1 (by kernel_rfl) hxY) (fun hHeld => ?_)
                  clear hK K q0 f0
                  try simp only [Act.put, List.setIfInBounds_toArray, List.set_cons_zero, List.set_cons_succ]
                  refine takeP (i := 22) (v := ?v22_24) (List.getElem?_toArray.trans rfl) (by kernel_rfl) (by kernel_rfl) (by kernel_rfl) (fun _ _ _ h => h) (by kernel_rfl) (Or.inl ⟨by rfl, ?hy22_24⟩) hHeld (fun hHeld => ?rest22_24)
                  case hy22_24 => (intro W hSw; go_simp <;> (with_reducible rfl))
                  simp only [Act.put, List.setIfInBounds_toArray, List.set_cons_zero, List.set_cons_succ]
                  refine takeP (i := 23) (v := ?v23_25) (List.getElem?_toArray.trans rfl) (by kernel_rfl) (by kernel_rfl) (by kernel_rfl) (fun _ _ _ h => h) (by kernel_rfl) (Or.inl ⟨by rfl, ?hy23_25⟩) hHeld (fun hHeld => ?rest23_25)
                  case hy23_25 => (intro W hSw; go_simp <;> (with_reducible rfl))
                  simp only [Act.put, List.setIfInBounds_toArray, List.set_cons_zero, List.set_cons_succ]
                  refine takeP (i := 24) (v := ?v24_26) (List.getElem?_toArray.trans rfl) (by kernel_rfl) (by kernel_rfl) (by kernel_rfl) (fun _ _ _ h => h) (by kernel_rfl) (Or.inl ⟨by rfl, ?hy24_26⟩) hHeld (fun hHeld => ?rest24_26)
                  case hy24_26 => (intro W hSw; go_simp <;> (with_reducible rfl))
                  simp only [Act.put, List.setIfInBounds_toArray, List.set_cons_zero, List.set_cons_succ]
                  have q0 := hxY.box.cell 1
                  have f0 := hxY.box.frozen 1
                  simp only [List.getElem?_cons_zero, List.getElem?_cons_succ] at q0
                  refine wpAnyL_ready (rs := [25]) (by kernel_rfl) (by simp) ?_
                  refine AllReadyL.cons (List.getElem?_toArray.trans rfl) (fun K hK => ?_) AllReadyL.nil
                  go_simp
                  have hxZ := hxY.put1 (.slice (some ⟨g3, 0, none⟩) (k + 1) cap3)
                  refine hK.out _ _ (rw_sl2 (by kernel_rfl) (by kernel_rfl)) (fun hHeld => ?_)
                  clear hK K
                  try simp only [Act.put, List.setIfInBounds_toArray, List.set_cons_zero, List.set_cons_succ]
                  refine wpAnyL_done (by kernel_rfl) ?_ _
                  refine hK1 _ _ (Met.intro (hJ1 _ _ ?_))
                  repeat apply Exists.intro
                  exact ⟨⟨g2, cap2, g3, cap3, hxZ⟩, rfl⟩
              case w16_34 =>
                go_simp
                have hxB := hxA.alloc (.cells #[.slice (some ⟨gp, 0, none⟩) 256 256] 39)
                refine hK.out _ _ (rw_sl hxB) (fun hHeld => ?_)
                clear hK K
                try simp only [Act.put, List.setIfInBounds_toArray, List.set_cons_zero, List.set_cons_succ]
                have k16 := Blk.new w0 39 [.slice (some ⟨gp, 0, none⟩) 256 256]
                refine wpAnyL_ready (rs := [8]) (by kernel_rfl) (by simp) ?_
                refine AllReadyL.cons (List.getElem?_toArray.trans rfl) (fun K hK => ?_) AllReadyL.nil
                go_simp
                have hxC := hxB.alloc (.cells #[.slice (some ⟨gx, 0, none⟩) 256 256] 39)
                refine hK.out _ _ (rw_sl hxC) (fun hHeld => ?_)
                clear hK K
                try simp only [Act.put, List.setIfInBounds_toArray, List.set_cons_zero, List.set_cons_succ]
                have k8 := Blk.new (w0.alloc (.cells #[.slice (some ⟨gp, 0, none⟩) 256 256] 39)) 39 [.slice (some ⟨gx, 0, none⟩) 256 256]
                have k16' := k16.alloc (.cells #[.slice (some ⟨gx, 0, none⟩) 256 256] 39)
                refine wpAnyL_ready (rs := [9]) (by kernel_rfl) (by simp) ?_
                refine AllReadyL.cons (List.getElem?_toArray.trans rfl) (fun K hK => ?_) AllReadyL.nil
                refine step_append_lies _ rfl (.tmp 81) (.tmp 83) 38 rfl B 39 i39 z39 1 24 Try.underlying38 hi39 hz39 hsz39 hbt39 hzc39 y1 vn k (slV RN k) rfl hxC.o0 ⟨_, 0, none⟩ 1 1 [.slice (some ⟨gx, 0, none⟩) 256 256] rfl rfl (one_news (by first | exact Blk.cell k8 0 | (simp; done) | (have h9 := Blk.cell k8 0; simpa using h9))) y4 y1 y2 y3 (Nat.le_trans HB.out hxC.but.size) _ rfl ?_
                intro g2 cap2 w2 hown2 hgrow2 hat2 hlt2
                have hxD := hxC.app0 (g := g2) hgrow2 hown2 rfl hat2 rfl
                refine hK.out _ _ (rw_sl hxD) (fun hHeld => ?_)
                clear hK K
                try simp only [Act.put, List.setIfInBounds_toArray, List.set_cons_zero, List.set_cons_succ]
                have k16'' := grow_blk k16' hgrow2 (far_own HX1.out.o0 hb0)
                refine wpAnyL_ready (rs := [17]) (by kernel_rfl) (by simp) ?_
                refine AllReadyL.cons (List.getElem?_toArray.trans rfl) (fun K hK => ?_) AllReadyL.nil
                refine step_append_lies _ rfl (.tmp 89) (.tmp 91) 38 rfl B 39 i39 z39 1 24 Try.underlying38 hi39 hz39 hsz39 hbt39 hzc39 y1 vp k (slV RP k) rfl hxD.o1 ⟨_, 0, none⟩ 1 1 [.slice (some ⟨gp, 0, none⟩) 256 256] rfl rfl (one_news (by first | exact Blk.cell k16'' 0 | (simp; done) | (have h9 := Blk.cell k16'' 0; simpa using h9))) y5 y1 y2 y3 (Nat.le_trans HB.out hxD.but.size) _ rfl ?_
                intro g3 cap3 w3 hown3 hgrow3 hat3 hlt3
                have hxE := hxD.app1 (g := g3) hgrow3 hown3 rfl hat3 rfl
                refine hK.out _ _ (rw_sl hxE) (fun hHeld => ?_)
                clear hK K
                try simp only [Act.put, List.setIfInBounds_toArray, List.set_cons_zero, List.set_cons_succ]
                refine takeP (i := 18) (v := ?v18_28) (List.getElem?_toArray.trans rfl) (by kernel_rfl) (by kernel_rfl) (by kernel_rfl) (fun _ _ _ h => h) (by kernel_rfl) (Or.inl ⟨by rfl, ?hy18_28⟩) hHeld (fun hHeld => ?rest18_28)
                case hy18_28 => (intro W hSw; go_simp <;> (with_reducible rfl))
                simp only [Act.put, List.setIfInBounds_toArray, List.set_cons_zero, List.set_cons_succ]
                refine takeP (i := 19) (v := ?v19_29) (List.getElem?_toArray.trans rfl) (by kernel_rfl) (by kernel_rfl) (by kernel_rfl) (fun _ _ _ h => h) (by kernel_rfl) (Or.inl ⟨by rfl, ?hy19_29⟩) hHeld (fun hHeld => ?rest19_29)
                case hy19_29 => (intro W hSw; go_simp <;> (with_reducible rfl))
                simp only [Act.put, List.setIfInBounds_toArray, List.set_cons_zero, List.set_cons_succ]
                refine takeP (i := 20) (v := ?v20_30) (List.getElem?_toArray.trans rfl) (by kernel_rfl) (by kernel_rfl) (by kernel_rfl) (fun _ _ _ h => h) (by kernel_rfl) (Or.inl ⟨by rfl, ?hy20_30⟩) hHeld (fun hHeld => ?rest20_30)
                case hy20_30 => (intro W hSw; go_simp <;> (with_reducible rfl))
                simp only [Act.put, List.setIfInBounds_toArray, List.set_cons_zero, List.set_cons_succ]
                have q0 := hxE.box.cell 0
                have f0 := hxE.box.frozen 0
                simp only [List.getElem?_cons_zero] at q0
                refine wpAnyL_ready (rs := [21]) (by kernel_rfl) (by simp) ?_
                refine AllReadyL.cons (List.getElem?_toArray.trans rfl) (fun K hK => ?_) AllReadyL.nil
                go_simp
                have hxY := hxE.put0 (.slice (some ⟨g2, 0, none⟩) (k + 1) cap2)
                refine hK.out _ _ (rw_sl1 (by kernel_rfl) hxY) (fun hHeld => ?_)
                clear hK K q0 f0
                try simp only [Act.put, List.setIfInBounds_toArray, List.set_cons_zero, List.set_cons_succ]
                refine takeP (i := 22) (v := ?v22_31) (List.getElem?_toArray.trans rfl) (by kernel_rfl) (by kernel_rfl) (by kernel_rfl) (fun _ _ _ h => h) (by kernel_rfl) (Or.inl ⟨by rfl, ?hy22_31⟩) hHeld (fun hHeld => ?rest22_31)
                case hy22_31 => (intro W hSw; go_simp <;> (with_reducible rfl))
                simp only [Act.put, List.setIfInBounds_toArray, List.set_cons_zero, List.set_cons_succ]
                refine takeP (i := 23) (v := ?v23_32) (List.getElem?_toArray.trans rfl) (by kernel_rfl) (by kernel_rfl) (by kernel_rfl) (fun _ _ _ h => h) (by kernel_rfl) (Or.inl ⟨by rfl, ?hy23_32⟩) hHeld (fun hHeld => ?rest23_32)
                case hy23_32 => (intro W hSw; go_simp <;> (with_reducible rfl))
                simp only [Act.put, List.setIfInBounds_toArray, List.set_cons_zero, List.set_cons_succ]
                refine takeP (i := 24) (v := ?v24_33) (List.getElem?_toArray.trans rfl) (by kernel_rfl) (by kernel_rfl) (by kernel_rfl) (fun _ _ _ h => h) (by kernel_rfl) (Or.inl ⟨by rfl, ?hy24_33⟩) hHeld (fun hHeld => ?rest24_33)
                case hy24_33 => (intro W hSw; go_simp <;> (with_reducible rfl))
                simp only [Act.put, List.setIfInBounds_toArray, List.set_cons_zero, List.set_cons_succ]
                have q0 := hxY.box.cell 1
                have f0 := hxY.box.frozen 1
                simp only [List.getElem?_cons_zero, List.getElem?_cons_succ] at q0
                refine wpAnyL_ready (rs := [25]) (by kernel_rfl) (by simp) ?_
                refine AllReadyL.cons (List.getElem?_toArray.trans rfl) (fun K hK => ?_) AllReadyL.nil
                go_simp
                have hxZ := hxY.put1 (.slice (some ⟨g3, 0, none⟩) (k + 1) cap3)
                refine hK.out _ _ (rw_sl2 (by kernel_rfl) (by kernel_rfl)) (fun hHeld => ?_)
                clear hK K
                try simp only [Act.put, List.setIfInBounds_toArray, List.set_cons_zero, List.set_cons_succ]
                refine wpAnyL_done (by kernel_rfl) ?_ _
                refine hK1 _ _ (Met.intro (hJ1 _ _ ?_))
                repeat apply Exists.intro
                exact ⟨⟨g2, cap2, g3, cap3, hxZ⟩, rfl⟩
              --]2
    · obtain rfl : k = m.all.length := by omega
      obtain ⟨bd, hbd⟩ : ∃ bd, bd = m.bad := ⟨_, rfl⟩
      rw [← hbd] at c7
      have c0 := H.out.mkr.box.cell 0
      have c1 := H.out.mkr.box.cell 1
      have c2 := H.out.mkr.box.cell 2
      have c3 := H.out.mkr.box.cell 3
      have r0 := H.out.br.cell 0
      have r1 := H.out.br.cell 1
      have r2 := H.out.br.cell 2
      have r3 := H.out.br.cell 3
      have e0 := H.out.br.frozen 0
      have e1 := H.out.br.frozen 1
      have e2 := H.out.br.frozen 2
      have e3 := H.out.br.frozen 3
      simp only [z4, List.getElem?_cons_zero, List.getElem?_cons_succ] at c0 c1 c2 c3 r0 r1 r2 r3
      have HBD := Lib.hid hbd
      clear hbd
      cases bd with
      | true =>
        have HZ4 := Lib.hid (four_set H.out.br (.slice none 0 0) (.slice none 0 0) (.slice none 0 0) (.slice none 0 0))
        go_wp2_with fail
        refine bodyPost_ret (res_mach rfl _ rfl HZ4.out.1) rfl ?_
        exact .inl ⟨_, _, _, _, rfl, H.out.run, .inr rfl, HBD.out.symm, HE.out.go _ _ _ H.out.ctx H.out.mkr.hB (HZ4.out.2.mono (fun k _ e => by rw [e]; exact H.out.ar))⟩
      | false =>
        obtain ⟨An, cn, hvn⟩ := own_sl H.out.mkr.nx.own
        obtain ⟨Ap, cp, hvp⟩ := own_sl H.out.mkr.pt.own
        obtain ⟨Ae, ce', hve⟩ := own_sl H.out.mkr.oe
        obtain ⟨At, ct, hvt⟩ := own_sl H.out.mkr.ot
        have HZ4 := Lib.hid (four_set H.out.br vn vp ve vt)
        have HZV := Lib.hid (And.intro hvn (And.intro hvp (And.intro hve hvt)))
        rw [hvn] at c0
        rw [hvp] at c1
        rw [hve] at c2
        rw [hvt] at c3
        rw [hvn, hvp, hve, hvt] at HZ4
        clear hvn hvp hve hvt
        go_wp2_with fail
        refine bodyPost_ret (res_mach rfl _ rfl HZ4.out.1) rfl ?_
        have hz := four_set H.out.br vn vp ve vt
        have hb4 := hz.2.mono (S' := fun k => B ≤ k) (fun k _ e => by rw [e]; exact H.out.ar)
        rw [← HZV.out.1, ← HZV.out.2.1, ← HZV.out.2.2.1, ← HZV.out.2.2.2]
        exact .inr ⟨m, fl, vn, vp, ve, vt, _, D1, D2, RN, RP, rfl, H.out.run, H.out.out hz.2, HE.out.go _ _ _ H.out.ctx H.out.mkr.hB hb4, HBD.out.symm⟩
end Go.Proofs.Ythjnkpoalbddkaa.MP
