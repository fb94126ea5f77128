/- MWalk of this seat, in one text. -/
import Derived.Test.YtgejpggbmgiocaaM15
import Derived.Deep.WholeRow
/- vm.Merge: its walk. -/
namespace Go.Proofs.Ytgejpggbmgiocaa
open Go.RowKit
attribute [local go_sem ↓] load_pr store_pr store_nd
def lenOf : Value → Nat
  | .slice _ n _ => n
  | _ => 0
set_option maxRecDepth 100000 in
set_option maxHeartbeats 8000000 in
theorem merge_walk (A0 A1 A2 AL : Option Addr) (n0 n1 n2 c0 c1 c2 n cL : Nat) (S K V l : List Int) (signs : Int) (w : World) (h : HashIn w A0 A1 A2 n0 n1 n2 S K V) (hv : Under 18446744073709551616 V)
    (hs0 : 0 ≤ signs) (hs1 : signs ≤ 65536) (hn : n ≤ 262144) (hl : l.length = n) (hL : Arr w w.heap.size 1 AL n (IntC l)) :
    Calls Try.prog 7 #[.agg #[.slice A0 n0 c0, .slice A1 n1 c1, .slice A2 n2 c2], .int .i64 signs, .slice AL n cL] w (MRes (if badId signs l = true then none else mergeF (hget S K V) signs l) w) := by
  have HM := Lib.hid (M0.start h hv c0 c1 c2 n)
  have hmk := make_nodes n hn
  have HL := Lib.hid hL
  have HLN := Lib.hid hl
  have d1 : decide (signs < 0) = false := by simp; omega
  have d2 : decide (65536 < signs) = false := by simp; omega
  have d3 : decide ((262144 : Int) < (n : Int)) = false := by simp; omega
  have HV := Lib.hid hv
  obtain ⟨R, hR⟩ : ∃ R, R = (if badId signs l = true then none else mergeF (hget S K V) signs l) := ⟨_, rfl⟩
  have HR := Lib.hid hR
  rw [← hR]
  clear h hL hv hR
  go_enter Try.func7, Try.ntmps7
  go_upto_block 0 with (fail)
  obtain ⟨B, hB⟩ : ∃ B, B = w.heap.size := ⟨_, rfl⟩
  have HB := Lib.hid hB
  rw [← hB] at HM ⊢
  generalize ((w.alloc _).alloc _).alloc _ = w1 at HM ⊢
  rw [← ndPre_zero' l n hl] at HM
  clear hB hmk d1 d2 d3
  go_cut [9, 10] from 13 (fun _x _y wx => (∀ j, j < n → 0 ≤ l.getD j 0 ∧ l.getD j 0 < signs) ∧ M0 w A0 A1 A2 n0 n1 n2 c0 c1 c2 S K V B (B + 2) (B + 1) n wx (ndPre l n))
  case first =>
    go_wp2_with fail
    go_loopw [35] (fun i wr => ∃ k : Nat, k ≤ n ∧ i = .int .i64 k ∧ (∀ j, j < k → 0 ≤ l.getD j 0 ∧ l.getD j 0 < signs) ∧ M0 w A0 A1 A2 n0 n1 n2 c0 c1 c2 S K V B (B + 2) (B + 1) n wr (ndPre l k)) (fun i _ => n - (intOf i).toNat)
    case atStart => exact ⟨0, by omega, rfl, fun j hj => by omega, HM.out⟩
    case round =>
      obtain ⟨k, hk, rfl, hpos, hM⟩ := hrel
      have H := Lib.hid hM
      have HP := Lib.hid hpos
      clear hM hpos
      by_cases hlt : k < n
      · obtain ⟨b, o, rfl, hbB, hc⟩ := HL.out.one hlt
        have hc := (H.out.bel.cell (p := ⟨b, o + k, none⟩) (by show b < B; rw [HB.out]; exact hbB)).trans hc
        unfold IntC at hc
        obtain ⟨x, hx⟩ : ∃ x, x = l.getD k 0 := ⟨_, rfl⟩
        rw [← hx] at hc
        have HX := Lib.hid hx
        clear hx
        by_cases hx0 : x < 0
        · have e1 : decide (x < 0) = true := by simpa using hx0
          have hbad := badId_yes (signs := signs) (l := l) (k := k) (by rw [hl]; exact hlt) (.inl (by rw [← HX.out]; exact hx0))
          have HBAD := Lib.hid hbad
          clear hbad
          go_wp2_with fail
          go_returns
          rw [HR.out, if_pos HBAD.out]
          exact ⟨by rw [← HB.out]; exact H.out.bel, rfl⟩
        · have e1 : decide (x < 0) = false := by simpa using hx0
          by_cases hx1 : signs ≤ x
          · have e2 : decide (signs ≤ x) = true := by simpa using hx1
            have hbad := badId_yes (signs := signs) (l := l) (k := k) (by rw [hl]; exact hlt) (.inr (by rw [← HX.out]; exact hx1))
            have HBAD := Lib.hid hbad
            clear hbad
            go_wp2_with fail
            go_returns
            rw [HR.out, if_pos HBAD.out]
            exact ⟨by rw [← HB.out]; exact H.out.bel, rfl⟩
          · have e2 : decide (signs ≤ x) = false := by simpa using hx1
            have q0 := H.out.lb.cell 0
            obtain ⟨s1, h1⟩ := nd_store H.out.nb (k := k) (by rw [H.out.len]; exact hlt) ⟨x, (k : Int) + 1, (k : Int) - 1⟩
            simp only [List.getElem?_cons_zero] at q0 s1 h1
            have hM2 := H.out.nodes (grownBy_setCells (B + 1) _ _ _) h1 (by rw [List.length_set]; exact H.out.len)
            have HM2 := Lib.hid hM2
            have i1 : (k : Int) < (n : Int) := by omega
            clear h1 hM2
            go_wp2_with fail
            go_roundw
            case rel =>
              refine ⟨k + 1, by omega, by go_num, fun j hj => ?_, ?_⟩
              · by_cases e : j = k
                · subst e; rw [← HX.out]; omega
                · exact HP.out j (by omega)
              · rw [← ndPre_set, ← HX.out]; exact HM2.out
            case measure => simp [intOf]; omega
      · obtain rfl : n = k := by omega
        go_wp2_with fail
        go_meet
        exact ⟨HP.out, H.out⟩
  case rest =>
    obtain ⟨hpos, hM⟩ := hcut
    have H := Lib.hid hM
    have HP := Lib.hid hpos
    clear hM hpos HM
    obtain ⟨wr, rfl⟩ : ∃ wr : World, wr = wc := ⟨_, rfl⟩
    by_cases hn0 : n = 0
    · subst hn0
      obtain rfl : l = [] := List.length_eq_zero_iff.1 hl
      have q0 := H.out.lb.cell 0
      simp only [List.getElem?_cons_zero] at q0
      go_wp2_with fail
      go_returns
      rw [HR.out]
      refine ⟨by rw [← HB.out]; exact H.out.bel, ?_⟩
      rw [show badId signs [] = false from rfl, if_neg (by simp), mergeF_nil]
      exact ⟨none, 0, by first | rfl | simp, fun h9 => absurd h9 (Nat.lt_irrefl 0), fun _ => ⟨rfl, rfl⟩⟩
    · obtain ⟨m, hm⟩ : ∃ m, m = n - 1 := ⟨_, rfl⟩
      have hnm : n = m + 1 := by omega
      have b1 : ((n : Int) == 0) = false := by simp; omega
      have e1 : (n : Int) - 1 = (m : Int) := by omega
      have q0 := H.out.lb.cell 0
      have q1 := H.out.nb.cell (m * 3 + 1)
      have q2 := H.out.nb.frozen (m * 3 + 1)
      rw [flat_get (by rw [H.out.len]; omega) (by omega)] at q1
      simp only [List.getElem?_cons_zero] at q0
      unfold ndF at q1
      simp only at q1
      have hat := ndPre_at l n m (by omega) (by omega)
      have hn2 := nd_setNext H.out.nb (k := m) (by rw [H.out.len]; omega) (-1)
      rw [hat] at hn2
      have hlast := ndPre_last l (by omega)
      rw [hl, ← hm] at hlast
      simp only at hn2
      rw [hlast] at hn2
      have HM2 := Lib.hid (H.out.nodes (grownBy_setCell wr (B + 1) (m * 3 + 1) (.int .i64 (-1))) hn2 (by rw [length_ndInit]; exact hl))
      have i1 : (m : Int) < (n : Int) := by omega
      have HNM := Lib.hid hnm
      clear hat hn2 hlast hm hnm
      have hpos2 : ∀ j, j < l.length → 0 ≤ l.getD j 0 := fun j hj => (HP.out j (by omega)).1
      have hhi2 : ∀ j, j < l.length → l.getD j 0 < signs := fun j hj => (HP.out j (by omega)).2
      have HPOS := Lib.hid (And.intro hpos2 hhi2)
      clear hpos2 hhi2
      have HQ := Lib.hid HM2.out.queue
      have hsz : (wr.setCell ⟨B + 1, m * 3 + 1, none⟩ (.int .i64 (-1))).heap.size = wr.heap.size := by simp
      rw [hsz] at HQ
      have hbl := H.out.lb.lt
      clear HM2 hsz
      go_upto_block 2 with (fail)
      obtain ⟨bq, hbq⟩ : ∃ bq, bq = wr.heap.size := ⟨_, rfl⟩
      rw [← hbq] at HQ ⊢
      generalize (wr.setCell _ _).alloc _ = w3 at HQ ⊢
      clear hbq H q0 q1 q2 b1 e1 hbl i1
      have q0 := HQ.out.box
      go_cut [] from 13 (fun wx => ∃ a q, MM w A0 A1 A2 n0 n1 n2 c0 c1 c2 S K V B (B + 2) (B + 1) bq n wx (ndInit l) a q ∧ MQ (hget S K V) signs l (ndInit l) (List.range l.length) q)
      case first =>
        go_wp2_with fail
        go_loopw [69] (fun i wq => ∃ k : Nat, k ≤ n ∧ i = .int .i64 k ∧ ∃ a q, MM w A0 A1 A2 n0 n1 n2 c0 c1 c2 S K V B (B + 2) (B + 1) bq n wq (ndInit l) a q ∧ QTo (hget S K V) l q k) (fun i _ => n - (intOf i).toNat)
        case atStart => exact ⟨0, by omega, rfl, _, _, HQ.out, QTo.start⟩
        case round =>
          obtain ⟨k, hk, rfl, a, q, hMM, hTo⟩ := hrel
          have H := Lib.hid hMM
          have HT := Lib.hid hTo
          clear hMM hTo
          by_cases hlt : k < n
          · have hci := chain_init (ids := l) (by omega) HPOS.out.1
            have hin : ∀ i, i < (ndInit l).length → (ndAt (ndInit l) i).id < 65536 := fun i hi => by
              rw [length_ndInit] at hi
              rw [ndInit_at hi]
              have := HPOS.out.2 i hi
              show l.getD i 0 < 65536
              omega
            have hsm : ∀ p ∈ q, SmallP p := fun p hp => small_of HV.out (n := (ndInit l).length) (by rw [length_ndInit]; omega) (HT.out.ok p hp)
            have hql := HT.out.len
            have HC := Lib.hid (look_all w A0 A1 A2 n0 n1 n2 c0 c1 c2 S K V B (B + 2) (B + 1) bq n wr (ndInit l) a q H.out hn (List.range l.length) hci.1 hin k (.inr ⟨k, by simp; omega, by simp [show k < l.length by omega]⟩) (by omega) hsm HT.out.hp)
            clear hci hin hsm hql
            go_wp2_with fail
            refine HC.out.mono ?_
            rintro e w4 ⟨rfl, a2, q2, hM2, hh2, hp2⟩
            have HM4 := Lib.hid hM2
            have HT4 := Lib.hid (HT.out.next (by omega) HPOS.out.1 (by omega) hp2 hh2)
            clear hM2 hh2 hp2 HC
            go_wp2_with fail
            go_roundw
            case rel =>
              exact ⟨k + 1, by omega, by go_num, a2, q2, HM4.out, HT4.out⟩
            case measure => simp [intOf]; omega
          · obtain rfl : n = k := by omega
            go_wp2_with fail
            go_meet
            exact ⟨a, q, H.out, QTo.all_in (by rw [hl]; exact HT.out) (by omega) HPOS.out.1 HPOS.out.2⟩
      case rest =>
        obtain ⟨a0, qi0, hMM0, hMQ0⟩ := hcut
        have HMM0 := Lib.hid hMM0
        have HMQ0 := Lib.hid hMQ0
        clear hMM0 hMQ0 HQ q0
        go_upto_block 4 with (fail)
        go_cut [] from 13 (fun wx => ∃ nd c a, MM w A0 A1 A2 n0 n1 n2 c0 c1 c2 S K V B (B + 2) (B + 1) bq n wx nd a [] ∧ MQ (hget S K V) signs l nd c [])
        case first =>
          go_wp2_with fail
          go_loopw [] (fun wq => ∃ nd c a q, MM w A0 A1 A2 n0 n1 n2 c0 c1 c2 S K V B (B + 2) (B + 1) bq n wq nd a q ∧ MQ (hget S K V) signs l nd c q) (fun wq => mM (B + 1) bq wq)
          case atStart => exact ⟨_, _, _, _, HMM0.out, HMQ0.out⟩
          case round =>
            obtain ⟨nd, c, a, q, hMM, hMQ⟩ := hrel
            have H := Lib.hid hMM
            have HMQ := Lib.hid hMQ
            have q0 := hMM.qb.c0
            obtain ⟨qn, hqn⟩ : ∃ qn, qn = q.length := ⟨_, rfl⟩
            by_cases hq0 : qn = 0
            · obtain rfl : q = [] := List.length_eq_zero_iff.1 (by omega)
              obtain ⟨A, cc, rfl⟩ := own_sl hMM.qb.own
              simp only [List.length_nil] at q0
              clear hMM hMQ hqn
              go_wp2_with fail
              go_meet
              exact ⟨nd, c, _, H.out, HMQ.out⟩
            · obtain ⟨g, cap, rfl⟩ := hMM.qb.form (by omega)
              rw [← hqn] at q0
              obtain ⟨k, hk⟩ : ∃ k, k = qn - 1 := ⟨_, rfl⟩
              have hbnd := hMQ.bnd
              have hsm : ∀ p ∈ q, SmallP p := fun p hp => small_of HV.out (n := nd.length) (by rw [hMM.len]; exact hn) (hMQ.qi.ok p hp)
              have hqk : q.length = k + 1 := by omega
              have hqb := hMM.qb
              rw [hqk] at hqb
              have HT := Lib.hid (take_any bq k g cap wr wr q hqk (by omega) hsm hMQ.hp hqb)
              have i1 : (0 : Int) < (qn : Int) := by omega
              have hpm : q.getD 0 pr0 ∈ q := by simp [show 0 < q.length by omega]
              have hok := hMQ.qi.ok _ hpm
              obtain ⟨p, hp0⟩ : ∃ p, p = q.getD 0 pr0 := ⟨_, rfl⟩
              rw [← hp0] at HT hok
              have HP0 := Lib.hid hp0
              have HOK := Lib.hid hok
              have HQK := Lib.hid hqk
              clear hMM hMQ hbnd hsm hqb hqn hqk hpm hp0 hok hk
              go_wp2_with fail
              refine HT.out.mono ?_
              rintro e w4 ⟨rfl, a', q', hq', hh', hp'⟩
              have H4 := Lib.hid (H.out.put hq')
              have HH4 := Lib.hid hh'
              have HP4 := Lib.hid hp'
              clear hq' hh' hp' HT q0 i1
              have hs0 : (storePr (.pointer (some ⟨w4.heap.size, 0, none⟩)) (prV p)).run Try.prog (w4.alloc (.cells zero5.toArray 57)) = .ok () (w4.alloc (.cells (cellsOfEl 5 prF p).toArray 57)) := by
                rw [prV_cells]
                exact run_storeAt_new _ 57 _ _ info57 rfl (all_oneCell_toArray (cells_one p))
              have H5 := Lib.hid (H4.out.go ((Below.refl _ _).alloc (Nat.le_refl _) (.cells (cellsOfEl 5 prF p).toArray 57)))
              have hB5 := Blk.new w4 57 (cellsOfEl 5 prF p)
              obtain ⟨rk, lf, fi, se, pid⟩ := p
              obtain ⟨pl, hpl⟩ := Int.eq_ofNat_of_zero_le HOK.out.1
              simp only at hpl
              subst hpl
              have hpln : pl < n := by have := HOK.out.2.1; rw [H4.out.len] at this; simpa using this
              have hx1 := H5.out.box
              have hx2 := H5.out.cell hpln (j := 0) (by omega)
              have hx3 := H5.out.cell hpln (j := 1) (by omega)
              unfold ndF at hx2 hx3
              simp only [Nat.add_zero] at hx2 hx3
              unfold zero5 at hs0
              unfold prV at hs0 ⊢
              simp only [cellsOfEl, prF, List.range, List.range.loop, List.map_cons, List.map_nil] at hs0 H5 hB5 hx1 hx2 hx3
              have i2 : (pl : Int) < (n : Int) := by omega
              have HB5 := Lib.hid hB5
              clear hB5
              have hy0 := HB5.out.cell 1
              have hy1 := HB5.out.cell 2
              have hy2 := HB5.out.cell 3
              have hy3 := HB5.out.cell 4
              simp only [List.getElem?_cons_zero, List.getElem?_cons_succ] at hy0 hy1 hy2 hy3
              go_wp2_with fail
              obtain ⟨bp, hbp⟩ : ∃ bp, bp = w4.heap.size := ⟨_, rfl⟩
              have HBP := Lib.hid (show bq < bp by rw [hbp]; exact H4.out.qb.lt)
              rw [← hbp] at HB5 hy0 hy1 hy2 hy3 ⊢
              obtain ⟨w5, hw5⟩ : ∃ w5, w5 = w4.alloc (.cells #[.int .i64 rk, .int .i64 (pl : Int), .int .i64 fi, .int .i64 se, .int .i64 pid] 57) := ⟨_, rfl⟩
              have e5 : (w4.alloc (.cells [Value.int .i64 rk, .int .i64 (pl : Int), .int .i64 fi, .int .i64 se, .int .i64 pid].toArray 57)) = w5 := by rw [hw5]
              rw [e5] at H5 HB5 hx1 hx2 hx3 hy0 hy1 hy2 hy3
              rw [← hw5]
              clear hs0 hbp hw5 e5
              obtain ⟨id0, hid0⟩ : ∃ x, x = (ndAt nd pl).id := ⟨_, rfl⟩
              obtain ⟨nx, hnx⟩ : ∃ x, x = (ndAt nd pl).next := ⟨_, rfl⟩
              rw [← hid0] at hx2
              rw [← hnx] at hx3
              have HID := Lib.hid (And.intro hid0 hnx)
              clear hid0 hnx
              by_cases hA : id0 = fi
              · have b1 : (id0 != fi) = false := by simpa using hA
                have HA := Lib.hid hA
                have hlive := HMQ.out.ch.live (i := pl) (by rw [H.out.len]; exact hpln) (by rw [← HID.out.1, hA]; exact HOK.out.2.2.1)
                obtain ⟨j, hj, hje⟩ := hlive
                by_cases hB2 : nx < 0
                · as_aux_lemma =>
                    have b2 : decide (nx < 0) = true := by simpa using hB2
                    have hnc : ¬ isCur nd ⟨rk, pl, fi, se, pid⟩ := fun h9 => by
                      have h8 : 0 ≤ (ndAt nd pl).next := h9.2.1
                      rw [← HID.out.2] at h8
                      omega
                    have hst := HMQ.out.stale HP4.out HH4.out hnc
                    have HST := Lib.hid hst
                    clear hA hB2 hnc hst
                    go_quiet (fail)
                    go_wp2_with fail
                    go_roundw
                    case rel => exact ⟨nd, c, a', q', H5.out.drewN _, HST.out⟩
                    case measure =>
                      rw [mM_eq (H5.out.drewN _), mM_eq H.out]
                      have := HP4.out.length_eq
                      simp at this
                      omega
                · have b2 : decide (nx < 0) = false := by simpa using hB2
                  have hj1 : j + 1 < c.length := by
                    apply Classical.byContradiction
                    intro h9
                    have := HMQ.out.ch.nextEnd j (by omega)
                    rw [hje, ← HID.out.2] at this
                    omega
                  have hnx := HMQ.out.ch.next j hj1
                  have hnl := HMQ.out.ch.lt (j + 1) hj1
                  rw [hje, ← HID.out.2] at hnx
                  rw [H.out.len] at hnl
                  obtain ⟨gn, hgn⟩ : ∃ gn, gn = c.getD (j + 1) 0 := ⟨_, rfl⟩
                  rw [← hgn] at hnx hnl
                  subst hnx
                  have hx4 := H5.out.cell hnl (j := 0) (by omega)
                  unfold ndF at hx4
                  simp only [Nat.add_zero] at hx4
                  obtain ⟨id2, hid2⟩ : ∃ x, x = (ndAt nd gn).id := ⟨_, rfl⟩
                  rw [← hid2] at hx4
                  have i3 : (gn : Int) < (n : Int) := by omega
                  by_cases hC : id2 = se
                  · have b3 : (id2 != se) = false := by simpa using hC
                    have hcur : isCur nd ⟨rk, pl, fi, se, pid⟩ := ⟨by show (ndAt nd pl).id = fi; rw [← HID.out.1]; exact hA, by show 0 ≤ (ndAt nd pl).next; rw [← HID.out.2]; omega, by show (ndAt nd (ndAt nd pl).next.toNat).id = se; rw [← HID.out.2, Int.toNat_natCast, ← hid2]; exact hC⟩
                    have HCUR := Lib.hid (And.intro hcur (And.intro hj1 (And.intro hje (And.intro hgn hid2))))
                    clear hA hB2 hC hcur hj hj1 hje hgn hid2
                    go_quiet (fail)
                    have H6 := Lib.hid (H5.out.drewN nq)
                    have HB6 := Lib.hid (HB5.out.drewN nq)
                    generalize w5.drewN nq = w6 at H6 HB6 ⊢
                    clear hx1 hx2 hx3 hx4 hy0 hy1 hy2 hy3 b1 b2 b3
                    obtain ⟨ix, hix, hxl, hxn, hbest⟩ := HMQ.out.top (by omega) (by have := HQK.out; omega) (by rw [← HP0.out]; exact HCUR.out.1)
                    rw [← HP0.out] at hxl hbest
                    simp only at hxl hbest
                    have hpc : pl = c.getD ix 0 := by omega
                    have HTOP := Lib.hid (And.intro hix (And.intro hpc hbest))
                    have hpid := hget_bd HV.out HOK.out.2.2.2.2
                    have hgx : gn = c.getD (ix + 1) 0 := by
                      rw [← hpc, ← HID.out.2] at hxn
                      omega
                    have HGX := Lib.hid hgx
                    clear hix hxl hxn hbest hpc hgx
                    have hy0 := HB6.out.cell 1
                    have hy3 := HB6.out.cell 4
                    simp only [List.getElem?_cons_zero, List.getElem?_cons_succ] at hy0 hy3
                    by_cases hsg : signs ≤ pid
                    · as_aux_lemma =>
                        have b4 : decide (signs ≤ pid) = true := by simpa using hsg
                        have hr : R = none := by
                          rw [HR.out]
                          split
                          · rfl
                          · exact HMQ.out.bad (p := ⟨rk, pl, fi, se, pid⟩) HTOP.out.2.2 hsg
                        subst hr
                        clear hsg
                        go_wp2_with fail
                        go_returns
                        exact ⟨by rw [← HB.out]; exact H6.out.bel, rfl⟩
                    · have b4 : decide (signs ≤ pid) = false := by simpa using hsg
                      have HSG := Lib.hid hsg
                      clear hsg
                      have hx1 := H6.out.box
                      have hx2 := H6.out.cell hpln (j := 0) (by omega)
                      have hx3 := H6.out.cell hpln (j := 1) (by omega)
                      have hx5 := H6.out.cell hnl (j := 1) (by omega)
                      have hx6 := H6.out.cell hnl (j := 0) (by omega)
                      unfold ndF at hx2 hx3 hx5 hx6
                      simp only [Nat.add_zero] at hx2 hx3 hx5 hx6
                      rw [← HID.out.2] at hx3
                      obtain ⟨nx2, hnx2⟩ : ∃ x, x = (ndAt nd gn).next := ⟨_, rfl⟩
                      rw [← hnx2] at hx5
                      have f0 := H6.out.nb.frozen (pl * 3)
                      have f1 := H6.out.nb.frozen (pl * 3 + 1)
                      have f2 := H6.out.nb.frozen (gn * 3)
                      have HNX2 := Lib.hid hnx2
                      clear hnx2
                      have hne : pl ≠ gn := by
                        rw [HGX.out, HTOP.out.2.1]
                        have := HMQ.out.ch.mono ix (ix + 1) (by omega) HTOP.out.1
                        omega
                      obtain ⟨nd1, hnd1⟩ : ∃ x, x = nd.set pl ⟨pid, nx2, (ndAt nd pl).last⟩ := ⟨_, rfl⟩
                      obtain ⟨nd2, hnd2⟩ : ∃ x, x = nd1.set gn ⟨-1, (ndAt nd1 gn).next, (ndAt nd1 gn).last⟩ := ⟨_, rfl⟩
                      have hl1 : nd1.length = n := by rw [hnd1, List.length_set]; exact H6.out.len
                      have hl2 : nd2.length = n := by rw [hnd2, List.length_set]; exact hl1
                      have hnb1 := nd_setNext (nd_setId H6.out.nb (k := pl) (by rw [H6.out.len]; exact hpln) pid) (k := pl) (by rw [List.length_set, H6.out.len]; exact hpln) nx2
                      rw [ndAt_set (by rw [H6.out.len]; exact hpln), if_pos rfl, List.set_set] at hnb1
                      simp only at hnb1
                      rw [← hnd1] at hnb1
                      have hg1 : w6.grownBy ((w6.setCell ⟨B + 1, pl * 3, none⟩ (.int .i64 pid)).setCell ⟨B + 1, pl * 3 + 1, none⟩ (.int .i64 nx2)) (some (B + 1)) := by
                        have := grownBy_setCells (B + 1) [.int .i64 pid, .int .i64 nx2] w6 (pl * 3)
                        exact this
                      have H7 := Lib.hid (H6.out.nodes hg1 hnb1 hl1).drew
                      have hB7 : Blk ((w6.setCell ⟨B + 1, pl * 3, none⟩ (.int .i64 pid)).setCell ⟨B + 1, pl * 3 + 1, none⟩ (.int .i64 nx2)).drew bp 57 [.int .i64 rk, .int .i64 (pl : Int), .int .i64 fi, .int .i64 se, .int .i64 pid] :=
                        (hg1.block bp HB6.out.lt (fun e => by injection e with e; have := HBP.out; have := H6.out.ogl; omega)).trans HB6.out
                      have HB7 := Lib.hid hB7
                      have HND := Lib.hid (And.intro hnd1 (And.intro hnd2 (And.intro hl1 (And.intro hl2 hne))))
                      clear hnd1 hnd2 hl1 hl2 hnb1 hg1 hB7 hne
                      go_wp2_with fail
                      go_region
                      generalize ((w6.setCell _ _).setCell _ _).drew = w7 at H7 HB7 ⊢
                      clear hx1 hx2 hx3 hx5 hx6 f0 f1 f2 hy0 hy3 b4
                      have hx1 := H7.out.box
                      have hx6 := H7.out.cell hnl (j := 0) (by omega)
                      have f2 := H7.out.nb.frozen (gn * 3)
                      unfold ndF at hx6
                      simp only [Nat.add_zero] at hx6
                      have hnb2 := nd_setId H7.out.nb (k := gn) (by rw [HND.out.2.2.1]; exact hnl) (-1)
                      rw [← HND.out.2.1] at hnb2
                      have H8 := Lib.hid (H7.out.nodes (grownBy_setCell _ _ _ _) hnb2 HND.out.2.2.2.1)
                      have hB8 : Blk (w7.setCell ⟨B + 1, gn * 3, none⟩ (.int .i64 (-1))) bp 57 [.int .i64 rk, .int .i64 (pl : Int), .int .i64 fi, .int .i64 se, .int .i64 pid] :=
                        ((grownBy_setCell w7 (B + 1) (gn * 3) (.int .i64 (-1))).block bp HB7.out.lt (fun e => by injection e with e; have := HBP.out; have := H7.out.ogl; omega)).trans HB7.out
                      have HB8 := Lib.hid hB8
                      clear hnb2 hB8
                      go_upto_region 30 with (fail)
                      generalize w7.setCell _ _ = w8 at H8 HB8 ⊢
                      clear hx1 hx6 f2
                      have hat2 : ndAt nd2 pl = ⟨pid, nx2, (ndAt nd pl).last⟩ := by
                        rw [HND.out.2.1, ndAt_set (by rw [HND.out.2.2.1]; exact hnl), if_neg HND.out.2.2.2.2, HND.out.1, ndAt_set (by rw [H6.out.len]; exact hpln), if_pos rfl]
                      have hmg : mergeNd nd pl pid = if 0 ≤ nx2 then nd2.set nx2.toNat ⟨(ndAt nd2 nx2.toNat).id, (ndAt nd2 nx2.toNat).next, (pl : Int)⟩ else nd2 := by
                        unfold mergeNd
                        simp only [← HID.out.2, Int.toNat_natCast, ← HNX2.out]
                        rw [← HND.out.1, ← HND.out.2.1]
                      have HMG := Lib.hid hmg
                      have hx1 := H8.out.box
                      have hx3 := H8.out.cell hpln (j := 1) (by omega)
                      unfold ndF at hx3
                      rw [hat2] at hx3
                      simp only at hx3
                      have HAT2 := Lib.hid hat2
                      clear hat2 hmg
                      go_upto_if 141 with (fail)
                      go_cut [141] from 142 to 150 (fun _v wx => MM w A0 A1 A2 n0 n1 n2 c0 c1 c2 S K V B (B + 2) (B + 1) bq n wx (mergeNd nd pl pid) a' q' ∧ Blk wx bp 57 [.int .i64 rk, .int .i64 (pl : Int), .int .i64 fi, .int .i64 se, .int .i64 pid])
                      case first =>
                        as_aux_lemma =>
                          by_cases hD : 0 ≤ nx2
                          · have b5 : decide (0 ≤ nx2) = true := by simpa using hD
                            have hix2 : ix + 2 < c.length := by
                              apply Classical.byContradiction
                              intro h9
                              have h8 := HMQ.out.ch.nextEnd (ix + 1) (by have := HTOP.out.1; omega)
                              rw [← HGX.out, ← HNX2.out] at h8
                              omega
                            have hn3 := HMQ.out.ch.next (ix + 1) hix2
                            have hl3 := HMQ.out.ch.lt (ix + 2) hix2
                            rw [← HGX.out, ← HNX2.out] at hn3
                            rw [H.out.len] at hl3
                            obtain ⟨m2, hm2⟩ : ∃ x, x = c.getD (ix + 2) 0 := ⟨_, rfl⟩
                            rw [show ix + 1 + 1 = ix + 2 from rfl, ← hm2] at hn3
                            rw [← hm2] at hl3
                            subst hn3
                            have hx7 := H8.out.cell hl3 (j := 2) (by omega)
                            unfold ndF at hx7
                            have f3 := H8.out.nb.frozen (m2 * 3 + 2)
                            have hnb3 := nd_setLast H8.out.nb (k := m2) (by rw [HND.out.2.2.2.1]; exact hl3) (pl : Int)
                            have hmg := HMG.out
                            rw [if_pos hD, Int.toNat_natCast] at hmg
                            rw [← hmg] at hnb3
                            have H9 := Lib.hid (H8.out.nodes (grownBy_setCell _ _ _ _) hnb3 (by rw [length_mergeNd]; exact H.out.len)).drew
                            have hB9 : Blk (w8.setCell ⟨B + 1, m2 * 3 + 2, none⟩ (.int .i64 (pl : Int))).drew bp 57 [.int .i64 rk, .int .i64 (pl : Int), .int .i64 fi, .int .i64 se, .int .i64 pid] :=
                              ((grownBy_setCell w8 (B + 1) (m2 * 3 + 2) (.int .i64 (pl : Int))).block bp HB8.out.lt (fun e => by injection e with e; have := HBP.out; have := H8.out.ogl; omega)).trans HB8.out
                            have HB9 := Lib.hid hB9
                            have hy0 := HB8.out.cell 1
                            simp only [List.getElem?_cons_zero, List.getElem?_cons_succ] at hy0
                            have i5 : (m2 : Int) < (n : Int) := by omega
                            clear hnb3 hmg hB9 hm2 hD
                            go_wp2_with fail
                            go_region
                            go_wp2_with fail
                            go_meet
                            exact ⟨H9.out, HB9.out⟩
                          · have b5 : decide (0 ≤ nx2) = false := by simpa using hD
                            have hmg := HMG.out
                            rw [if_neg hD] at hmg
                            have H9 := Lib.hid H8.out
                            rw [← hmg] at H9
                            have hD2 : nx2 < 0 := by omega
                            clear hmg
                            go_wp2_with fail
                            go_meet
                            exact ⟨H9.out, HB8.out⟩
                      case rest =>
                        obtain ⟨hM9, hB9⟩ := hcut
                        have H9 := Lib.hid hM9
                        have hy0 := hB9.cell 1
                        simp only [List.getElem?_cons_zero, List.getElem?_cons_succ] at hy0
                        have hpos : 0 ≤ pid := hpid.2.2.1
                        have hix1 := HTOP.out.1
                        have hch := HMQ.out.ch.merge HTOP.out.1 hpos
                        rw [← HTOP.out.2.1] at hch
                        have hlenC : (c.eraseIdx (ix + 1)).length + 1 = c.length := by
                          have := HTOP.out.1
                          rw [List.length_eraseIdx]; split <;> omega
                        have hsmq : ∀ p ∈ q', SmallP p := fun p hp => small_of HV.out (n := nd.length) (by rw [H.out.len]; exact hn) (HMQ.out.qi.ok p (HP4.out.mem_iff.mpr (by simp [hp])))
                        have hql := HP4.out.length_eq
                        have hbn := HMQ.out.bnd
                        simp only [List.length_cons] at hql
                        have hid3 : ∀ i, i < (mergeNd nd pl pid).length → (ndAt (mergeNd nd pl pid) i).id < 65536 := fun i hi => by
                          rw [length_mergeNd] at hi
                          have h1 := HMQ.out.hi i hi
                          have h2 := HMQ.out.hi _ (HMQ.out.ch.lt (ix + 1) HTOP.out.1)
                          rw [HTOP.out.2.1, mergeNd_at HMQ.out.ch HTOP.out.1]
                          have := HSG.out
                          split
                          · show pid < 65536; omega
                          · split
                            · show (-1 : Int) < 65536; omega
                            · split
                              · show (ndAt nd i).id < 65536; omega
                              · omega
                        have HC1 := Lib.hid (look_all w A0 A1 A2 n0 n1 n2 c0 c1 c2 S K V B (B + 2) (B + 1) bq n wc (mergeNd nd pl pid) a' q' H9.out hn (c.eraseIdx (ix + 1)) hch.1 hid3 (pl : Int) (.inr ⟨ix, by omega, by rw [er_lt (by omega), ← HTOP.out.2.1]⟩) (by omega) hsmq HH4.out)
                        have HCH := Lib.hid hch
                        have HID3 := Lib.hid hid3
                        clear hM9 hB9 hch hsmq hql hbn hid3 hpos hix1
                        go_wp2_with fail
                        refine HC1.out.mono ?_
                        rintro e w10 ⟨rfl, a10, q10, hM10, hh10, hp10⟩
                        have H10 := Lib.hid hM10
                        have HP10 := Lib.hid (And.intro hh10 hp10)
                        clear hM10 hh10 hp10 HC1 hy0
                        have hxl := H10.out.cell hpln (j := 2) (by omega)
                        unfold ndF at hxl
                        obtain ⟨la, hla⟩ : ∃ x, x = (ndAt (mergeNd nd pl pid) pl).last := ⟨_, rfl⟩
                        have hla2 : la = -1 ∨ ∃ j, j < (c.eraseIdx (ix + 1)).length ∧ la = ((c.eraseIdx (ix + 1)).getD j 0 : Nat) := by
                          have hix1 := HTOP.out.1
                          by_cases hi0 : ix = 0
                          · left
                            have h0 := HCH.out.1.last0
                            have hf := HMQ.out.ch.first
                            rw [hla, HTOP.out.2.1, hi0, hf]
                            rw [HTOP.out.2.1, hi0, hf] at h0
                            exact h0
                          · right
                            have h0 := HCH.out.1.last (ix - 1) (by omega)
                            rw [show ix - 1 + 1 = ix by omega, er_lt (by omega : ix < ix + 1), ← HTOP.out.2.1, ← hla] at h0
                            exact ⟨ix - 1, by omega, h0⟩
                        have HLA := Lib.hid hla
                        have hsmq : ∀ p ∈ q10, SmallP p := fun p hp => by
                          rcases List.mem_append.mp (HP10.out.2.mem_iff.mp hp) with h9 | h9
                          · exact small_of HV.out (n := nd.length) (by rw [H.out.len]; exact hn) (HMQ.out.qi.ok p (HP4.out.mem_iff.mpr (by simp [h9])))
                          · exact small_of HV.out (n := (mergeNd nd pl pid).length) (by rw [length_mergeNd, H.out.len]; exact hn) (lookP_ok HCH.out.1 (Option.mem_toList.mp h9) ⟨ix, by have := HTOP.out.1; omega, by rw [er_lt (by omega), ← HTOP.out.2.1]⟩)
                        have hq10l : q10.length < 999999 := by
                          have h1 := HP10.out.2.length_eq
                          have h2 := HP4.out.length_eq
                          have h3 := HMQ.out.bnd
                          have h4 : ∀ o : Option Pr, o.toList.length ≤ 1 := fun o => by cases o <;> simp
                          have h5 := h4 (lookP (hget S K V) (mergeNd nd pl pid) (pl : Int))
                          simp only [List.length_append, List.length_cons] at h1 h2
                          omega
                        have HC2 := Lib.hid (look_all w A0 A1 A2 n0 n1 n2 c0 c1 c2 S K V B (B + 2) (B + 1) bq n w10 (mergeNd nd pl pid) a10 q10 H10.out hn (c.eraseIdx (ix + 1)) HCH.out.1 HID3.out la hla2 hq10l hsmq HP10.out.1)
                        rw [← hla] at hxl
                        clear hla hla2 hsmq hq10l
                        go_wp2_with fail
                        refine HC2.out.mono ?_
                        rintro e w11 ⟨rfl, a11, q11, hM11, hh11, hp11⟩
                        have H11 := Lib.hid hM11
                        have HP11 := Lib.hid (And.intro hh11 hp11)
                        clear hM11 hh11 hp11 HC2 hxl
                        go_wp2_with fail
                        have hfin : MQ (hget S K V) signs l (mergeNd nd pl pid) (c.eraseIdx (ix + 1)) q11 ∧ q11.length + 2 * (c.eraseIdx (ix + 1)).length < q.length + 2 * c.length := by
                          have h9 := HMQ.out.merge (p := ⟨rk, pl, fi, se, pid⟩) (q2 := q11) HP4.out HTOP.out.1 (by show (pl : Int) = _; rw [← HTOP.out.2.1]) HTOP.out.2.2 hpid.2.2.1 (by show pid < signs; have := HSG.out; omega) ?_ HP11.out.1
                          · rw [← HTOP.out.2.1] at h9
                            exact h9
                          · rw [← HTOP.out.2.1]
                            show q11.Perm (q' ++ ((lookP (hget S K V) (mergeNd nd pl pid) (pl : Int)).toList ++ (lookP (hget S K V) (mergeNd nd pl pid) (ndAt (mergeNd nd pl pid) pl).last).toList))
                            rw [← HLA.out, ← List.append_assoc]
                            exact HP11.out.2.trans (HP10.out.2.append_right _)
                        have HFIN := Lib.hid hfin
                        clear hfin
                        go_roundw
                        case rel => exact ⟨_, _, a11, q11, H11.out, HFIN.out.1⟩
                        case measure =>
                          rw [mM_eq H11.out, mM_eq H.out, live_count HFIN.out.1.ch, live_count HMQ.out.ch]
                          exact HFIN.out.2
                  · as_aux_lemma =>
                      have b3 : (id2 != se) = true := by simpa using hC
                      have hnc : ¬ isCur nd ⟨rk, pl, fi, se, pid⟩ := fun h9 => by
                        have h8 : (ndAt nd (ndAt nd pl).next.toNat).id = se := h9.2.2
                        rw [← HID.out.2, Int.toNat_natCast, ← hid2] at h8
                        exact hC h8
                      have hst := HMQ.out.stale HP4.out HH4.out hnc
                      have HST := Lib.hid hst
                      clear hA hB2 hC hnc hst hj hj1 hje hgn hid2
                      go_quiet (fail)
                      go_wp2_with fail
                      go_roundw
                      case rel => exact ⟨nd, c, a', q', H5.out.drewN _, HST.out⟩
                      case measure =>
                        rw [mM_eq (H5.out.drewN _), mM_eq H.out]
                        have := HP4.out.length_eq
                        simp at this
                        omega
              · as_aux_lemma =>
                  have b1 : (id0 != fi) = true := by simpa using hA
                  have hnc : ¬ isCur nd ⟨rk, pl, fi, se, pid⟩ := fun h9 => hA (by rw [HID.out.1]; exact h9.1)
                  have hst := HMQ.out.stale HP4.out HH4.out hnc
                  have HST := Lib.hid hst
                  clear hA hnc hst
                  go_quiet (fail)
                  go_wp2_with fail
                  go_roundw
                  case rel => exact ⟨nd, c, a', q', H5.out.drewN _, HST.out⟩
                  case measure =>
                    rw [mM_eq (H5.out.drewN _), mM_eq H.out]
                    have := HP4.out.length_eq
                    simp at this
                    omega
        case rest =>
          obtain ⟨nd, c, a, hM, hQ⟩ := hcut
          have hr : R = some (idsC nd c) := by
            rw [HR.out, badId_no (fun j hj => ⟨HPOS.out.1 j hj, HPOS.out.2 j hj⟩), if_neg (by simp)]
            exact hQ.done
          subst hr
          have H := Lib.hid hM
          have HC := Lib.hid hQ.ch
          have hcn : c.length ≤ 400000 := by have := hQ.bnd; omega
          obtain ⟨i3, hi3, hz3, hsz3, hbt3⟩ := info_parts info3
          obtain ⟨cn, hcn'⟩ : ∃ x, x = c.length := ⟨_, rfl⟩
          rw [← hcn'] at hcn
          have HCN := Lib.hid hcn'
          have hids : (idsC nd c).length = cn := by rw [length_idsC, hcn']
          have HIDS := Lib.hid hids
          clear hM hQ hcn' hids HMM0 HMQ0
          as_aux_lemma =>
            go_wp2_with fail
            go_loopw [17, 18] (fun v i wq => ∃ (j : Nat) (x : Int), j ≤ cn ∧ i = .int .i64 x ∧ (j < cn ∧ x = (c.getD j 0 : Nat) ∨ j = cn ∧ x = -1) ∧ wq.ownsRow wc.heap.size 3 1 v j (numsV .i64 ((idsC nd c).take j)) ∧ Below wc.heap.size wc wq) (fun v _ _ => cn - lenOf v)
            case atStart => exact ⟨0, 0, by omega, rfl, .inl ⟨by rw [HCN.out]; exact HC.out.pos, by rw [HC.out.first]; rfl⟩, World.ownsRow_nil _ _ _ _, Below.refl _ _⟩
            case round =>
              obtain ⟨j, x, hj, rfl, hjx, hown, hbel⟩ := hrel
              have HO := Lib.hid hown
              have HBL := Lib.hid hbel
              obtain ⟨A, cp, rfl⟩ := own_sl hown
              have hsz := hbel.size
              rcases hjx with ⟨hjl, rfl⟩ | ⟨rfl, rfl⟩
              · obtain ⟨cj, hcj⟩ : ∃ x, x = c.getD j 0 := ⟨_, rfl⟩
                rw [← hcj]
                have hcl := HC.out.lt j (by rw [← HCN.out]; exact hjl)
                rw [H.out.len, ← hcj] at hcl
                have H2 := Lib.hid (H.out.go hbel)
                have hx1 := H2.out.box
                have hx2 := H2.out.cell hcl (j := 0) (by omega)
                unfold ndF at hx2
                simp only [Nat.add_zero] at hx2
                obtain ⟨u, hu⟩ : ∃ u, u = (ndAt nd cj).id := ⟨_, rfl⟩
                obtain ⟨nx, hnx⟩ : ∃ u, u = (ndAt nd cj).next := ⟨_, rfl⟩
                rw [← hu] at hx2
                have hnj : j + 1 < cn ∧ nx = (c.getD (j + 1) 0 : Nat) ∨ j + 1 = cn ∧ nx = -1 := by
                  by_cases h9 : j + 1 < cn
                  · exact .inl ⟨h9, by rw [hnx, hcj]; exact HC.out.next j (by rw [← HCN.out]; exact h9)⟩
                  · exact .inr ⟨by omega, by rw [hnx, hcj]; exact HC.out.nextEnd j (by rw [← HCN.out]; omega)⟩
                have HNJ := Lib.hid hnj
                have HU := Lib.hid (And.intro hu (And.intro hnx hcj))
                have i1 : (cj : Int) < (n : Int) := by omega
                clear hnj hu hnx hcj
                go_wp2_with (first
                  | (at_builtin; refine wpList_app1 wc _ rfl (.tmp 168) (.tmp 174) 26 rfl wc.heap.size 3 i3 _ 8 Try.underlying26 hi3 hz3 hsz3 hbt3 rfl _ j (numsV .i64 ((idsC nd c).take j)) rfl (HO.out.alloc _) (HBL.out.alloc hsz _) (.int .i64 u) _ rfl (by go_simp) rfl (by omega) (by unfold maxLen; omega) (by have := hsz; simp; omega) ?_; intro v1 w11 hown1 hb1 hg1
                     have H3 := Lib.hid (H.out.go hb1)
                     have e1 := H3.out.box
                     have e2 := H3.out.cell hcl (j := 1) (by omega)
                     unfold ndF at e2
                     simp only [← HU.out.2.1] at e2))
                obtain ⟨A1, cp1, rfl⟩ := own_sl hown1
                go_roundw
                case rel =>
                  refine ⟨j + 1, nx, by omega, rfl, HNJ.out, ?_, hb1⟩
                  rw [getD_take _ _ (by rw [HIDS.out]; exact hjl), numsV_snoc, idsC_getD (by rw [← HCN.out]; exact hjl), ← HU.out.2.2, ← HU.out.1]
                  exact hown1
                case measure => simp [lenOf]; omega
              · have hfull : wr.ownsRow wc.heap.size 3 1 (.slice A j cp) j (numsV .i64 (idsC nd c)) := by
                  rw [List.take_of_length_le (by rw [HIDS.out]; exact Nat.le_refl _)] at hown
                  exact hown
                have HF := Lib.hid hfull
                clear hfull hown hbel
                go_wp2_with fail
                go_returns
                refine ⟨by rw [← HB.out]; exact H.out.bel.trans (HBL.out.mono (Nat.le_of_lt H.out.hb.lt)), A, cp, by rw [HIDS.out]; first | rfl | simp, ?_⟩
                rw [HIDS.out]
                exact ⟨own_ints HF.out, own_nilA HF.out⟩
end Go.Proofs.Ytgejpggbmgiocaa
