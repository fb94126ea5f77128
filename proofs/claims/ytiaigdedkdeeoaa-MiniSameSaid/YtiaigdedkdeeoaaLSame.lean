/- MiniSame, with its arguments laid open. -/
import Derived.Test.YtiaigdedkdeeoaaLMaps
import Derived.Test.YtiaigdedkdeeoaaPlain
import Derived.Test.YtiaigdedkdeeoaaLong
import Derived.Lib.ConvBytes
namespace Go.Proofs.Ytiaigdedkdeeoaa
open Go.RowKit Go.Maps Go.WideMaps
attribute [local go_sem ↓] load_22 load_26 store_22 store_26

/-- a text's bytes, the first so many mapped -/
def btF (tf : Nat → Nat) (s : ByteArray) (k j : Nat) : Nat := if j < k then (tf8 tf (s.data.toList.getD j 0)).toNat else (s.data.toList.getD j 0).toNat
def BRF (tf : Nat → Nat) (W : World) (g : Nat) (s : ByteArray) (k : Nat) : Prop := ∀ j, j < s.size → W.cell? ⟨g, j, none⟩ = some (.int .u8 (btF tf s k j : Int)) ∧ W.frozen? ⟨g, j, none⟩ = false
theorem brf_new (tf : Nat → Nat) (W : World) (s : ByteArray) : ∃ W' c, (convert 9 39 (.string s)).run Try.prog W = .ok (.slice (some ⟨W.heap.size, 0, none⟩) s.size c) W' ∧ Below W.heap.size W W' ∧ BRF tf W' W.heap.size s 0 ∧ W.heap.size < W'.heap.size := by
  refine ⟨Lib.bytesWorld W 5 s, _, Lib.run_convert_string_bytes W 9 39 5 s Try.underlying9 Try.underlying39 Try.underlying5, ?_, fun j hj => ⟨?_, ?_⟩, by rw [Lib.bytesWorld_size]; omega⟩
  · refine ⟨?_, ?_, ?_, by rw [Lib.bytesWorld_size]; omega, fun k hk => Lib.bytesWorld_at_old W 5 s k hk⟩ <;> simp [Lib.bytesWorld, World.freeze, World.alloc, World.drew, -World.alloc_eq, -World.drew_eq]
  · rw [Lib.bytesWorld_cell W 5 s j hj]; rfl
  · unfold World.frozen?
    simp only [Lib.bytesWorld_at_new]
    have : j < (Lib.bytesCells W 5 s).size := by
      have h1 : s.data.size = s.size := rfl
      simp [Lib.bytesCells]; omega
    simp; omega
theorem BRF.set {tf : Nat → Nat} {W : World} {g : Nat} {s : ByteArray} {k : Nat} (h : BRF tf W g s k) (x : Int) (hx : x = ((tf8 tf (s.data.toList.getD k 0)).toNat : Int)) : BRF tf (W.setCell ⟨g, k, none⟩ (.int .u8 x)) g s (k + 1) := fun j hj => by
  obtain ⟨h1, h2⟩ := h j hj
  refine ⟨?_, (World.frozen?_setCell _ _ _ _).trans h2⟩
  by_cases e : j = k
  · subst e
    rw [World.cell?_setCell_same' _ _ _ (by rw [h1]; rfl)]
    unfold btF
    rw [if_pos (by omega), hx]
  · rw [World.cell?_setCell_other _ _ _ _ (fun e9 => e (by cases e9; rfl)), h1]
    unfold btF
    have : (j < k) ↔ (j < k + 1) := by omega
    simp only [this]
theorem BRF.below {tf : Nat → Nat} {W W' : World} {g : Nat} {s : ByteArray} {k : Nat} (h : BRF tf W g s k) (hb : Below W.heap.size W W') (hg : g < W.heap.size) : BRF tf W' g s k := fun j hj => by
  obtain ⟨h1, h2⟩ := h j hj
  refine ⟨(hb.cell (p := ⟨g, j, none⟩) hg).trans h1, ?_⟩
  unfold World.frozen? at h2 ⊢
  rw [hb.block g hg]; exact h2
/-- the law's boxes, and what was made -/
structure SmW (w W : World) (ds : Array Value) (tf : Nat → Nat) (g9 g11 : Nat) (dm dn : Array Value) (A3 A4 B3 B4 : Option Addr) (k3 c3 c4 k4 e3 e4 : Nat) (M N : Dfa) (RM RN : Nat → Option Addr) (rm rn : Nat → Nat) : Prop where
  bel : Below w.heap.size w W
  box : Blk W w.heap.size 26 ds.toList
  tb : Blk W (w.heap.size + 1) 22 (clsV tf)
  mb : Blk W g9 26 dm.toList
  nb : Blk W g11 26 dn.toList
  im : DfaIn W dm A3 A4 k3 k3 c3 c4 M RM rm
  iN : DfaIn W dn B3 B4 k4 k4 e3 e4 N RN rn
theorem SmW.go {w W W' : World} {ds : Array Value} {tf : Nat → Nat} {g9 g11 : Nat} {dm dn : Array Value} {A3 A4 B3 B4 : Option Addr} {k3 c3 c4 k4 e3 e4 : Nat} {M N : Dfa} {RM RN : Nat → Option Addr} {rm rn : Nat → Nat}
    (h : SmW w W ds tf g9 g11 dm dn A3 A4 B3 B4 k3 c3 c4 k4 e3 e4 M N RM RN rm rn) (hb : Below W.heap.size W W') : SmW w W' ds tf g9 g11 dm dn A3 A4 B3 B4 k3 c3 c4 k4 e3 e4 M N RM RN rm rn :=
  ⟨h.bel.trans (hb.mono h.bel.size), h.box.below hb h.box.lt, h.tb.below hb h.tb.lt, h.mb.below hb h.mb.lt, h.nb.below hb h.nb.lt, h.im.keep hb, h.iN.keep hb⟩
set_option maxRecDepth 100000 in
set_option maxHeartbeats 16000000 in
theorem law_same (ds : Array Value) (A1 A2 : Option Addr) (n n2 c1 c2 : Nat) (D : Dfa) (RA : Nat → Option Addr) (rc : Nat → Nat) (tf : Nat → Nat) (s : ByteArray) (x : Int) (w : World) (h : DfaIn w ds A1 A2 n n2 c1 c2 D RA rc) (htf : ∀ b, b < 256 → tf b < 256) :
    Calls Try.prog 6 #[.agg ds, .agg (clsV tf).toArray, .string s, .int .i64 x] w fun e w' => e = .returned (.bool true) ∧ Below w.heap.size w w' := by
  have hds := h.cells.size
  obtain ⟨tl, htv⟩ : ∃ tl, tl = clsV tf := ⟨_, rfl⟩
  rw [← htv]
  have hbox := (blk_alloc w 26 ds).alloc (.cells tl.toArray 22)
  have htb := blk_alloc (w.alloc (.cells ds 26)) 22 tl.toArray
  rw [World.size_alloc] at htb
  replace htb : Blk ((w.alloc (.cells ds 26)).alloc (.cells tl.toArray 22)) (w.heap.size + 1) 22 (clsV tf) := by rw [List.toList_toArray] at htb; rw [← htv]; exact htb
  have hbl : Below w.heap.size w ((w.alloc (.cells ds 26)).alloc (.cells tl.toArray 22)) := ((Below.refl _ _).alloc (Nat.le_refl _) _).alloc (by simp) _
  have hld := ldB hbox hds
  have H := Lib.hid h
  have HTF := Lib.hid (And.intro htf htv)
  have HB := Lib.hid (And.intro hbox (And.intro hbl htb))
  have hcs := cutS_le s 500
  have HSH := Lib.hid (fun W => short_any s 500 (by omega) W)
  obtain ⟨s', hs'⟩ : ∃ s', s' = cutS s 500 := ⟨_, rfl⟩
  rw [← hs'] at hcs HSH
  clear h hbox hbl htb htf htv hs'
  go_enter Try.func6, Try.ntmps6
  go_upto_region 1 with (fail)
  generalize (w.alloc (.cells ds 26)).alloc (.cells tl.toArray 22) = w1 at HB hld ⊢
  go_wp2_with fail
  refine (drright_any ds A1 A2 n n2 c1 c2 D RA rc w1 (H.out.keep HB.out.2.1)).mono ?_
  rintro e w2 ⟨rfl, hb2⟩
  have hbl := HB.out.2.1.trans (hb2.mono HB.out.2.1.size)
  have hbx := HB.out.1.below hb2 HB.out.1.lt
  have htb := HB.out.2.2.below hb2 HB.out.2.2.lt
  have hld := ldB hbx hds
  have HC := Lib.hid (And.intro hbx (And.intro hbl htb))
  clear HB hb2 hbl hbx htb
  by_cases hr : RightD D
  · rw [rightD_yes hr]
    have HR := Lib.hid hr
    clear hr
    go_wp2_with fail
    refine (HSH.out _).mono ?_
    rintro e w3 ⟨rfl, rfl⟩
    go_wp2_with fail
    refine (least_right ds A1 A2 n n2 c1 c2 D RA rc w3 (H.out.keep HC.out.2.1) HR.out).mono ?_
    rintro e w4 ⟨dm, A3, c3, A4, c4, k3, RM, rm, M, rfl, hdm, hlm, hb4⟩
    have hz26 := zeroV26
    have hb0 := blk_alloc w4 26 zs26
    have hst := storeB_run 26 hb0 (.inl rfl) dm (by rw [Array.length_toList, size26]; rfl) (by rw [hdm.here.cells.size]; rfl) (cells_one hdm.here.cells)
    have hmb := hb0.row dm
    have hb9 : Below w4.heap.size w4 ((w4.alloc (.cells zs26 26)).setRow w4.heap.size dm) := below_setRow ((Below.refl _ _).alloc (Nat.le_refl _) _) (Nat.le_refl _) _
    have hbx := (HC.out.1.below hb4 HC.out.1.lt).below hb9 (Nat.lt_of_lt_of_le HC.out.1.lt hb4.size)
    have htb := (HC.out.2.2.below hb4 HC.out.2.2.lt).below hb9 (Nat.lt_of_lt_of_le HC.out.2.2.lt hb4.size)
    have hbl := (HC.out.2.1.trans (hb4.mono HC.out.2.1.size)).trans (hb9.mono (Nat.le_trans HC.out.2.1.size hb4.size))
    have him := hdm.here.keep hb9
    have HM := Lib.hid (And.intro hbl (And.intro hbx (And.intro htb (And.intro hmb (And.intro him hlm)))))
    have hld2 := ldB hbx hds
    have hldt := ldT htb
    rw [← HTF.out.2] at hldt
    clear hb0 hmb hb9 hbx htb hbl him hlm hdm hb4 HC
    go_upto_region 5 with (fail)
    clear hst hld
    obtain ⟨g9, hg9⟩ : ∃ g9, g9 = w4.heap.size := ⟨_, rfl⟩
    rw [← hg9] at HM hld2 hldt ⊢
    clear hg9
    generalize (w4.alloc (.cells zs26 26)).setRow g9 dm = w5 at HM hld2 hldt ⊢
    have hmr := map_right ds A1 A2 n n2 c1 c2 D RA rc tf w5 (H.out.keep HM.out.1) HR.out HTF.out.1
    rw [← HTF.out.2] at hmr
    have HMR := Lib.hid hmr
    clear hmr
    go_wp2_with fail
    refine HMR.out.mono ?_
    rintro e w6 ⟨dn, B3, e3, B4, e4, k4, RN, rn, N, rfl, hdn, hln, hb6⟩
    have hb0 := blk_alloc w6 26 zs26
    have hst := storeB_run 26 hb0 (.inl rfl) dn (by rw [Array.length_toList, size26]; rfl) (by rw [hdn.here.cells.size]; rfl) (cells_one hdn.here.cells)
    have hnb := hb0.row dn
    have hb9 : Below w6.heap.size w6 ((w6.alloc (.cells zs26 26)).setRow w6.heap.size dn) := below_setRow ((Below.refl _ _).alloc (Nat.le_refl _) _) (Nat.le_refl _) _
    have hb5 := hb6.trans (hb9.mono hb6.size)
    have hsm : SmW w ((w6.alloc (.cells zs26 26)).setRow w6.heap.size dn) ds tf g9 w6.heap.size dm dn A3 A4 B3 B4 k3 c3 c4 k4 e3 e4 M N RM RN rm rn :=
      ⟨HM.out.1.trans (hb5.mono HM.out.1.size), HM.out.2.1.below hb5 HM.out.2.1.lt, HM.out.2.2.1.below hb5 HM.out.2.2.1.lt, HM.out.2.2.2.1.below hb5 HM.out.2.2.2.1.lt, hnb, HM.out.2.2.2.2.1.keep hb5, hdn.here.keep hb9⟩
    have hlm := HM.out.2.2.2.2.2
    have HS := Lib.hid (And.intro hsm (And.intro hlm hln))
    clear hb0 hnb hb9 hb5 hsm hlm hln hdn hb6 HM HMR hld2 hldt
    go_upto_region 6 with (fail)
    clear hst hz26
    obtain ⟨g11, hg11⟩ : ∃ g11, g11 = w6.heap.size := ⟨_, rfl⟩
    rw [← hg11] at HS ⊢
    clear hg11
    generalize (w6.alloc (.cells zs26 26)).setRow g11 dn = w7 at HS ⊢
    have hrM := HS.out.2.1.right HR.out
    have hrN := HS.out.2.2.right (HR.out.map HTF.out.1)
    have hM : endsR D s' x = endsR M s' x := (endsR_le hrM.1 HR.out hrM.2.2 s' x).symm
    have hN : endsR (mapD D tf) s' x = endsR N s' x := (endsR_le hrN.1 (HR.out.map HTF.out.1) hrN.2.2 s' x).symm
    have hk3 : k3 ≤ n := by
      have h9 := hrM.2.1
      rw [HS.out.1.im.next.len, H.out.next.len] at h9
      exact h9
    have HF := Lib.hid (And.intro hrM.1 (And.intro hrN.1 (And.intro hM hN)))
    clear hrM hrN hM hN
    have hldm := ldB HS.out.1.mb HS.out.1.im.cells.size
    go_wp2_with fail
    refine (drright_any dm A3 A4 k3 k3 c3 c4 M RM rm w7 HS.out.1.im).mono ?_
    rintro e w8 ⟨rfl, hb8⟩
    rw [rightD_yes HF.out.1]
    have hs8 := HS.out.1.go hb8
    have hldn := ldB hs8.nb hs8.iN.cells.size
    have HS8 := Lib.hid hs8
    clear hs8 hb8 hldm
    go_wp2_with fail
    refine (drright_any dn B3 B4 k4 k4 e3 e4 N RN rn w8 HS8.out.iN).mono ?_
    rintro e w9 ⟨rfl, hb9⟩
    rw [rightD_yes HF.out.2.1]
    have hs9 := HS8.out.go hb9
    have q1 := hs9.mb.cell 256
    have q2 := hs9.box.cell 256
    rw [Array.getElem?_toList, hs9.im.cells.nx] at q1
    rw [Array.getElem?_toList, H.out.cells.nx] at q2
    have d1 : decide ((n : Int) < (k3 : Int)) = false := by simp; omega
    have d2 : decide (n < k3) = false := by simp; omega
    have HS9 := Lib.hid hs9
    obtain ⟨w10, c8, hcv, hb10, hbr, hlt10⟩ := brf_new tf w9 s'
    have HS10 := Lib.hid (hs9.go hb10)
    have HBR := Lib.hid (And.intro hb10 (And.intro hbr hlt10))
    clear hs9 hb9 hldn HS8 hb10 hbr hlt10
    go_wp2_with fail
    obtain ⟨g8, hg8⟩ : ∃ g8, g8 = w9.heap.size := ⟨_, rfl⟩
    rw [← hg8] at HBR ⊢
    have HE8 := Lib.hid hg8
    clear hcv hg8 q1 q2 d1 d2
    go_loopw [60] (fun u wr => ∃ k : Nat, k ≤ s'.size ∧ u = .int .i64 k ∧ Below w9.heap.size w9 wr ∧ g8 < wr.heap.size ∧ BRF tf wr g8 s' k) (fun u _ => s'.size - (intOf u).toNat)
    case atStart => exact ⟨0, by omega, rfl, by rw [← HE8.out]; exact HBR.out.1, HBR.out.2.2, HBR.out.2.1⟩
    case round =>
      obtain ⟨k, hk, rfl, hbe, hlt, hbr⟩ := hrel
      have hsm := HS9.out.go hbe
      have HBE := Lib.hid hbe
      clear hbe
      have HZ := Lib.hid (And.intro hsm (And.intro hlt hbr))
      clear hsm hlt hbr HS10 HBR
      by_cases hlk : k < s'.size
      · obtain ⟨hc1, hf1⟩ := HZ.out.2.2 k hlk
        rw [show btF tf s' k k = (s'.data.toList.getD k 0).toNat by unfold btF; rw [if_neg (by omega)]] at hc1
        obtain ⟨xb, hx⟩ : ∃ xb, xb = (s'.data.toList.getD k 0).toNat := ⟨_, rfl⟩
        have hxl : xb < 256 := by rw [hx]; exact (s'.data.toList.getD k 0).toNat_lt
        rw [← hx] at hc1
        have hc2 := HZ.out.1.tb.cell xb
        rw [clsV_get _ hxl] at hc2
        obtain ⟨yb, hy⟩ : ∃ yb, yb = tf xb := ⟨_, rfl⟩
        have hyl : yb < 256 := by rw [hy]; exact HTF.out.1 xb hxl
        have hyt : yb = (tf8 tf (s'.data.toList.getD k 0)).toNat := by
          unfold tf8
          rw [← hx, UInt8.toNat_ofNat', ← hy]; omega
        rw [← hy] at hc2
        have HSE := Lib.hid (HZ.out.2.2.set (yb : Int) (by rw [hyt]))
        have hki : (k : Int) < (s'.size : Int) := by omega
        clear hx hy hyt
        go_wp2_with fail
        go_roundw
        case rel =>
          exact ⟨k + 1, by omega, by go_num, HBE.out.setCell (p := ⟨g8, k, none⟩) (by show w9.heap.size ≤ g8; rw [HE8.out]; exact Nat.le_refl _) _, by simpa using HZ.out.2.1, HSE.out⟩
        case measure => simp [intOf]; omega
      · obtain rfl : k = s'.size := by omega
        have hcb : ∀ W, Below wr.heap.size wr W → (convert 39 9 (.slice (some ⟨g8, 0, none⟩) s'.size c8)).run Try.prog W = .ok (.string ⟨(s'.data.toList.map (tf8 tf)).toArray⟩) W := fun W hW => by
          have h9 := run_convert_bytes_back (P := Try.prog) W 39 9 5 ⟨g8, 0, none⟩ c8 (s'.data.toList.map (tf8 tf)) Try.underlying39 Try.underlying5 Try.underlying9 (fun j hj => by
            have hj' : j < s'.size := by rw [List.length_map, size_data] at hj; exact hj
            have := ((HZ.out.2.2.below hW HZ.out.2.1) j hj').1
            rw [add_plain', Nat.zero_add, this]
            have hj2 : j < s'.data.toList.length := by rw [size_data]; exact hj'
            unfold btF
            rw [if_pos hj']
            have hj3 : j < s'.data.size := hj'
            simp
            rw [Array.getElem?_eq_getElem hj3]
            rfl)
          rw [List.length_map, size_data] at h9
          exact h9
        obtain ⟨t', ht'⟩ : ∃ t' : ByteArray, t' = ⟨(s'.data.toList.map (tf8 tf)).toArray⟩ := ⟨_, rfl⟩
        rw [← ht'] at hcb
        have htl : t'.data.toList = s'.data.toList.map (tf8 tf) := by rw [ht']
        have hts : t'.size = s'.size := by rw [← size_data, htl, List.length_map, size_data]
        have hmp := endsR_map HR.out HTF.out.1 s' t' htl x
        obtain ⟨L1, hL1⟩ : ∃ L1, L1 = endsR D s' x := ⟨_, rfl⟩
        obtain ⟨L2, hL2⟩ : ∃ L2, L2 = endsR D t' x := ⟨_, rfl⟩
        have hE1 := fun W hW => dends_any ds A1 A2 n n2 c1 c2 D RA rc s' W hW x (by omega)
        have hE2 := fun W hW => dends_any dm A3 A4 k3 k3 c3 c4 M RM rm s' W hW x (by omega)
        have hE3 := fun W hW => dends_any ds A1 A2 n n2 c1 c2 D RA rc t' W hW x (by omega)
        have hE4 := fun W hW => dends_any dn B3 B4 k4 k4 e3 e4 N RN rn s' W hW x (by omega)
        rw [← hL1] at hE1
        rw [← HF.out.2.2.1, ← hL1] at hE2
        rw [← hL2] at hE3
        rw [← HF.out.2.2.2, hmp, ← hL2] at hE4
        have hl1 := endsR_len D s' x
        have hl2 := endsR_len D t' x
        rw [← hL1] at hl1
        rw [← hL2] at hl2
        have HE1 := Lib.hid hE1
        have HE2 := Lib.hid hE2
        have HE3 := Lib.hid hE3
        have HE4 := Lib.hid hE4
        obtain ⟨n1, hn1⟩ : ∃ n1, n1 = L1.length := ⟨_, rfl⟩
        obtain ⟨m1, hm1⟩ : ∃ m1, m1 = L2.length := ⟨_, rfl⟩
        rw [← hn1] at hl1 HE1 HE2
        rw [← hm1] at hl2 HE3 HE4
        clear hL1 hL2 hE1 hE2 hE3 hE4 ht' htl hmp hn1 hm1
        have hload1 : ∀ W, SmW w W ds tf g9 g11 dm dn A3 A4 B3 B4 k3 c3 c4 k4 e3 e4 M N RM RN rm rn → (loadB 26 (.pointer (some ⟨w.heap.size, 0, none⟩))).run Try.prog W = .ok (.agg ds) W := fun W hW => ldB hW.box hds
        have hload2 : ∀ W, SmW w W ds tf g9 g11 dm dn A3 A4 B3 B4 k3 c3 c4 k4 e3 e4 M N RM RN rm rn → (loadB 26 (.pointer (some ⟨g9, 0, none⟩))).run Try.prog W = .ok (.agg dm) W := fun W hW => ldB hW.mb hW.im.cells.size
        have hload3 : ∀ W, SmW w W ds tf g9 g11 dm dn A3 A4 B3 B4 k3 c3 c4 k4 e3 e4 M N RM RN rm rn → (loadB 26 (.pointer (some ⟨g11, 0, none⟩))).run Try.prog W = .ok (.agg dn) W := fun W hW => ldB hW.nb hW.iN.cells.size
        have hz0 : SmW w wr.drew ds tf g9 g11 dm dn A3 A4 B3 B4 k3 c3 c4 k4 e3 e4 M N RM RN rm rn ∧ Below wr.heap.size wr wr.drew := ⟨HZ.out.1.go ((Below.refl _ _).drew), (Below.refl _ _).drew⟩
        have HZ0 := Lib.hid hz0
        have hgo : ∀ (W W' : World), (SmW w W ds tf g9 g11 dm dn A3 A4 B3 B4 k3 c3 c4 k4 e3 e4 M N RM RN rm rn ∧ Below wr.heap.size wr W) → Below W.heap.size W W' → (SmW w W' ds tf g9 g11 dm dn A3 A4 B3 B4 k3 c3 c4 k4 e3 e4 M N RM RN rm rn ∧ Below wr.heap.size wr W') := fun W W' h hb => ⟨h.1.go hb, h.2.trans (hb.mono h.2.size)⟩
        have HGO := Lib.hid hgo
        clear hz0 hgo
        have hlt9 : ¬ s'.size < s'.size := hlk
        clear hlk hlt9
        go_wp2_with fail
        go_region_held3 (fun w' => SmW w w' ds tf g9 g11 dm dn A3 A4 B3 B4 k3 c3 c4 k4 e3 e4 M N RM RN rm rn ∧ Below wr.heap.size wr w')
          (first
            | assumption
            | exact ⟨by assumption, by assumption⟩
            | exact HZ0.out)
          (first
            | (go_at_call_of 17 (Value.agg dm); go_split_ands; refine (HE2.out _ (SmW.im (by assumption))).mono ?_; rintro e wb ⟨Ab, cb, rfl, harb, hbb⟩; have Mb := HGO.out _ _ ⟨by assumption, by assumption⟩ hbb; have hara2 := (hara.below hbb).more hbb.size)
            | (go_at_call_of 17 (Value.agg dn); go_split_ands; refine (HE4.out _ (SmW.iN (by assumption))).mono ?_; rintro e wd ⟨Ad, cd, rfl, hard, hbd⟩; have Md := HGO.out _ _ ⟨by assumption, by assumption⟩ hbd; have harc2 := (harc.below hbd).more hbd.size)
            | (go_at_call_of 17 (Value.string t'); go_split_ands; refine (HE3.out _ (H.out.keep (SmW.bel (by assumption)))).mono ?_; rintro e wc ⟨Ac, cc, rfl, harc, hbc⟩; have Mc := HGO.out _ _ ⟨by assumption, by assumption⟩ hbc)
            | (go_at_call 17; go_split_ands; refine (HE1.out _ (H.out.keep (SmW.bel (by assumption)))).mono ?_; rintro e wa ⟨Aa, ca, rfl, hara, hba⟩; have Ma := HGO.out _ _ ⟨by assumption, by assumption⟩ hba)
            | (go_at_call_of 16 (Value.slice Ab n1 cb); go_split_ands; refine (ints_same Aa Ab n1 ca cb L1 _ (by omega) hara2 harb).mono ?_; rintro e we ⟨rfl, me, rfl⟩; have Me := HGO.out _ _ ⟨by assumption, by assumption⟩ (below_drewN (Below.refl _ _) me))
            | (go_at_call_of 16 (Value.slice Ad m1 cd); go_split_ands; refine (ints_same Ac Ad m1 cc cd L2 _ (by omega) harc2 hard).mono ?_; rintro e wf ⟨rfl, mf, rfl⟩; have Mf := HGO.out _ _ ⟨by assumption, by assumption⟩ (below_drewN (Below.refl _ _) mf)))
        go_wp2_with fail
        go_returns
        exact ⟨by first | rfl | simp, Mf.1.bel⟩
  · rw [rightD_no hr]
    clear hr hld
    go_wp2_with fail
    go_returns
    exact ⟨by first | rfl | simp, HC.out.2.1⟩
end Go.Proofs.Ytiaigdedkdeeoaa
