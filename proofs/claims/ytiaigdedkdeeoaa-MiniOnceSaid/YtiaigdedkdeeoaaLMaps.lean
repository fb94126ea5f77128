/- MiniMaps, with its arguments laid open. -/
import Derived.Test.YtiaigdedkdeeoaaLLeast
namespace Go.Proofs.Ytiaigdedkdeeoaa
open Go.RowKit Go.Maps Go.WideMaps
attribute [local go_sem ↓] load_22 load_26 store_22 store_26

/-- and the map's box -/
structure LpW (w W : World) (ds : Array Value) (tf : Nat → Nat) (g3 : Nat) (ds' : Array Value) (Ax Ay : Option Addr) (k cx cy : Nat) (M : Dfa) (RA' : Nat → Option Addr) (rc' : Nat → Nat) : Prop where
  l : LmW w W ds g3 ds' Ax Ay k cx cy M RA' rc'
  tb : Blk W (w.heap.size + 1) 22 (clsV tf)
section
variable {w W W' : World} {ds : Array Value} {tf : Nat → Nat} {g3 : Nat} {ds' : Array Value} {Ax Ay : Option Addr} {k cx cy : Nat} {M : Dfa} {RA' : Nat → Option Addr} {rc' : Nat → Nat}
theorem LpW.go (h : LpW w W ds tf g3 ds' Ax Ay k cx cy M RA' rc') (hb : Below W.heap.size W W') : LpW w W' ds tf g3 ds' Ax Ay k cx cy M RA' rc' := ⟨h.l.go hb, h.tb.below hb h.tb.lt⟩
theorem LpW.drew (h : LpW w W ds tf g3 ds' Ax Ay k cx cy M RA' rc') : LpW w W.drew ds tf g3 ds' Ax Ay k cx cy M RA' rc' := h.go ((Below.refl _ _).drew)
end
theorem ldT {W : World} {g : Nat} {tf : Nat → Nat} (h : Blk W g 22 (clsV tf)) : (loadB 22 (.pointer (some ⟨g, 0, none⟩))).run Try.prog W = .ok (.agg (clsV tf).toArray) W :=
  loadB_run 22 h.range (by simp) (by rw [clsV_len]; rfl)
set_option maxRecDepth 100000 in
set_option maxHeartbeats 8000000 in
theorem law_maps (ds : Array Value) (A1 A2 : Option Addr) (n n2 c1 c2 : Nat) (D : Dfa) (RA : Nat → Option Addr) (rc : Nat → Nat) (tf : Nat → Nat) (w : World) (h : DfaIn w ds A1 A2 n n2 c1 c2 D RA rc) (htf : ∀ b, b < 256 → tf b < 256) :
    Calls Try.prog 5 #[.agg ds, .agg (clsV tf).toArray] w fun e w' => e = .returned (.bool true) ∧ Below w.heap.size w w' := by
  have hds := h.cells.size
  obtain ⟨tl, htv⟩ : ∃ tl, tl = clsV tf := ⟨_, rfl⟩
  rw [← htv]
  have hbox := (blk_alloc w 26 ds).alloc (.cells tl.toArray 22)
  have htb := blk_alloc (w.alloc (.cells ds 26)) 22 tl.toArray
  rw [World.size_alloc] at htb
  replace htb : Blk ((w.alloc (.cells ds 26)).alloc (.cells tl.toArray 22)) (w.heap.size + 1) 22 (clsV tf) := by rw [List.toList_toArray] at htb; rw [← htv]; exact htb
  have hbl : Below w.heap.size w ((w.alloc (.cells ds 26)).alloc (.cells tl.toArray 22)) := ((Below.refl _ _).alloc (Nat.le_refl _) _).alloc (by simp) _
  have hld := ldB hbox hds
  have hldt := ldT htb
  rw [← htv] at hldt
  have H := Lib.hid h
  have HTF := Lib.hid (And.intro htf htv)
  have HB := Lib.hid (And.intro hbox (And.intro hbl htb))
  clear h hbox hbl htb htf htv
  go_enter Try.func5, Try.ntmps5
  go_upto_region 1 with (fail)
  generalize (w.alloc (.cells ds 26)).alloc (.cells tl.toArray 22) = w1 at HB hld hldt ⊢
  by_cases hr : RightD D
  · have HR := Lib.hid hr
    clear hr
    have hmr := map_right ds A1 A2 n n2 c1 c2 D RA rc tf w1 (H.out.keep HB.out.2.1) HR.out HTF.out.1
    rw [← HTF.out.2] at hmr
    have HMR := Lib.hid hmr
    clear hmr
    go_wp2_with fail
    refine HMR.out.mono ?_
    rintro e w2 ⟨ds', Ax, cx, Ay, cy, k, RA', rc', M, rfl, hdf, hlo, hb2⟩
    have hz26 := zeroV26
    have hb0 := blk_alloc w2 26 zs26
    have hst := storeB_run 26 hb0 (.inl rfl) ds' (by rw [Array.length_toList, size26]; rfl) (by rw [hdf.here.cells.size]; rfl) (cells_one hdf.here.cells)
    have hblk := hb0.row ds'
    have hb9 : Below w2.heap.size w2 ((w2.alloc (.cells zs26 26)).setRow w2.heap.size ds') := below_setRow ((Below.refl _ _).alloc (Nat.le_refl _) _) (Nat.le_refl _) _
    have hlm : LpW w ((w2.alloc (.cells zs26 26)).setRow w2.heap.size ds') ds tf w2.heap.size ds' Ax Ay k cx cy M RA' rc' :=
      ⟨⟨(HB.out.2.1.trans (hb2.mono HB.out.2.1.size)).trans (hb9.mono (Nat.le_trans HB.out.2.1.size hb2.size)), (HB.out.1.below hb2 HB.out.1.lt).below hb9 (Nat.lt_of_lt_of_le HB.out.1.lt hb2.size), hblk, hdf.here.keep hb9⟩, (HB.out.2.2.below hb2 HB.out.2.2.lt).below hb9 (Nat.lt_of_lt_of_le HB.out.2.2.lt hb2.size)⟩
    have hld3 := ldB hlm.l.box hds
    have hload1 : ∀ W, LpW w W ds tf w2.heap.size ds' Ax Ay k cx cy M RA' rc' → (loadB 26 (.pointer (some ⟨w.heap.size, 0, none⟩))).run Try.prog W = .ok (.agg ds) W := fun W hW => ldB hW.l.box hds
    have hload2 : ∀ W, LpW w W ds tf w2.heap.size ds' Ax Ay k cx cy M RA' rc' → (loadB 26 (.pointer (some ⟨w2.heap.size, 0, none⟩))).run Try.prog W = .ok (.agg ds') W := fun W hW => ldB hW.l.mb hW.l.dm.cells.size
    have hload3 : ∀ W, LpW w W ds tf w2.heap.size ds' Ax Ay k cx cy M RA' rc' → (loadB 22 (.pointer (some ⟨w.heap.size + 1, 0, none⟩))).run Try.prog W = .ok (.agg tl.toArray) W := fun W hW => by rw [HTF.out.2]; exact ldT hW.tb
    have HLM := Lib.hid (And.intro hlm hlo)
    have HLL := Lib.hid (And.intro hload1 (And.intro hload2 hload3))
    clear hb0 hblk hb9 hlm hdf hlo hb2 hld hldt HB hload1 hload2 hload3 HMR
    go_upto_region 2 with (fail)
    clear hst hz26
    obtain ⟨g3, hg3⟩ : ∃ g3, g3 = w2.heap.size := ⟨_, rfl⟩
    rw [← hg3] at HLM HLL hld3 ⊢
    clear hg3
    generalize (w2.alloc (.cells zs26 26)).setRow g3 ds' = w3 at HLM hld3 ⊢
    go_wp2_with fail
    refine (drright_any ds A1 A2 n n2 c1 c2 D RA rc w3 (H.out.keep HLM.out.1.l.bel)).mono ?_
    rintro e w4 ⟨rfl, hb4⟩
    rw [rightD_yes HR.out]
    have hl4 := HLM.out.1.go hb4
    have hload1 := HLL.out.1
    have hload2 := HLL.out.2.1
    have hload3 := HLL.out.2.2
    have HL4 := Lib.hid hl4
    clear hld3 hb4 hl4 HLL
    go_wp2_with fail
    have hfew := fun (W : World) => few_any ds A1 A2 n n2 c1 c2 D.cls W H.out.cells
    obtain ⟨bf, hbf⟩ : ∃ bf, bf = decide (n ≤ 40) := ⟨_, rfl⟩
    rw [← hbf] at hfew
    have HF := Lib.hid hfew
    have hrm := fun (W : World) (hW : LpW w W ds tf g3 ds' Ax Ay k cx cy M RA' rc') => rmap_any ds A1 A2 n n2 c1 c2 D RA rc tf W (H.out.keep hW.l.bel) HR.out HTF.out.1
    rw [← HTF.out.2] at hrm
    have HRM := Lib.hid hrm
    clear hfew hbf hrm
    cases bf with
    | false =>
      have hd1 : (loadB 26 (.pointer (some ⟨w.heap.size, 0, none⟩))).run Try.prog w4.drew = .ok (.agg ds) w4.drew := hload1 _ HL4.out.drew
      go_region_with (go_at_call 10; refine (HF.out _).mono ?_; rintro e w9 ⟨rfl, hb9⟩; have L9 : LpW w w9 ds tf g3 ds' Ax Ay k cx cy M RA' rc' := LpW.go HL4.out.drew hb9)
      all_goals
        first | go_wp2_with fail | skip
        go_returns
        exact ⟨by first | rfl | simp, L9.l.bel⟩
    | true =>
      have hu22 := Try.underlying22
      have hi22 : (Try.prog.info? 22).map (·.size) = some tl.length := by rw [HTF.out.2, clsV_len]; exact info22
      have hrg : ∀ W, LpW w W ds tf g3 ds' Ax Ay k cx cy M RA' rc' → W.rangeAt (w.heap.size + 1) 0 tl := fun W hW => by rw [HTF.out.2]; exact hW.tb.range
      go_region_held3 (fun w' => LpW w w' ds tf g3 ds' Ax Ay k cx cy M RA' rc' ∧ w'.rangeAt (w.heap.size + 1) 0 tl)
        (first
          | assumption
          | exact ⟨by assumption, hrg _ (by assumption)⟩
          | exact ⟨HL4.out.drew, hrg _ HL4.out.drew⟩)
        (first
          | (go_at_call 10; go_split_ands; refine (HF.out _).mono ?_; rintro e w9 ⟨rfl, hb9⟩; have L9 : LpW w w9 ds tf g3 ds' Ax Ay k cx cy M RA' rc' := LpW.go (by assumption) hb9)
          | (go_at_call 14; go_split_ands; refine (HRM.out _ (by assumption)).mono ?_; rintro e w9 ⟨dr, Bx, ex, By, ey, kr, RB, re, MR, rfl, hdr, hlr, hb9⟩; have M9 : LpW w w9 ds tf g3 ds' Ax Ay k cx cy M RA' rc' := LpW.go (by assumption) hb9)
          | (go_at_call 9; go_split_ands; refine (like_eq ds' dr Ax Ay Bx By k kr cx cy ex ey M MR RA' RB rc' re _ (LmW.dm (LpW.l (by assumption))) hdr.here (HLM.out.2.eq hlr)).mono ?_; rintro e w9 ⟨rfl, hb9⟩; have N9 : LpW w w9 ds tf g3 ds' Ax Ay k cx cy M RA' rc' := LpW.go (by assumption) hb9))
      go_wp2_with fail
      go_returns
      exact ⟨by first | rfl | simp, N9.l.bel⟩
  · have HR := Lib.hid hr
    clear hr
    go_wp2_with fail
    refine (map_wrong ds A1 A2 n n2 c1 c2 D RA rc tl.toArray w1 (H.out.keep HB.out.2.1) HR.out).mono ?_
    rintro e w2 ⟨rfl, hb2⟩
    have hz26 := zeroV26
    have hb0 := blk_alloc w2 26 zs26
    have hst := storeB_run 26 hb0 (.inl rfl) zs26 (by rw [Array.length_toList, size26]; rfl) (by rw [size26]; rfl) zs26_one
    have hblk := hb0.row zs26
    have hb9 : Below w2.heap.size w2 ((w2.alloc (.cells zs26 26)).setRow w2.heap.size zs26) := below_setRow ((Below.refl _ _).alloc (Nat.le_refl _) _) (Nat.le_refl _) _
    have hlm : LmW w ((w2.alloc (.cells zs26 26)).setRow w2.heap.size zs26) ds w2.heap.size zs26 none none 0 0 0 zeroD (fun _ => none) (fun _ => 0) :=
      ⟨(HB.out.2.1.trans (hb2.mono HB.out.2.1.size)).trans (hb9.mono (Nat.le_trans HB.out.2.1.size hb2.size)), (HB.out.1.below hb2 HB.out.1.lt).below hb9 (Nat.lt_of_lt_of_le HB.out.1.lt hb2.size), hblk, zero_in _⟩
    have hld3 := ldB hlm.box hds
    have HLM := Lib.hid hlm
    clear hb0 hblk hb9 hlm hb2 hld hldt HB
    go_upto_region 2 with (fail)
    clear hst
    obtain ⟨g3, hg3⟩ : ∃ g3, g3 = w2.heap.size := ⟨_, rfl⟩
    rw [← hg3] at HLM hld3 ⊢
    clear hg3
    generalize (w2.alloc (.cells zs26 26)).setRow g3 zs26 = w3 at HLM hld3 ⊢
    go_wp2_with fail
    refine (drright_any ds A1 A2 n n2 c1 c2 D RA rc w3 (H.out.keep HLM.out.bel)).mono ?_
    rintro e w4 ⟨rfl, hb4⟩
    rw [rightD_no HR.out]
    have hl4 := HLM.out.go hb4
    have hld4 := ldB hl4.mb size26
    have HL4 := Lib.hid hl4
    clear hld3 hb4 hl4
    go_wp2_with fail
    refine (like_eq zs26 zs26 none none none none 0 0 0 0 0 0 zeroD zeroD _ _ _ _ w4 HL4.out.dm (zero_in w4) rfl).mono ?_
    rintro e w5 ⟨rfl, hb5⟩
    have hbl := HL4.out.bel.trans (hb5.mono HL4.out.bel.size)
    have HBL := Lib.hid hbl
    clear hbl hb5
    go_wp2_with fail
    go_returns
    exact ⟨by first | rfl | simp, HBL.out⟩
end Go.Proofs.Ytiaigdedkdeeoaa
