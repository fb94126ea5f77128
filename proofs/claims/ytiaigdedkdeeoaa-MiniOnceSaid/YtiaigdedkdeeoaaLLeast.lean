/- MiniLeast and MiniMaps, with their arguments laid open. -/
import Derived.Test.YtiaigdedkdeeoaaMapW
import Derived.Test.YtiaigdedkdeeoaaRRight
import Derived.Deep.RegionHeld3
import Derived.Deep.RegionWith
namespace Go.Proofs.Ytiaigdedkdeeoaa
open Go.RowKit Go.Maps Go.WideMaps
attribute [local go_sem ↓] load_22 load_26 store_22 store_26

def zeroD : Dfa := ⟨fun _ => 0, [], []⟩
theorem zero_in (W : World) : DfaIn W zs26 none none 0 0 0 0 zeroD (fun _ => none) (fun _ => 0) := by
  have hget : ∀ k, zs26[k]? = (dCells [] (.slice none 0 0) (.slice none 0 0))[k]? := fun k => by rw [← zs26_cells, Array.getElem?_toList]
  exact ⟨⟨size26, fun b hb => by rw [hget, dCells_get _ _ _ hb]; rfl, by rw [hget, dCells_256], by rw [hget, dCells_257], fun b _ => (by show (0 : Nat) < 256; omega)⟩, ⟨rfl, by omega, fun h => absurd h (by omega), fun k hk => absurd hk (by omega), fun k hk => absurd hk (by omega)⟩, rfl, by omega, fun h => absurd h (by omega)⟩
/-- the law's two boxes, and what was made -/
structure LmW (w W : World) (ds : Array Value) (g3 : Nat) (ds' : Array Value) (Ax Ay : Option Addr) (k cx cy : Nat) (M : Dfa) (RA' : Nat → Option Addr) (rc' : Nat → Nat) : Prop where
  bel : Below w.heap.size w W
  box : Blk W w.heap.size 26 ds.toList
  mb : Blk W g3 26 ds'.toList
  dm : DfaIn W ds' Ax Ay k k cx cy M RA' rc'
section
variable {w W W' : World} {ds : Array Value} {g3 : Nat} {ds' : Array Value} {Ax Ay : Option Addr} {k cx cy : Nat} {M : Dfa} {RA' : Nat → Option Addr} {rc' : Nat → Nat}
theorem LmW.go (h : LmW w W ds g3 ds' Ax Ay k cx cy M RA' rc') (hb : Below W.heap.size W W') : LmW w W' ds g3 ds' Ax Ay k cx cy M RA' rc' :=
  ⟨h.bel.trans (hb.mono h.bel.size), h.box.below hb h.box.lt, h.mb.below hb h.mb.lt, h.dm.keep hb⟩
theorem LmW.drew (h : LmW w W ds g3 ds' Ax Ay k cx cy M RA' rc') : LmW w W.drew ds g3 ds' Ax Ay k cx cy M RA' rc' := h.go ((Below.refl _ _).drew)
end
/-- two automata that are the same one, told by their lists -/
theorem like_eq (ds ds' : Array Value) (A1 A2 B1 B2 : Option Addr) (k k' c1 c2 e1 e2 : Nat) (M M' : Dfa) (RA RB : Nat → Option Addr) (rc re : Nat → Nat) (w : World) (h : DfaIn w ds A1 A2 k k c1 c2 M RA rc) (h' : DfaIn w ds' B1 B2 k' k' e1 e2 M' RB re) (he : M = M') :
    Calls Try.prog 9 #[.agg ds, .agg ds'] w fun e w' => e = .returned (.bool true) ∧ Below w.heap.size w w' := by
  subst he
  have hk : k' = k := by rw [← h.next.len, ← h'.next.len]
  subst hk
  exact like_same ds ds' A1 A2 B1 B2 _ _ c1 c2 e1 e2 M RA RB rc re w h h'
set_option maxRecDepth 100000 in
set_option maxHeartbeats 8000000 in
theorem law_least (ds : Array Value) (A1 A2 : Option Addr) (n n2 c1 c2 : Nat) (D : Dfa) (RA : Nat → Option Addr) (rc : Nat → Nat) (w : World) (h : DfaIn w ds A1 A2 n n2 c1 c2 D RA rc) :
    Calls Try.prog 3 #[.agg ds] w fun e w' => e = .returned (.bool true) ∧ Below w.heap.size w w' := by
  have hds := h.cells.size
  have hbox := blk_alloc w 26 ds
  have hbl : Below w.heap.size w (w.alloc (.cells ds 26)) := (Below.refl _ _).alloc (Nat.le_refl _) _
  have hld := ldB hbox hds
  have H := Lib.hid h
  have HB := Lib.hid (And.intro hbox hbl)
  clear h hbox hbl
  go_enter Try.func3, Try.ntmps3
  go_upto_region 1 with (fail)
  generalize w.alloc (.cells ds 26) = w1 at HB hld ⊢
  by_cases hr : RightD D
  · have HR := Lib.hid hr
    clear hr
    go_wp2_with fail
    refine (least_right ds A1 A2 n n2 c1 c2 D RA rc w1 (H.out.keep HB.out.2) HR.out).mono ?_
    rintro e w2 ⟨ds', Ax, cx, Ay, cy, k, RA', rc', M, rfl, hdf, hlo, hb2⟩
    have hz26 := zeroV26
    have hb0 := blk_alloc w2 26 zs26
    have hst := storeB_run 26 hb0 (.inl rfl) ds' (by rw [Array.length_toList, size26]; rfl) (by rw [hdf.here.cells.size]; rfl) (cells_one hdf.here.cells)
    have hblk := hb0.row ds'
    have hb9 : Below w2.heap.size w2 ((w2.alloc (.cells zs26 26)).setRow w2.heap.size ds') := below_setRow ((Below.refl _ _).alloc (Nat.le_refl _) _) (Nat.le_refl _) _
    have hlm : LmW w ((w2.alloc (.cells zs26 26)).setRow w2.heap.size ds') ds w2.heap.size ds' Ax Ay k cx cy M RA' rc' :=
      ⟨(HB.out.2.trans (hb2.mono HB.out.2.size)).trans (hb9.mono (Nat.le_trans HB.out.2.size hb2.size)), (HB.out.1.below hb2 HB.out.1.lt).below hb9 (Nat.lt_of_lt_of_le HB.out.1.lt hb2.size), hblk, hdf.here.keep hb9⟩
    have hld3 := ldB hlm.box hds
    have hload1 : ∀ W, LmW w W ds w2.heap.size ds' Ax Ay k cx cy M RA' rc' → (loadB 26 (.pointer (some ⟨w.heap.size, 0, none⟩))).run Try.prog W = .ok (.agg ds) W := fun W hW => ldB hW.box hds
    have hload2 : ∀ W, LmW w W ds w2.heap.size ds' Ax Ay k cx cy M RA' rc' → (loadB 26 (.pointer (some ⟨w2.heap.size, 0, none⟩))).run Try.prog W = .ok (.agg ds') W := fun W hW => ldB hW.mb hW.dm.cells.size
    have HLM := Lib.hid (And.intro hlm hlo)
    have HLL := Lib.hid (And.intro hload1 hload2)
    clear hb0 hblk hb9 hlm hdf hlo hb2 hld HB hload1 hload2
    go_upto_region 2 with (fail)
    clear hst hz26
    obtain ⟨g3, hg3⟩ : ∃ g3, g3 = w2.heap.size := ⟨_, rfl⟩
    rw [← hg3] at HLM HLL hld3 ⊢
    clear hg3
    generalize (w2.alloc (.cells zs26 26)).setRow g3 ds' = w3 at HLM hld3 ⊢
    go_wp2_with fail
    refine (drright_any ds A1 A2 n n2 c1 c2 D RA rc w3 (H.out.keep HLM.out.1.bel)).mono ?_
    rintro e w4 ⟨rfl, hb4⟩
    rw [rightD_yes HR.out]
    have hl4 := HLM.out.1.go hb4
    have hload1 := HLL.out.1
    have hload2 := HLL.out.2
    have HL4 := Lib.hid hl4
    clear hld3 hb4 hl4 HLL
    go_wp2_with fail
    have hfew := fun (W : World) => few_any ds A1 A2 n n2 c1 c2 D.cls W H.out.cells
    obtain ⟨bf, hbf⟩ : ∃ bf, bf = decide (n ≤ 40) := ⟨_, rfl⟩
    rw [← hbf] at hfew
    have HF := Lib.hid hfew
    clear hfew hbf
    cases bf with
    | false =>
      have hd1 : (loadB 26 (.pointer (some ⟨w.heap.size, 0, none⟩))).run Try.prog w4.drew = .ok (.agg ds) w4.drew := hload1 _ HL4.out.drew
      go_region_with (go_at_call 10; refine (HF.out _).mono ?_; rintro e w9 ⟨rfl, hb9⟩; have L9 : LmW w w9 ds g3 ds' Ax Ay k cx cy M RA' rc' := LmW.go HL4.out.drew hb9)
      all_goals
        first | go_wp2_with fail | skip
        go_returns
        exact ⟨by first | rfl | simp, L9.bel⟩
    | true =>
      go_region_held3 (fun w' => LmW w w' ds g3 ds' Ax Ay k cx cy M RA' rc')
        (first
          | assumption
          | exact HL4.out.drew)
        (first
          | (go_at_call 10; refine (HF.out _).mono ?_; rintro e w9 ⟨rfl, hb9⟩; have L9 : LmW w w9 ds g3 ds' Ax Ay k cx cy M RA' rc' := LmW.go (by assumption) hb9)
          | (go_at_call 11; refine (rleast_any ds A1 A2 n n2 c1 c2 D RA rc _ (H.out.keep (LmW.bel (by assumption))) HR.out).mono ?_; rintro e w9 ⟨dr, Bx, ex, By, ey, kr, RB, re, MR, rfl, hdr, hlr, hb9⟩; have M9 : LmW w w9 ds g3 ds' Ax Ay k cx cy M RA' rc' := LmW.go (by assumption) hb9)
          | (go_at_call 9; refine (like_eq ds' dr Ax Ay Bx By k kr cx cy ex ey M MR RA' RB rc' re _ (LmW.dm (by assumption)) hdr.here (HLM.out.2.eq hlr)).mono ?_; rintro e w9 ⟨rfl, hb9⟩; have N9 : LmW w w9 ds g3 ds' Ax Ay k cx cy M RA' rc' := LmW.go (by assumption) hb9))
      go_wp2_with fail
      go_returns
      exact ⟨by first | rfl | simp, N9.bel⟩
  · have HR := Lib.hid hr
    clear hr
    go_wp2_with fail
    refine (least_wrong ds A1 A2 n n2 c1 c2 D RA rc w1 (H.out.keep HB.out.2) HR.out).mono ?_
    rintro e w2 ⟨rfl, hb2⟩
    have hz26 := zeroV26
    have hb0 := blk_alloc w2 26 zs26
    have hst := storeB_run 26 hb0 (.inl rfl) zs26 (by rw [Array.length_toList, size26]; rfl) (by rw [size26]; rfl) zs26_one
    have hblk := hb0.row zs26
    have hb9 : Below w2.heap.size w2 ((w2.alloc (.cells zs26 26)).setRow w2.heap.size zs26) := below_setRow ((Below.refl _ _).alloc (Nat.le_refl _) _) (Nat.le_refl _) _
    have hlm : LmW w ((w2.alloc (.cells zs26 26)).setRow w2.heap.size zs26) ds w2.heap.size zs26 none none 0 0 0 zeroD (fun _ => none) (fun _ => 0) :=
      ⟨(HB.out.2.trans (hb2.mono HB.out.2.size)).trans (hb9.mono (Nat.le_trans HB.out.2.size hb2.size)), (HB.out.1.below hb2 HB.out.1.lt).below hb9 (Nat.lt_of_lt_of_le HB.out.1.lt hb2.size), hblk, zero_in _⟩
    have hld3 := ldB hlm.box hds
    have HLM := Lib.hid hlm
    clear hb0 hblk hb9 hlm hb2 hld HB
    go_upto_region 2 with (fail)
    clear hst
    obtain ⟨g3, hg3⟩ : ∃ g3, g3 = w2.heap.size := ⟨_, rfl⟩
    rw [← hg3] at HLM hld3 ⊢
    clear hg3
    generalize (w2.alloc (.cells zs26 26)).setRow g3 zs26 = w3 at HLM hld3 ⊢
    go_wp2_with fail
    refine (drright_any ds A1 A2 n n2 c1 c2 D RA rc w3 (H.out.keep HLM.out.bel)).mono ?_
    rintro e w4 ⟨rfl, hb4⟩
    rw [rightD_no HR.out]
    have hl4 := HLM.out.go hb4
    have hld4 := ldB hl4.mb size26
    have HL4 := Lib.hid hl4
    clear hld3 hb4 hl4
    go_wp2_with fail
    refine (like_eq zs26 zs26 none none none none 0 0 0 0 0 0 zeroD zeroD _ _ _ _ w4 HL4.out.dm (zero_in w4) rfl).mono ?_
    rintro e w5 ⟨rfl, hb5⟩
    have hbl := HL4.out.bel.trans (hb5.mono HL4.out.bel.size)
    have HBL := Lib.hid hbl
    clear hbl hb5
    go_wp2_with fail
    go_returns
    exact ⟨by first | rfl | simp, HBL.out⟩
end Go.Proofs.Ytiaigdedkdeeoaa
