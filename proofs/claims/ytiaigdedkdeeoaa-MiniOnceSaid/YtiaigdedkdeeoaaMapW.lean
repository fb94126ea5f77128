/- mini.Map and the reference's Map. -/
import Derived.Test.YtiaigdedkdeeoaaMap
namespace Go.Proofs.Ytiaigdedkdeeoaa
open Go.RowKit Go.Maps Go.WideMaps
attribute [local go_sem ↓] load_22 load_26 store_22 store_26

/-- what Least hands back of a right automaton -/
def LeastPost (D : Dfa) (w : World) (e : Ending) (w' : World) : Prop := ∃ ds' Ax cx Ay cy k RA' rc' M, e = .returned (.tuple #[.agg ds', .int .i64 0]) ∧ DfaNew w w' ds' Ax Ay k k cx cy M RA' rc' ∧ LeastOf D M ∧ Below w.heap.size w w'
set_option maxRecDepth 100000 in
set_option maxHeartbeats 8000000 in
theorem map_wrong (ds : Array Value) (A1 A2 : Option Addr) (n n2 c1 c2 : Nat) (D : Dfa) (RA : Nat → Option Addr) (rc : Nat → Nat) (tv : Array Value) (w : World) (h : DfaIn w ds A1 A2 n n2 c1 c2 D RA rc) (hr : ¬ RightD D) :
    Calls Try.prog 13 #[.agg ds, .agg tv] w fun e w' => e = .returned (.tuple #[.agg zs26, .int .i64 81]) ∧ Below w.heap.size w w' := by
  have hds := h.cells.size
  have b1 := ((blk_alloc w 26 ds).alloc (.cells tv 22)).alloc (.cells zs26 26)
  have b3 := blk_alloc ((w.alloc (.cells ds 26)).alloc (.cells tv 22)) 26 zs26
  rw [World.size_alloc, World.size_alloc] at b3
  have hbl : Below w.heap.size w (((w.alloc (.cells ds 26)).alloc (.cells tv 22)).alloc (.cells zs26 26)) := (((Below.refl _ _).alloc (Nat.le_refl _) _).alloc (by simp) _).alloc (by simp; omega) _
  have hld := ldB b1 hds
  have H := Lib.hid (And.intro h (And.intro hr (And.intro hbl b3)))
  have hz26 := zeroV26
  clear h hr b1 b3 hbl
  go_enter Try.func13, Try.ntmps13
  go_upto_region 1 with (fail)
  generalize ((w.alloc (.cells ds 26)).alloc (.cells tv 22)).alloc (.cells zs26 26) = w1 at H hld ⊢
  go_wp2_with fail
  refine (dright_any ds A1 A2 n n2 c1 c2 D RA rc w1 (H.out.1.keep H.out.2.2.1)).mono ?_
  rintro e w2 ⟨rfl, hb2⟩
  rw [rightD_no H.out.2.1]
  have hr6 := H.out.2.2.2.below hb2 H.out.2.2.2.lt
  have hst := storeB_run 26 hr6 (.inl rfl) zs26 (by rw [zs26_cells, dCells_len]; rfl) (by rw [size26]; rfl) zs26_one
  have hbk := hr6.row zs26
  have hbe := below_setRow (g := w.heap.size + 1 + 1) (H.out.2.2.1.trans (hb2.mono H.out.2.2.1.size)) (by omega) zs26
  have HE := Lib.hid (And.intro hbk hbe)
  clear hr6 hb2 hld hbk hbe
  go_wp2_with fail
  (try simp only [Exit.inBlock, Exit.then])
  refine bodyPost_ret (results_cell_row2 rfl _ _ (w.heap.size + 1 + 1) zs26 rfl (by
    have h9 := run_loadVar_row _ (w.heap.size + 1 + 1) 26 26 zs26.toList.toArray (0, 0) _ HE.out.1 Try.underlying26 rfl (by rw [List.size_toArray, Array.length_toList, size26]; exact info26)
    simpa using h9)) rfl ?_
  exact ⟨rfl, HE.out.2⟩
set_option maxRecDepth 100000 in
set_option maxHeartbeats 8000000 in
theorem map_right (ds : Array Value) (A1 A2 : Option Addr) (n n2 c1 c2 : Nat) (D : Dfa) (RA : Nat → Option Addr) (rc : Nat → Nat) (tf : Nat → Nat) (w : World) (h : DfaIn w ds A1 A2 n n2 c1 c2 D RA rc) (hr : RightD D) (ht : ∀ b, b < 256 → tf b < 256) :
    Calls Try.prog 13 #[.agg ds, .agg (clsV tf).toArray] w fun e w' => LeastPost (mapD D tf) w e w' := by
  have hds := h.cells.size
  obtain ⟨tv, htv⟩ : ∃ tv, tv = (clsV tf).toArray := ⟨_, rfl⟩
  rw [← htv]
  have b1 := ((blk_alloc w 26 ds).alloc (.cells tv 22)).alloc (.cells zs26 26)
  have b2 := (blk_alloc (w.alloc (.cells ds 26)) 22 tv).alloc (.cells zs26 26)
  have b3 := blk_alloc ((w.alloc (.cells ds 26)).alloc (.cells tv 22)) 26 zs26
  rw [World.size_alloc, World.size_alloc] at b3
  rw [World.size_alloc, htv] at b2
  rw [← htv] at b2
  have hbl : Below w.heap.size w (((w.alloc (.cells ds 26)).alloc (.cells tv 22)).alloc (.cells zs26 26)) := (((Below.refl _ _).alloc (Nat.le_refl _) _).alloc (by simp) _).alloc (by simp; omega) _
  have hld := ldB b1 hds
  have H := Lib.hid (And.intro h (And.intro hr (And.intro ht (And.intro hbl (And.intro b1 (And.intro b2 b3))))))
  have hz26 := zeroV26
  have HTV := Lib.hid htv
  clear h hr b1 b2 b3 hbl ht htv
  go_enter Try.func13, Try.ntmps13
  go_upto_region 1 with (fail)
  generalize ((w.alloc (.cells ds 26)).alloc (.cells tv 22)).alloc (.cells zs26 26) = w1 at H hld ⊢
  clear hz26
  go_wp2_with fail
  refine (dright_any ds A1 A2 n n2 c1 c2 D RA rc w1 (H.out.1.keep H.out.2.2.2.1)).mono ?_
  rintro e w2 ⟨rfl, hb2⟩
  rw [rightD_yes H.out.2.1]
  have b1 := H.out.2.2.2.2.1.below hb2 H.out.2.2.2.2.1.lt
  have b2 := H.out.2.2.2.2.2.1.below hb2 H.out.2.2.2.2.2.1.lt
  have b3 := H.out.2.2.2.2.2.2.below hb2 H.out.2.2.2.2.2.2.lt
  have hbl := H.out.2.2.2.1.trans (hb2.mono H.out.2.2.2.1.size)
  have hl22 := cls_load b1 H.out.1.cells
  have hz22 := zeroV22
  have hb0 := blk_alloc w2 22 zs22
  have hst := storeB_run 22 hb0 (by simp) (clsV D.cls).toArray (by rw [Array.length_toList, zs22_len]; rfl) (by rw [List.size_toArray, clsV_len]; rfl) (clsV_one _)
  have hb6 := hb0.row (clsV D.cls).toArray
  have hb9 : Below w2.heap.size w2 ((w2.alloc (.cells zs22 22)).setRow w2.heap.size (clsV D.cls).toArray) := below_setRow ((Below.refl _ _).alloc (Nat.le_refl _) _) (Nat.le_refl _) _
  rw [List.toList_toArray] at hb6
  obtain ⟨cv, hcv⟩ : ∃ cv, cv = (clsV D.cls).toArray := ⟨_, rfl⟩
  rw [← hcv] at hl22 hst hb6 hb9
  have hms := MapW.start (D := D) (tf := tf) (hbl.trans (hb9.mono hbl.size)) (by rw [← dVals_of H.out.1.cells]; exact b1.below hb9 b1.lt) (by have h9 := b2.below hb9 b2.lt; rw [HTV.out, List.toList_toArray] at h9; exact h9) (b3.below hb9 b3.lt) hb6 b3.lt
  have HM := Lib.hid hms
  clear b1 b2 b3 hbl hb0 hb6 hb9 hms hb2 hcv hld
  go_upto_region 4 with (fail)
  clear hl22 hz22 hst
  obtain ⟨g6, hg6⟩ : ∃ g6, g6 = w2.heap.size := ⟨_, rfl⟩
  rw [← hg6] at HM ⊢
  clear hg6
  generalize (w2.alloc (.cells zs22 22)).setRow g6 cv = w3 at HM ⊢
  go_wp2_with fail
  go_loopw [14] (fun i wr => ∃ t : Nat, t ≤ 256 ∧ i = .int .i64 t ∧ MapW w wr g6 D tf t (.slice A1 n c1) (.slice A2 n2 c2)) (fun i _ => 256 - (intOf i).toNat)
  case atStart => exact ⟨0, by omega, rfl, HM.out⟩
  case round =>
    obtain ⟨t, ht, rfl, hm⟩ := hrel
    have HT := Lib.hid hm
    clear hm
    by_cases htl : t < 256
    · have q1 := HT.out.tob.cell t
      rw [clsV_get _ htl] at q1
      have htf := H.out.2.2.1 t htl
      have q2 := HT.out.cl.cell (tf t)
      rw [clsV_get _ htf] at q2
      have q3 := HT.out.box.cell t
      rw [dVals_get _ _ _ htl] at q3
      have q4 := HT.out.box.frozen t
      have hset := HT.out.set htl
      obtain ⟨ta, hta⟩ : ∃ ta, ta = tf t := ⟨_, rfl⟩
      rw [← hta] at q1 q2 htf hset
      obtain ⟨tb, htb⟩ : ∃ tb, tb = D.cls ta := ⟨_, rfl⟩
      rw [← htb] at q2 hset
      obtain ⟨tc, htc⟩ : ∃ tc : Int, tc = ((mixF D tf t t : Nat) : Int) := ⟨_, rfl⟩
      rw [← htc] at q3
      have HS := Lib.hid hset
      clear hta htb htc hset
      go_wp2_with fail
      go_roundw
      case rel => exact ⟨t + 1, by omega, by go_num, HS.out⟩
      case measure => simp [intOf]; omega
    · have ht6 : t = 256 := by omega
      have hm := HT.out
      rw [ht6] at hm
      have hin := map_in H.out.1 H.out.2.2.1 hm.bel
      have hld := loadB_run 26 hm.box.range (.inl rfl) (by rw [dVals_len]; rfl)
      obtain ⟨ds1, hds1⟩ : ∃ ds1, ds1 = (dVals (mixF D tf 256) (.slice A1 n c1) (.slice A2 n2 c2)).toArray := ⟨_, rfl⟩
      rw [← hds1] at hin hld
      have HD := Lib.hid (And.intro hm hin)
      clear hds1 hin hm ht6
      go_wp2_with fail
      refine (least_right ds1 A1 A2 n n2 c1 c2 (mapD D tf) RA rc wr HD.out.2 (H.out.2.1.map H.out.2.2.1)).mono ?_
      rintro e w15 ⟨ds', Ax, cx, Ay, cy, k, RA', rc', M, rfl, hdf, hlo, hb15⟩
      have hr6 := HD.out.1.r.below hb15 HD.out.1.r.lt
      have hone := cells_one hdf.here.cells
      have hsz := hdf.here.cells.size
      have hst := storeB_run 26 hr6 (.inl rfl) ds' (by rw [zs26_cells, dCells_len]; rfl) (by rw [hsz]; rfl) hone
      have hbk := hr6.row ds'
      have hbe := below_setRow (g := w.heap.size + 1 + 1) (HD.out.1.bel.trans (hb15.mono HD.out.1.bel.size)) (by omega) ds'
      have hdf2 := hdf.but (B' := w) HD.out.1.bel.size (but_setRow w15 (w.heap.size + 1 + 1) ds') (fun x hx => by
        have := HD.out.1.r.lt
        omega)
      have HZ := Lib.hid (And.intro hbk (And.intro hbe (And.intro hdf2 (And.intro hsz hlo))))
      clear hr6 hone hsz hbk hbe hdf2 hdf hb15 hlo hld
      go_wp2_with fail
      (try simp only [Exit.inBlock, Exit.then])
      refine bodyPost_ret (results_cell_row2 rfl _ _ (w.heap.size + 1 + 1) ds' rfl (by
        have h9 := run_loadVar_row _ (w.heap.size + 1 + 1) 26 26 ds'.toList.toArray (0, 0) _ HZ.out.1 Try.underlying26 rfl (by rw [List.size_toArray, Array.length_toList, HZ.out.2.2.2.1]; exact info26)
        simpa using h9)) rfl ?_
      exact ⟨ds', Ax, cx, Ay, cy, k, RA', rc', M, rfl, HZ.out.2.2.1, HZ.out.2.2.2.2, HZ.out.2.1⟩
set_option maxRecDepth 100000 in
set_option maxHeartbeats 8000000 in
theorem rmap_any (ds : Array Value) (A1 A2 : Option Addr) (n n2 c1 c2 : Nat) (D : Dfa) (RA : Nat → Option Addr) (rc : Nat → Nat) (tf : Nat → Nat) (w : World) (h : DfaIn w ds A1 A2 n n2 c1 c2 D RA rc) (hr : RightD D) (ht : ∀ b, b < 256 → tf b < 256) :
    Calls Try.prog 14 #[.agg ds, .agg (clsV tf).toArray] w fun e w' => RLeastPost (mapD D tf) w e w' := by
  have hds := h.cells.size
  obtain ⟨tv, htv⟩ : ∃ tv, tv = (clsV tf).toArray := ⟨_, rfl⟩
  rw [← htv]
  have b1 := ((blk_alloc w 26 ds).alloc (.cells tv 22)).alloc (.cells zs26 26)
  have b2 := (blk_alloc (w.alloc (.cells ds 26)) 22 tv).alloc (.cells zs26 26)
  have b3 := blk_alloc ((w.alloc (.cells ds 26)).alloc (.cells tv 22)) 26 zs26
  rw [World.size_alloc, World.size_alloc] at b3
  rw [World.size_alloc] at b2
  have hbl : Below w.heap.size w (((w.alloc (.cells ds 26)).alloc (.cells tv 22)).alloc (.cells zs26 26)) := (((Below.refl _ _).alloc (Nat.le_refl _) _).alloc (by simp) _).alloc (by simp; omega) _
  have H := Lib.hid (And.intro h (And.intro hr (And.intro ht (And.intro hbl (And.intro b1 (And.intro b2 b3))))))
  have hz26 := zeroV26
  have HTV := Lib.hid htv
  clear h hr b1 b2 b3 hbl ht htv
  go_enter Try.func14, Try.ntmps14
  go_upto_region 1 with (fail)
  generalize ((w.alloc (.cells ds 26)).alloc (.cells tv 22)).alloc (.cells zs26 26) = w2 at H ⊢
  clear hz26
  have b1 := H.out.2.2.2.2.1
  have b2 := H.out.2.2.2.2.2.1
  have b3 := H.out.2.2.2.2.2.2
  have hbl := H.out.2.2.2.1
  have hl22 := cls_load b1 H.out.1.cells
  have hz22 := zeroV22
  have hb0 := blk_alloc w2 22 zs22
  have hst := storeB_run 22 hb0 (by simp) (clsV D.cls).toArray (by rw [Array.length_toList, zs22_len]; rfl) (by rw [List.size_toArray, clsV_len]; rfl) (clsV_one _)
  have hb6 := hb0.row (clsV D.cls).toArray
  have hb9 : Below w2.heap.size w2 ((w2.alloc (.cells zs22 22)).setRow w2.heap.size (clsV D.cls).toArray) := below_setRow ((Below.refl _ _).alloc (Nat.le_refl _) _) (Nat.le_refl _) _
  rw [List.toList_toArray] at hb6
  obtain ⟨cv, hcv⟩ : ∃ cv, cv = (clsV D.cls).toArray := ⟨_, rfl⟩
  rw [← hcv] at hl22 hst hb6 hb9
  have hms := MapW.start (D := D) (tf := tf) (hbl.trans (hb9.mono hbl.size)) (by rw [← dVals_of H.out.1.cells]; exact b1.below hb9 b1.lt) (by have h9 := b2.below hb9 b2.lt; rw [HTV.out, List.toList_toArray] at h9; exact h9) (b3.below hb9 b3.lt) hb6 b3.lt
  have HM := Lib.hid hms
  clear b1 b2 b3 hbl hb0 hb6 hb9 hms hcv
  go_upto_region 2 with (fail)
  clear hl22 hz22 hst
  obtain ⟨g6, hg6⟩ : ∃ g6, g6 = w2.heap.size := ⟨_, rfl⟩
  rw [← hg6] at HM ⊢
  clear hg6
  generalize (w2.alloc (.cells zs22 22)).setRow g6 cv = w3 at HM ⊢
  go_wp2_with fail
  go_loopw [6] (fun i wr => ∃ t : Nat, t ≤ 256 ∧ i = .int .i64 t ∧ MapW w wr g6 D tf t (.slice A1 n c1) (.slice A2 n2 c2)) (fun i _ => 256 - (intOf i).toNat)
  case atStart => exact ⟨0, by omega, rfl, HM.out⟩
  case round =>
    obtain ⟨t, ht, rfl, hm⟩ := hrel
    have HT := Lib.hid hm
    clear hm
    by_cases htl : t < 256
    · have q1 := HT.out.tob.cell t
      rw [clsV_get _ htl] at q1
      have htf := H.out.2.2.1 t htl
      have q2 := HT.out.cl.cell (tf t)
      rw [clsV_get _ htf] at q2
      have q3 := HT.out.box.cell t
      rw [dVals_get _ _ _ htl] at q3
      have q4 := HT.out.box.frozen t
      have hset := HT.out.set htl
      obtain ⟨ta, hta⟩ : ∃ ta, ta = tf t := ⟨_, rfl⟩
      rw [← hta] at q1 q2 htf hset
      obtain ⟨tb, htb⟩ : ∃ tb, tb = D.cls ta := ⟨_, rfl⟩
      rw [← htb] at q2 hset
      obtain ⟨tc, htc⟩ : ∃ tc : Int, tc = ((mixF D tf t t : Nat) : Int) := ⟨_, rfl⟩
      rw [← htc] at q3
      have HS := Lib.hid hset
      clear hta htb htc hset
      go_wp2_with fail
      go_roundw
      case rel => exact ⟨t + 1, by omega, by go_num, HS.out⟩
      case measure => simp [intOf]; omega
    · have ht6 : t = 256 := by omega
      have hm := HT.out
      rw [ht6] at hm
      have hin := map_in H.out.1 H.out.2.2.1 hm.bel
      have hld := loadB_run 26 hm.box.range (.inl rfl) (by rw [dVals_len]; rfl)
      obtain ⟨ds1, hds1⟩ : ∃ ds1, ds1 = (dVals (mixF D tf 256) (.slice A1 n c1) (.slice A2 n2 c2)).toArray := ⟨_, rfl⟩
      rw [← hds1] at hin hld
      have HD := Lib.hid (And.intro hm hin)
      clear hds1 hin hm ht6
      go_wp2_with fail
      refine (rleast_any ds1 A1 A2 n n2 c1 c2 (mapD D tf) RA rc wr HD.out.2 (H.out.2.1.map H.out.2.2.1)).mono ?_
      rintro e w15 ⟨ds', Ax, cx, Ay, cy, k, RA', rc', M, rfl, hdf, hlo, hb15⟩
      have hr6 := HD.out.1.r.below hb15 HD.out.1.r.lt
      have hone := cells_one hdf.here.cells
      have hsz := hdf.here.cells.size
      have hst := storeB_run 26 hr6 (.inl rfl) ds' (by rw [zs26_cells, dCells_len]; rfl) (by rw [hsz]; rfl) hone
      have hbk := hr6.row ds'
      have hbe := below_setRow (g := w.heap.size + 1 + 1) (HD.out.1.bel.trans (hb15.mono HD.out.1.bel.size)) (by omega) ds'
      have hdf2 := hdf.but (B' := w) HD.out.1.bel.size (but_setRow w15 (w.heap.size + 1 + 1) ds') (fun x hx => by
        have := HD.out.1.r.lt
        omega)
      have HZ := Lib.hid (And.intro hbk (And.intro hbe (And.intro hdf2 (And.intro hsz hlo))))
      clear hr6 hone hsz hbk hbe hdf2 hdf hb15 hlo hld
      go_wp2_with fail
      (try simp only [Exit.inBlock, Exit.then])
      refine bodyPost_ret (results_cell_row rfl _ _ (w.heap.size + 1 + 1) 26 ds'.toList.toArray (0, 0) _ rfl HZ.out.1 Try.underlying26 rfl (by rw [List.size_toArray, Array.length_toList, HZ.out.2.2.2.1]; exact info26)) rfl ?_
      exact ⟨ds', Ax, cx, Ay, cy, k, RA', rc', M, by simp, HZ.out.2.2.1, HZ.out.2.2.2.2, HZ.out.2.1⟩
end Go.Proofs.Ytiaigdedkdeeoaa
