/- The reference's bytes; few. -/
import Derived.Test.YtiaigdedkdeeoaaMiGo
namespace Go.Proofs.Ytiaigdedkdeeoaa
open Go.RowKit

def nxL (A : Aut) (i k : Nat) : List Int := (List.range k).map (fun b => A.nx i b)
theorem nxL_succ (A : Aut) (i k : Nat) : nxL A i (k + 1) = nxL A i k ++ [A.nx i k] := by unfold nxL; rw [List.range_succ, List.map_append]; rfl
set_option maxRecDepth 100000 in
set_option maxHeartbeats 8000000 in
theorem few_any (ds : Array Value) (A1 A2 : Option Addr) (n n2 c1 c2 : Nat) (cls : Nat → Nat) (w : World) (h : Cells ds A1 A2 n n2 c1 c2 cls) :
    Calls Try.prog 10 #[.agg ds] w fun e w' => e = .returned (.bool (decide (n ≤ 40))) ∧ Below w.heap.size w w' := by
  obtain ⟨q1, -, -, -, -⟩ := kept_cell (w := w) (t := 26) (Below.refl _ _) h
  have hb : Below w.heap.size w (w.alloc (.cells ds 26)) := (Below.refl _ _).alloc (Nat.le_refl _) _
  have HB := Lib.hid hb
  clear hb h
  obtain ⟨bb, hbb⟩ : ∃ bb, bb = decide (n ≤ 40) := ⟨_, rfl⟩
  have d1 : decide ((n : Int) ≤ 40) = bb := by rw [hbb]; exact decide_eq_decide.2 (by omega)
  rw [← hbb]
  clear hbb
  go_enter Try.func10, Try.ntmps10
  go_wp2_with fail
  go_returns
  exact ⟨by first | rfl | simp, HB.out⟩
set_option maxRecDepth 100000 in
set_option maxHeartbeats 8000000 in
theorem bytes_any (ds : Array Value) (A1 A2 : Option Addr) (n n2 c1 c2 : Nat) (D : Dfa) (RA : Nat → Option Addr) (rc : Nat → Nat) (i : Nat) (w : World) (h : DfaIn w ds A1 A2 n n2 c1 c2 D RA rc) (hr : RightD D) (hi : i < n) :
    Calls Try.prog 32 #[.agg ds, .int .i64 (i : Int)] w fun e w' => ∃ v, e = .returned v ∧ w'.ownsRow w.heap.size 3 1 v 256 (numsV .i64 (nxL (autOf D) i 256)) ∧ Below w.heap.size w w' := by
  obtain ⟨i3, hi3, hz3, hsz3, hbt3⟩ := info_parts info3
  have hb0 := Blk.new w 26 ds.toList
  have hbox : Blk (w.alloc (.cells ds 26)) w.heap.size 26 ds.toList := by simpa using hb0
  have hbl : Below w.heap.size w (w.alloc (.cells ds 26)) := (Below.refl _ _).alloc (Nat.le_refl _) _
  have hln := h.next.len
  have hmy := hr.mhi
  have H := Lib.hid (And.intro h (And.intro hr (And.intro hbox hbl)))
  clear h hr hb0 hbox hbl
  go_enter Try.func32, Try.ntmps32
  go_wp2_with fail
  have hown0 : ((w.alloc (.cells ds 26)).alloc (.cells #[] 3)).ownsRow (w.heap.size + 1) 3 1 (.slice (some ⟨w.heap.size + 1, 0, none⟩) 0 0) 0 (numsV .i64 (nxL (autOf D) i 0)) := by
    have := heap_alloc_new (w.alloc (.cells ds 26)) (.cells #[] 3)
    rw [World.size_alloc] at this
    exact ⟨rfl, .inr ⟨w.heap.size + 1, 0, #[], rfl, Nat.le_refl _, this, Nat.le_refl _, by simp [maxLen], rfl, rfl⟩⟩
  have hb1 : Below (w.heap.size + 1) (w.alloc (.cells ds 26)) ((w.alloc (.cells ds 26)).alloc (.cells #[] 3)) := (Below.refl _ _).alloc (by simp) _
  have HO := Lib.hid (And.intro hown0 hb1)
  clear hown0 hb1
  obtain ⟨wa, hwa⟩ : ∃ wa : World, wa = w.alloc (.cells ds 26) := ⟨_, rfl⟩
  rw [← hwa] at HO H ⊢
  have hsz : wa.heap.size = w.heap.size + 1 := by rw [hwa]; simp
  clear hwa
  go_loopw [5, 6] (fun v j wr => ∃ (k : Nat) (A : Option Addr) (c : Nat), k ≤ 256 ∧ v = .slice A k c ∧ j = .int .i64 k ∧ Below (w.heap.size + 1) wa wr ∧ wr.ownsRow (w.heap.size + 1) 3 1 (.slice A k c) k (numsV .i64 (nxL (autOf D) i k))) (fun _ j _ => 256 - (intOf j).toNat)
  case atStart => exact ⟨0, _, _, by omega, rfl, rfl, HO.out.2, HO.out.1⟩
  case round =>
    obtain ⟨k, A, c, hk, rfl, rfl, hb, hown⟩ := hrel
    have HT := Lib.hid (And.intro hb hown)
    clear hb hown HO
    by_cases hlt : k < 256
    · have hbw : Below w.heap.size w wr := H.out.2.2.2.trans (HT.out.1.mono (by omega))
      have hbx := H.out.2.2.1.below HT.out.1 (by omega)
      have q0 := hbx.cell k
      have q1 := hbx.cell 256
      rw [show ds.toList[k]? = ds[k]? by simp, H.out.1.cells.cl k hlt] at q0
      rw [show ds.toList[256]? = ds[256]? by simp, H.out.1.cells.nx] at q1
      obtain ⟨b1, o1, e1, hbb1, hc1⟩ := H.out.1.next.arr.one hi
      subst e1
      unfold RowC at hc1
      have hc1 := (hbw.cell (p := ⟨b1, o1 + i, none⟩) hbb1).trans hc1
      have hrw := (H.out.2.1.row (i := i) (by rw [hln]; exact hi)).1
      have hcl := H.out.2.1.cl hlt
      obtain ⟨b2, o2, e2, hbb2, hc2⟩ := (H.out.1.next.row i hi).one (k := D.cls k) (by rw [hrw]; exact hcl)
      rw [hrw, e2] at hc1
      unfold NumC at hc2
      have hc2 := (hbw.cell (p := ⟨b2, o2 + D.cls k, none⟩) hbb2).trans hc2
      obtain ⟨x, hx⟩ : ∃ x, x = (D.next.getD i []).getD (D.cls k) 0 := ⟨_, rfl⟩
      rw [← hx] at hc2
      obtain ⟨cc, hcc⟩ : ∃ cc, cc = D.cls k := ⟨_, rfl⟩
      obtain ⟨mm, hmm⟩ : ∃ mm, mm = D.many := ⟨_, rfl⟩
      rw [← hcc] at q0 hc2 hcl
      rw [← hmm] at hc1 hcl hmy
      have d0 : wr.drew.cell? ⟨w.heap.size, k, none⟩ = some (.int .u8 (cc : Int)) := q0
      have d1 : wr.drew.cell? ⟨w.heap.size, 256, none⟩ = some (.slice (some ⟨b1, o1, none⟩) n c1) := q1
      have d2 : wr.drew.cell? ⟨b1, o1 + i, none⟩ = some (.slice (some ⟨b2, o2, none⟩) mm (rc i)) := hc1
      have d3 : wr.drew.cell? ⟨b2, o2 + cc, none⟩ = some (.int .i64 x) := hc2
      have HX := Lib.hid (And.intro hx (And.intro hcc hmm))
      have y1 : (k + 1) * 8 ≤ 140737488355328 := by omega
      have y2 : k + 1 ≤ maxLen := by unfold maxLen; omega
      have y3 : ∀ v ∈ [Value.int .i64 x], v.oneCell' = true := by intro v hv9; simp at hv9; rw [hv9]; rfl
      have hsz2 := HT.out.1.size
      clear hx hcc hmm hrw e2 hbx hbw
      go_wp2_with fail
      go_region_law (first
        | (refine step_append_lies _ rfl (.tmp 12) (.tmp 24) 34 rfl (w.heap.size + 1) 3 i3 (.int .i64 0) 1 8 Try.underlying34 hi3 hz3 hsz3 hbt3 rfl (by decide) (.slice A k c) k (numsV .i64 (nxL (autOf D) i k)) (by rfl) ?_ ⟨_, 0, none⟩ 1 1 [.int .i64 x] (by rfl) rfl (World.news_of_block (cs := #[.int .i64 x]) (t := 3) (fr := (0, 0)) ?_) y3 (by decide) y2 y1 ?_ _ rfl ?_
           · exact own_kept HT.out.2 (((Below.refl _ _).alloc (Nat.le_refl _) _).drew)
           · exact heap_alloc_new _ _
           · show w.heap.size + 1 ≤ (wr.alloc _).heap.size
             simp; omega
           intro g5 c5 w5 hown5 hg5 hat5 hlt5))
      all_goals
        have H5 := Lib.hid (And.intro hown5 hg5)
        clear hown5 hg5 hat5 hlt5
        go_wp2_with fail
        go_roundw
        case rel => exact ⟨k + 1, _, c5, by omega, rfl, by go_num, ((HT.out.1.alloc (by omega) _).drew).grown H5.out.2 (by show w.heap.size + 1 ≤ (wr.alloc _).heap.size; simp; omega) (fun j hj => (HT.out.2.lt j hj).1), by
          rw [nxL_succ, numsV_snoc]
          have hx9 : (autOf D).nx i k = x := HX.out.1.symm
          rw [hx9]
          exact H5.out.1⟩
        case measure => simp [intOf]; omega
    · obtain rfl : k = 256 := by omega
      go_wp2_with fail
      go_returns
      exact ⟨_, rfl, own_less HT.out.2 (by omega), H.out.2.2.2.trans (HT.out.1.mono (by omega))⟩
end Go.Proofs.Ytiaigdedkdeeoaa
