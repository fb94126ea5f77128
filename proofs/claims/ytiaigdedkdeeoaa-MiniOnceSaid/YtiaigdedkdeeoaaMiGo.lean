/- mini.going. -/
import Derived.Test.YtiaigdedkdeeoaaMiGo0
import Derived.Deep.AppendLies
namespace Go.Proofs.Ytiaigdedkdeeoaa
open Go.RowKit Go.Maps Go.WideMaps

def zs58 : Array Value := (List.replicate 256 (Value.bool false)).toArray
theorem zeros58 : zs58 = (List.replicate 256 (Value.bool false)).toArray := rfl
set_option maxRecDepth 100000 in
theorem zeroV58 (W : World) : (zeroValue 58).run Try.prog W = .ok (.agg zs58) W := by kernel_rfl
/-- what stays while rows are cut down -/
structure GoW (w W : World) (ds : Array Value) (us : List Bool) : Prop where
  bel : Below w.heap.size w W
  box : Blk W w.heap.size 26 ds.toList
  ub : Blk W (w.heap.size + 1) 58 (us.map Value.bool)
section
variable {w W W' : World} {ds : Array Value} {us : List Bool}
theorem GoW.lt (h : GoW w W ds us) : w.heap.size + 1 < W.heap.size := h.ub.lt
theorem GoW.goB (h : GoW w W ds us) {B : Nat} (hB : w.heap.size + 1 < B) (hb : Below B W W') : GoW w W' ds us :=
  ⟨h.bel.trans (hb.mono (by omega)), h.box.below hb (by omega), h.ub.below hb hB⟩
theorem GoW.start (w : World) (ds : Array Value) : GoW w ((w.alloc (.cells ds 26)).alloc (.cells zs58 58)) ds (List.replicate 256 false) := by
  refine ⟨((Below.refl _ _).alloc (Nat.le_refl _) _).alloc (by simp) _, ?_, ?_⟩
  · have := (Blk.new w 26 ds.toList).alloc (.cells zs58 58)
    simpa using this
  · have h := Blk.new (w.alloc (.cells ds 26)) 58 ((List.replicate 256 false).map Value.bool)
    rw [World.size_alloc, List.map_replicate, ← zeros58] at h
    rw [List.map_replicate]; exact h
theorem GoW.set (h : GoW w W ds us) (c : Nat) : GoW w (W.setCell ⟨w.heap.size + 1, c, none⟩ (.bool true)) ds (us.set c true) :=
  have hb := but_setCell W (w.heap.size + 1) c (.bool true)
  ⟨h.bel.setCell (p := ⟨w.heap.size + 1, c, none⟩) (Nat.le_succ _) _, hb.blk h.box (by omega), by rw [List.map_set]; exact h.ub.set c _⟩
theorem GoW.alloc (h : GoW w W ds us) (o : Obj) : GoW w (W.alloc o) ds us := h.goB h.lt ((Below.refl _ _).alloc (Nat.le_refl _) _)
/-- a row has grown and is stored again -/
theorem GoW.row {gb n : Nat} {V : Nat → Value} {ls : List (List Int)} (h : GoW w W ds us) (hr : RowsW W w.heap.size gb n V ls) (hgb : w.heap.size ≤ gb) {j : Nat} (hj : j < n) (hg : W.grownBy W' (V j).ownBlock) (v : Value) : GoW w (W'.setCell ⟨gb, j, none⟩ v) ds us := by
  have hb := But.of_grown hg
  have hs := but_setCell W' gb j v
  have hbl := h.bel.trans (hb.below h.bel.size (fun k e => ((hr.own j hj).lt k e).1))
  have hg2 : Blk W' gb 34 _ := hb.blk hr.blk (fun e => hr.nb hj e)
  have b1 := hb.blk h.box (fun e => blk_own_ne h.box (hr.own j hj) (by decide) e)
  have b2 := hb.blk h.ub (fun e => blk_own_ne h.ub (hr.own j hj) (by decide) e)
  exact ⟨hbl.setCell (p := ⟨gb, j, none⟩) hgb v, hs.blk b1 (fun e => blk_ne b1 hg2 (by decide) e), hs.blk b2 (fun e => blk_ne b2 hg2 (by decide) e)⟩
end
/-- an append of one number to a row -/
theorem app_facts {W W2 : World} {base gb n : Nat} {V : Nat → Value} {ls : List (List Int)} (hr : RowsW W base gb n V ls) {j : Nat} (hj : j < n) (hg : W.grownBy W2 (V j).ownBlock) : Blk W2 gb 34 ((List.range n).map V) := (But.of_grown hg).blk hr.blk (fun e => hr.nb hj e)
set_option maxRecDepth 100000 in
set_option maxHeartbeats 8000000 in
theorem going_any (ds : Array Value) (A1 A2 : Option Addr) (n n2 c1 c2 : Nat) (D : Dfa) (RA : Nat → Option Addr) (rc : Nat → Nat) (w : World) (h : DfaIn w ds A1 A2 n n2 c1 c2 D RA rc) (hr : RightD D) :
    Calls Try.prog 19 #[.agg ds] w fun e w' => ∃ gb V ls u, e = .returned (.slice (some ⟨gb, 0, none⟩) n n) ∧ RowsW w' w.heap.size gb n V ls ∧ w.heap.size ≤ gb ∧ Going (autOf D) ls u ∧ u ≤ 256 ∧ Below w.heap.size w w' := by
  have hln := h.next.len
  have hn4 := hr.hi
  have hn1 := hr.lo
  rw [hln] at hn4 hn1
  have hmk := make_one 23 34 (.slice none 0 0) 24 Try.underlying23 info34 rfl n (by omega) (by omega)
  obtain ⟨i3, hi3, hz3, hsz3, hbt3⟩ := info_parts info3
  have hclt := h.cells.lt
  have HI := Lib.hid (fun k hk W => index_cls h.cells k hk W)
  have H := Lib.hid h
  have HR := Lib.hid hr
  have hds := h.cells.size
  clear h hr
  go_enter Try.func19, Try.ntmps19
  have hl256 : (ds.toList.take 256).length = 256 := by simp [hds]
  have G0 := Lib.hid (GoW.start w ds)
  obtain ⟨ls, hls⟩ : ∃ ls, ls = ds.toList.take 256 := ⟨_, rfl⟩
  have q32 : ((w.alloc (.cells ds 26)).alloc (.cells zs58 58)).rangeAt w.heap.size 0 (ds.toList.take 256) := fun j v hv => by
    rw [Nat.zero_add, G0.out.box.cell]
    rw [List.getElem?_take] at hv
    split at hv
    · rw [← hv]
    · cases hv
  rw [← hls] at HI q32 hl256
  have hinf : (Try.prog.info? 22).map (·.size) = some ls.length := by rw [hl256]; exact info22
  have HINF := Lib.hid hinf
  have HR32 := Lib.hid q32
  clear hls hinf q32 hl256
  have hz58 := zeroV58
  go_wp2_with (first | (refine wpList_load_mid rfl 22 (.tmp 11) rfl w.heap.size 0 rfl ls _ HR32.out Try.underlying22 rfl HINF.out ?_))
  clear hz58
  generalize (w.alloc (.cells ds 26)).alloc (.cells zs58 58) = w1 at G0 ⊢
  clear HR32 HINF
  go_loopw [13] (fun i wr => ∃ (k : Nat) (us : List Bool), k ≤ 256 ∧ i = .int .i64 k ∧ GoW w wr ds us ∧ UsOk us D.cls k) (fun i _ => 256 - (intOf i).toNat)
  case atStart => exact ⟨0, _, by omega, rfl, G0.out, usOk_zero _⟩
  case round =>
    obtain ⟨k, us, hk, rfl, hg, hu⟩ := hrel
    have G := Lib.hid (And.intro hg hu)
    clear hg hu G0
    by_cases hlt : k < 256
    · have hix := HI.out k hlt
      have hcl := hclt k hlt
      have hst := G.out.1.set (D.cls k)
      have hus := usOk_step G.out.2 hcl
      have hfz := G.out.1.ub.frozen (D.cls k)
      have hul := G.out.2.1
      have hce := bools_cell G.out.1.ub (j := D.cls k) (by rw [hul]; exact hcl)
      obtain ⟨cc, hcc⟩ : ∃ cc, cc = D.cls k := ⟨_, rfl⟩
      rw [← hcc] at hix hcl hst hus hfz hce
      have HS := Lib.hid (And.intro hst hus)
      clear hcc hst hus
      go_wp2_with fail
      go_roundw
      case rel => exact ⟨k + 1, _, by omega, by go_num, HS.out.1, HS.out.2⟩
      case measure => simp [intOf]; omega
    · have hk256 : k = 256 := by omega
      have hus := G.out.2
      rw [hk256] at hus
      have HK := Lib.hid (And.intro hk256 hus)
      have q256 := G.out.1.box.cell 256
      rw [show ds.toList[256]? = ds[256]? by simp, H.out.cells.nx] at q256
      have q256' := cell_al q256 (.cells (Array.replicate n (.slice none 0 0)) 34)
      have hg0 := G.out.1.alloc (.cells (Array.replicate n (.slice none 0 0)) 34)
      have hr0 := RowsW.start wr w.heap.size n
      have hgb := G.out.1.bel.size
      obtain ⟨gb, hgbd⟩ : ∃ gb, gb = wr.heap.size := ⟨_, rfl⟩
      have HB := Lib.hid (And.intro hg0 hr0)
      have HGB := Lib.hid hgbd
      clear hk256 hus hg0 hr0
      go_wp2_with fail
      rw [← hgbd] at HB hgb ⊢
      clear hgbd q256 q256' hmk
      generalize wr.alloc (.cells (Array.replicate n (.slice none 0 0)) 34) = w2 at HB ⊢
      have hmw := Lib.hid (fun i hi => HR.out.row (i := i) hi)
      have hmany := HR.out.mhi
      obtain ⟨mm, hmm⟩ : ∃ mm, mm = D.many := ⟨_, rfl⟩
      rw [← hmm] at hmw hmany
      have HM := Lib.hid hmm
      clear hmm
      go_loopw [26] (fun i wr => ∃ (t : Nat) (V : Nat → Value) (ls : List (List Int)), t ≤ n ∧ i = .int .i64 t ∧ GoW w wr ds us ∧ RowsW wr w.heap.size gb n V ls ∧ (∀ i, i < t → ls.getD i [] = pick us (D.next.getD i []) mm) ∧ ∀ i, t ≤ i → ls.getD i [] = []) (fun i _ => n - (intOf i).toNat)
      case atStart => exact ⟨0, _, _, by omega, rfl, HB.out.1, HB.out.2, fun i hi => by omega, fun i _ => by rw [List.getD_eq_getElem?_getD, List.getElem?_replicate]; split <;> rfl⟩
      case round =>
        obtain ⟨t, V, ls', ht, rfl, hgo, hrw, hl1, hl2⟩ := hrel
        have HX := Lib.hid (And.intro hgo (And.intro hrw (And.intro hl1 hl2)))
        clear hgo hrw hl1 hl2 HB
        by_cases htl : t < n
        · obtain ⟨b0, o0, e9, hb0, hc0⟩ := H.out.next.arr.one htl
          obtain ⟨hw0, hwv⟩ := hmw.out t (by rw [hln]; exact htl)
          unfold RowC at hc0
          rw [hw0] at hc0
          subst e9
          have hc0 := (HX.out.1.bel.cell (p := ⟨b0, o0 + t, none⟩) hb0).trans hc0
          have HWV := Lib.hid hwv
          have HW0 := Lib.hid hw0
          clear hwv hw0
          go_wp2_with fail
          go_loopw [33] (fun i wr => ∃ (c : Nat) (V : Nat → Value) (ls : List (List Int)), c ≤ mm ∧ i = .int .i64 c ∧ GoW w wr ds us ∧ RowsW wr w.heap.size gb n V ls ∧ (∀ i, i < t → ls.getD i [] = pick us (D.next.getD i []) mm) ∧ (∀ i, t + 1 ≤ i → ls.getD i [] = []) ∧ ls.getD t [] = pick us (D.next.getD t []) c) (fun i _ => mm - (intOf i).toNat)
          case atStart => exact ⟨0, V, ls', by omega, rfl, HX.out.1, HX.out.2.1, HX.out.2.2.1, fun i hi => HX.out.2.2.2 i (by omega), HX.out.2.2.2 t (Nat.le_refl _)⟩
          case round =>
            obtain ⟨c, V', ls2, hc, rfl, hgo, hrw, hl1, hl2, hl3⟩ := hrel
            have HY := Lib.hid (And.intro hgo (And.intro hrw (And.intro hl1 (And.intro hl2 hl3))))
            clear hgo hrw hl1 hl2 hl3 HX
            by_cases hcl : c < mm
            · obtain ⟨b1, o1, hra, hb1, hc1⟩ := (H.out.next.row t htl).one (k := c) (by rw [HW0.out]; exact hcl)
              unfold NumC at hc1
              have hc1 := (HY.out.1.bel.cell (p := ⟨b1, o1 + c, none⟩) hb1).trans hc1
              have hub := bools_cell HY.out.1.ub (j := c) (by rw [HK.out.2.1]; omega)
              have hps := pick_succ us (D.next.getD t []) c
              obtain ⟨x, hx⟩ : ∃ x, x = (D.next.getD t []).getD c 0 := ⟨_, rfl⟩
              obtain ⟨bu, hbu⟩ : ∃ bu, bu = us.getD c false := ⟨_, rfl⟩
              rw [← hx] at hc1 hps
              rw [← hbu] at hub hps
              rw [← HY.out.2.2.2.2] at hps
              have HPS := Lib.hid hps
              clear hx hbu hps
              rw [hra]
              cases bu with
              | false =>
                go_wp2_with fail
                go_roundw
                case rel => exact ⟨c + 1, V', ls2, by omega, by go_num, HY.out.1, HY.out.2.1, HY.out.2.2.1, HY.out.2.2.2.1, by rw [HPS.out]; rfl⟩
                case measure => simp [intOf]; omega
              | true =>
                obtain ⟨A', c', hv⟩ := own_sl (HY.out.2.1.own t htl)
                have hlen : (ls2.getD t []).length ≤ 256 := by
                  rw [HY.out.2.2.2.2, pick_len]
                  have := cntU_le (us := us) c
                  omega
                have hvc := HY.out.2.1.cell htl
                have hown := HY.out.2.1.own t htl
                obtain ⟨li, hli⟩ : ∃ li, li = ls2.getD t [] := ⟨_, rfl⟩
                rw [← hli] at hv hlen hown HPS
                obtain ⟨m, hm⟩ : ∃ m, m = li.length := ⟨_, rfl⟩
                rw [← hm] at hv hlen hown
                rw [hv] at hvc hown
                have hw3 := HY.out.2.1.go ((Below.refl _ _).alloc (Nat.le_refl _) (.cells #[.int .i64 x] 3))
                have hg3 := HY.out.1.alloc (.cells #[.int .i64 x] 3)
                have hz9 : ∀ W : World, W.heap.size = W.heap.size := fun _ => rfl
                have HZ := Lib.hid (And.intro hw3 (And.intro hg3 (And.intro hv (And.intro hli hm))))
                have hown3 := own_kept hown ((Below.refl _ _).alloc (Nat.le_refl _) (.cells #[.int .i64 x] 3))
                have y1 : (m + 1) * 8 ≤ 140737488355328 := by omega
                have y2 : m + 1 ≤ maxLen := by unfold maxLen; omega
                have y3 : ∀ v ∈ [Value.int .i64 x], v.oneCell' = true := by intro v hv9; simp at hv9; rw [hv9]; rfl
                have y4 : w.heap.size ≤ (wr.alloc (.cells #[.int .i64 x] 3)).heap.size := hg3.bel.size
                clear hw3 hg3 hv hli hm hz9 hown
                go_wp2_with (first | (at_builtin; refine wpList_append_lies _ rfl (.tmp 46) (.tmp 48) 34 rfl w.heap.size 3 i3 (.int .i64 0) 1 8 Try.underlying34 hi3 hz3 hsz3 hbt3 rfl (by decide) (.slice A' m c') m (numsV .i64 li) rfl hown3 ⟨_, 0, none⟩ 1 1 [.int .i64 x] rfl rfl (World.news_of_block (heap_alloc_new _ _)) y3 (by decide) y2 y1 y4 _ rfl ?_; intro g2 cap2 w3 hown4 hg4 hat4 hlt4; have hbk4 := app_facts HZ.out.1 htl (by rw [HZ.out.2.2.1]; exact hg4); have hfz4 := hbk4.frozen t; have hce4 := hbk4.cell t; rw [List.getElem?_map, List.getElem?_range htl] at hce4))
                have H4 := Lib.hid (And.intro hown4 (And.intro hg4 hat4))
                clear hown4 hg4 hat4 hbk4 hlt4
                go_roundw
                case rel =>
                  have hl9 : (li ++ [x]).length = m + 1 := by rw [List.length_append, ← HZ.out.2.2.2.2]; rfl
                  have hr9 := HZ.out.1.app htl (l := li ++ [x]) (v := .slice (some ⟨g2, 0, none⟩) (m + 1) cap2) (g := g2) (W' := w3) (by rw [hl9, numsV_snoc]; exact H4.out.1) rfl (by rw [HZ.out.2.2.1]; exact H4.out.2.1) (by
                    rw [HZ.out.2.2.1]
                    rcases H4.out.2.2 with h9 | h9
                    · exact .inl h9
                    · exact .inr (by rw [h9]; exact Nat.le_refl _))
                  refine ⟨c + 1, _, _, by omega, by go_num, HZ.out.2.1.row HZ.out.1 hgb htl (by rw [HZ.out.2.2.1]; exact H4.out.2.1) _, hr9, fun i hi => ?_, fun i hi => ?_, ?_⟩
                  · rw [getD_set1 _ (by rw [HY.out.2.1.len]; exact htl), if_neg (by omega)]; exact HY.out.2.2.1 i hi
                  · rw [getD_set1 _ (by rw [HY.out.2.1.len]; exact htl), if_neg (by omega)]; exact HY.out.2.2.2.1 i hi
                  · rw [getD_set1 _ (by rw [HY.out.2.1.len]; exact htl), if_pos rfl, HPS.out]; rfl
                case measure => simp [intOf]; omega
            · obtain rfl : c = mm := by omega
              go_wp2_with fail
              go_roundw
              case rel => exact ⟨t + 1, V', ls2, by omega, by go_num, HY.out.1, HY.out.2.1, fun i hi => by
                  by_cases e : i = t
                  · subst e; exact HY.out.2.2.2.2
                  · exact HY.out.2.2.1 i (by omega), HY.out.2.2.2.1⟩
              case measure => simp [intOf]; omega
        · obtain rfl : t = n := by omega
          go_wp2_with fail
          go_returns
          exact ⟨gb, V, ls', cntU us D.many, rfl, HX.out.2.1, hgb, going_of HR.out HK.out.2 (by rw [HX.out.2.1.len, hln]) (fun i hi => by rw [← HM.out]; exact HX.out.2.2.1 i (by rw [← hln]; exact hi)), by rw [← HM.out]; have := cntU_le (us := us) mm; omega, HX.out.1.bel⟩
end Go.Proofs.Ytiaigdedkdeeoaa
