/- The reference's apart. -/
import Derived.Test.YtiaigdedkdeeoaaRfA0
namespace Go.Proofs.Ytiaigdedkdeeoaa
open Go.RowKit Go.Maps Go.WideMaps
attribute [local go_sem ↓] load_26

/-- what the call hands back -/
def ApartPost (D : Dfa) (n : Nat) (w : World) (e : Ending) (w' : World) : Prop := ∃ AT cT T RT rcT, e = .returned (.slice AT n cT) ∧ RowsIn w' AT n (T.map bitsL) RT rcT ∧ (∀ k, k < n → (T.getD k []).length = n) ∧ (∀ i j, i < n → j < n → (tb T i j = false ↔ LE (autOf D) (autOf D) i j)) ∧ Below w.heap.size w w'
set_option maxRecDepth 100000 in
set_option maxHeartbeats 8000000 in
theorem apart_any (ds : Array Value) (A1 A2 : Option Addr) (n n2 c1 c2 : Nat) (D : Dfa) (RA : Nat → Option Addr) (rc : Nat → Nat) (Al : Option Addr) (cl : Nat) (lv : List Bool) (w : World) (h : DfaIn w ds A1 A2 n n2 c1 c2 D RA rc) (hr : RightD D)
    (hl : Arr w w.heap.size 1 Al n (LvC lv)) (hlv : ∀ i, i < n → (lv.getD i false = true ↔ Live (autOf D) i)) :
    Calls Try.prog 24 #[.agg ds, .slice Al n cl] w fun e w' => ApartPost D n w e w' := by
  have hln := h.next.len
  have hal := h.alen
  have hra := hr.alen
  have hn4 := hr.hi
  have hn1 := hr.lo
  rw [hln] at hn4 hn1
  have hok := hr.aut
  have hAn : (autOf D).n = n := hln
  have hn2 : n2 = n := by omega
  subst hn2
  have hds := h.cells.size
  have hbox := blk_alloc w 26 ds
  have hbl : Below w.heap.size w (w.alloc (.cells ds 26)) := (Below.refl _ _).alloc (Nat.le_refl _) _
  have q1 := hbox.cell 256
  rw [show ds.toList[256]? = ds[256]? by simp, h.cells.nx] at q1
  obtain ⟨i34, hi34, hz34, hsz34, hbt34⟩ := info_parts info34
  have hmk := make_one 34 3 (.int .i64 0) 8 Try.underlying34 info3 rfl n2 (by omega) (by omega)
  have H := Lib.hid (And.intro h (And.intro hr (And.intro hok (And.intro hAn (And.intro hlv (And.intro hbox hbl))))))
  have HA := Lib.hid hl
  clear h hr hok hAn hlv hbox hbl hl hln hal hra
  go_enter Try.func24, Try.ntmps24
  go_wp2_with fail
  clear q1
  have hst : TabW w ((w.alloc (.cells ds 26)).alloc (.cells #[] 34)) ds n2 0 (.slice (some ⟨w.heap.size + 1, 0, none⟩) 0 0) (fun _ => 0) [] := by
    have hb := H.out.2.2.2.2.2.1.alloc (.cells #[] 34)
    have ho := heap_alloc_new (w.alloc (.cells ds 26)) (.cells #[] 34)
    rw [World.size_alloc] at ho
    exact ⟨H.out.2.2.2.2.2.2.alloc (by simp) _, hb, ⟨rfl, .inr ⟨w.heap.size + 1, 0, #[], rfl, Nat.le_refl _, ho, Nat.le_refl _, by simp [maxLen], rfl, rfl⟩⟩, rfl, fun i hi => by omega, fun i hi => by omega, fun i hi => by omega, fun i j hi => by omega⟩
  have HS := Lib.hid hst
  clear hst
  generalize (w.alloc (.cells ds 26)).alloc (.cells #[] 34) = w1 at HS ⊢
  go_loopw [6, 7] (fun v i wr => ∃ (k : Nat) (gr : Nat → Nat) (T : List (List Bool)), k ≤ n2 ∧ i = .int .i64 k ∧ TabW w wr ds n2 k v gr T ∧ ∀ p q, p < k → q < n2 → (tb T p q = true ↔ D.acc.getD p false ≠ D.acc.getD q false)) (fun _ i _ => n2 - (intOf i).toNat)
  case atStart => exact ⟨0, _, _, by omega, rfl, HS.out, fun p q hp => by omega⟩
  case round =>
    obtain ⟨k, gr, T, hk, rfl, ht, hac⟩ := hrel
    have HT := Lib.hid (And.intro ht hac)
    obtain ⟨At, ct, rfl⟩ := own_sl ht.on
    clear ht hac HS
    by_cases hlt : k < n2
    · have hb0 := Blk.new wr 3 (List.replicate n2 (Value.int .i64 0))
      have hb0 : Blk (wr.alloc (.cells (Array.replicate n2 (.int .i64 0)) 3)) wr.heap.size 3 (bitsV (List.replicate n2 false)) := by
        have e : bitsV (List.replicate n2 false) = List.replicate n2 (Value.int .i64 0) := by simp [bitsV]
        rw [e]; simpa using hb0
      have ht1 := HT.out.1.go ((Below.refl wr.heap.size wr).alloc (Nat.le_refl _) (.cells (Array.replicate n2 (.int .i64 0)) 3))
      have hgl : w.heap.size + 1 ≤ wr.heap.size := HT.out.1.box.lt
      have hgn : ∀ p, p < k → gr p ≠ wr.heap.size := fun p hp => by have := (HT.out.1.row p hp).lt; omega
      have HB := Lib.hid (And.intro hb0 (And.intro ht1 (And.intro hgl hgn)))
      clear hb0 ht1 hgl hgn
      go_wp2_with fail
      obtain ⟨g, hg⟩ : ∃ g, g = wr.heap.size := ⟨_, rfl⟩
      rw [← hg] at HB ⊢
      clear hg
      generalize wr.alloc (.cells (Array.replicate n2 (.int .i64 0)) 3) = w2 at HB ⊢
      go_loopw [26] (fun j wx => ∃ (t : Nat) (l : List Bool), t ≤ n2 ∧ j = .int .i64 t ∧ TabW w wx ds n2 k (.slice At k ct) gr T ∧ Blk wx g 3 (bitsV l) ∧ l.length = n2 ∧ ∀ q, l.getD q false = true ↔ q < t ∧ D.acc.getD k false ≠ D.acc.getD q false) (fun j _ => n2 - (intOf j).toNat)
      case atStart => exact ⟨0, _, by omega, rfl, HB.out.2.1, HB.out.1, by simp, fun q => ⟨fun h9 => (rep_false h9).elim, fun h9 => by omega⟩⟩
      case round =>
        obtain ⟨t, l, ht, rfl, htw, hbk, hll, hq⟩ := hrel
        have HL := Lib.hid (And.intro htw (And.intro hbk (And.intro hll hq)))
        clear htw hbk hll hq
        by_cases htl : t < n2
        · have q2 := HL.out.1.box.cell 257
          rw [show ds.toList[257]? = ds[257]? by simp, H.out.1.cells.ac] at q2
          obtain ⟨b1, o1, e1, hb1, hc1⟩ := H.out.1.aarr.one hlt
          obtain ⟨b2, o2, e2, hb2, hc2⟩ := H.out.1.aarr.one htl
          rw [e1] at q2 e2
          injection e2 with e2
          injection e2 with e3 e4
          subst e3
          subst e4
          unfold BoolC at hc1 hc2
          replace hc1 := (HL.out.1.bel.cell (p := ⟨b1, o1 + k, none⟩) hb1).trans hc1
          replace hc2 := (HL.out.1.bel.cell (p := ⟨b1, o1 + t, none⟩) hb2).trans hc2
          obtain ⟨x, hx⟩ : ∃ x, x = D.acc.getD k false := ⟨_, rfl⟩
          obtain ⟨y, hy⟩ : ∃ y, y = D.acc.getD t false := ⟨_, rfl⟩
          rw [← hx] at hc1
          rw [← hy] at hc2
          have hce := HL.out.2.1.cell t
          rw [bitsV_get (by rw [HL.out.2.2.1]; exact htl)] at hce
          obtain ⟨c9, hc9⟩ : ∃ c9 : Int, c9 = if l.getD t false = true then 1 else 0 := ⟨_, rfl⟩
          rw [← hc9] at hce
          have hfz := HL.out.2.1.frozen t
          have HX := Lib.hid (And.intro hx hy)
          clear hx hy e1 hb1 hb2 hc9
          go_wp2_with fail
          go_quiet (fail)
          have hqd : Below wr.heap.size wr (wr.drewN nq) := below_drewN (Below.refl _ _) nq
          have hl2 := HL.out.1.go hqd
          have hb2 := HL.out.2.1.below hqd HL.out.2.1.lt
          have hce : (wr.drewN nq).cell? ⟨g, t, none⟩ = some (.int .i64 c9) := hce
          have hfz : (wr.drewN nq).frozen? ⟨g, t, none⟩ = false := hfz
          have HM := Lib.hid (And.intro hl2 hb2)
          clear hl2 hb2 hqd hc1 hc2 q2
          generalize wr.drewN nq = w4 at HM hce hfz ⊢
          generalize hz : (!(x == y)) = z
          cases z with
          | false =>
            have hxy : x = y := by cases x <;> cases y <;> first | rfl | cases hz
            have HXY := Lib.hid hxy
            clear hxy hz
            go_wp2_with fail
            go_roundw
            case rel => exact ⟨t + 1, l, by omega, by go_num, HM.out.1, HM.out.2, HL.out.2.2.1, fun q => by
              rw [HL.out.2.2.2 q]
              constructor
              · exact fun h9 => ⟨by omega, h9.2⟩
              · intro h9
                refine ⟨?_, h9.2⟩
                by_cases e : q = t
                · subst e; exact (h9.2 (by rw [← HX.out.1, ← HX.out.2]; exact HXY.out)).elim
                · omega⟩
            case measure => simp [intOf]; omega
          | true =>
            have hxy : ¬ x = y := fun h9 => by rw [h9] at hz; cases y <;> cases hz
            have HXY := Lib.hid hxy
            clear hxy hz
            go_wp2_with fail
            go_roundw
            case rel => exact ⟨t + 1, l.set t true, by omega, by go_num, ⟨HM.out.1.bel.setCell (p := ⟨g, t, none⟩) (by have := HB.out.2.2.1; show w.heap.size ≤ g; omega) _, (but_setCell w4 g t _).blk HM.out.1.box (by have := HB.out.2.2.1; omega), (but_setCell w4 g t _).own HM.out.1.on (fun p hp e => blk_own_ne HM.out.2 HM.out.1.on (by decide) (by rw [hp, e])), HM.out.1.len, fun p hp => (but_setCell w4 g t _).blk (HM.out.1.row p hp) (HB.out.2.2.2 p hp), HM.out.1.wid, HM.out.1.ge, HM.out.1.inj⟩, by rw [bitsV_set]; exact HM.out.2.set t _, by rw [List.length_set, HL.out.2.2.1], fun q => by
              rw [getD_setL _ _ (by rw [HL.out.2.2.1]; exact htl)]
              by_cases e : q = t
              · subst e
                rw [if_pos rfl]
                exact ⟨fun _ => ⟨by omega, fun h9 => HXY.out (by rw [HX.out.1, HX.out.2]; exact h9)⟩, fun _ => rfl⟩
              · rw [if_neg e, HL.out.2.2.2 q]
                exact ⟨fun h9 => ⟨by omega, h9.2⟩, fun h9 => ⟨by omega, h9.2⟩⟩⟩
            case measure => simp [intOf]; omega
        · have htn : t = n2 := by omega
          have hta := HL.out.1.go ((Below.refl wr.heap.size wr).alloc (Nat.le_refl _) (.cells #[.slice (some ⟨g, 0, none⟩) n2 n2] 34))
          have hona := hta.on
          obtain ⟨xs, hxs⟩ : ∃ xs, xs = (List.range k).map (fun i => Value.slice (some ⟨gr i, 0, none⟩) n2 n2) := ⟨_, rfl⟩
          rw [← hxs] at hona
          have y1 : (k + 1) * 24 ≤ 140737488355328 := by omega
          have y2 : k + 1 ≤ maxLen := by unfold maxLen; omega
          have y3 : ∀ v ∈ [Value.slice (some ⟨g, 0, none⟩) n2 n2], v.oneCell' = true := by intro v hv9; simp at hv9; rw [hv9]; rfl
          have y4 : w.heap.size + 1 ≤ (wr.alloc (.cells #[.slice (some ⟨g, 0, none⟩) n2 n2] 34)).heap.size := by have := hta.box.lt; omega
          have HXS := Lib.hid hxs
          clear hxs hta
          go_wp2_with (first
            | (at_builtin; refine wpList_append_lies _ rfl (.tmp 44) (.tmp 46) 23 rfl (w.heap.size + 1) 34 i34 (.slice none 0 0) 1 24 Try.underlying23 hi34 hz34 hsz34 hbt34 rfl (by decide) (.slice At k ct) k xs rfl hona ⟨_, 0, none⟩ 1 1 [.slice (some ⟨g, 0, none⟩) n2 n2] rfl rfl (World.news_of_block (heap_alloc_new _ _)) y3 (by decide) y2 y1 y4 _ rfl ?_; intro g8 c8 w8 hown8 hg8 hat8 hlt8))
          have H8 := Lib.hid (And.intro hown8 hg8)
          clear hown8 hg8 hat8 hlt8 hona
          go_roundw
          case rel =>
            have hadd := HL.out.1.add HB.out.2.2.1 HB.out.2.2.2 HL.out.2.2.1 HL.out.2.1 (W' := w8) (v' := .slice (some ⟨g8, 0, none⟩) (k + 1) c8) (by rw [← HXS.out]; exact H8.out.1) H8.out.2
            refine ⟨k + 1, _, T ++ [l], by omega, by go_num, hadd, fun p q hp hq => ?_⟩
            unfold tb
            by_cases e : p = k
            · subst e
              have e9 : (T ++ [l]).getD p [] = l := by rw [← HL.out.1.len]; exact getD_app2
              rw [e9, HL.out.2.2.2 q]
              exact ⟨fun h9 => h9.2, fun h9 => ⟨by omega, h9⟩⟩
            · rw [getD_app1 (by rw [HL.out.1.len]; omega)]
              exact HT.out.2 p q (by omega) hq
          case measure => simp [intOf]; omega
    · obtain rfl : n2 = k := by omega
      have hti : TabI (autOf D) T := TabI.start (fun i j hi hj => by
        rw [H.out.2.2.2.1] at hi hj
        exact HT.out.2 i j hi hj)
      have HI := Lib.hid (And.intro HT.out.1 hti)
      clear hti
      go_wp2_with fail
      go_loopw [10] (fun b wr => ∃ (more : Bool) (T : List (List Bool)), b = .bool more ∧ TabW w wr ds n2 n2 (.slice At n2 ct) gr T ∧ TabI (autOf D) T ∧ (more = false → ∀ i j, i < n2 → j < n2 → tb T i j = false → ∀ b, b < 256 → ¬ Diff (autOf D) T i j b)) (fun b wr => 2 * sumZ gr n2 wr + (match b with | .bool true => 1 | _ => 0))
      case atStart => exact ⟨true, T, rfl, HI.out.1, HI.out.2, fun h9 => by cases h9⟩
      case round =>
        obtain ⟨more, T2, rfl, hw, hi, hs⟩ := hrel
        have HS := Lib.hid (And.intro hw (And.intro hi hs))
        clear hw hi hs HI HT
        cases more with
        | false =>
          go_wp2_with fail
          go_returns
          exact ⟨At, ct, T2, _, _, rfl, HS.out.1.inn hn4 hn4, HS.out.1.wid, fun i j hi hj => HS.out.2.1.done H.out.2.2.1 (fun i j hi hj => HS.out.2.2 trivial i j (by rw [← H.out.2.2.2.1]; exact hi) (by rw [← H.out.2.2.2.1]; exact hj)) (by rw [H.out.2.2.2.1]; exact hi) (by rw [H.out.2.2.2.1]; exact hj), HS.out.1.bel⟩
        | true =>
          go_wp2_with fail
          go_loopw [10, 11] (fun b i wr => ∃ (p : Nat) (more : Bool) (T : List (List Bool)), p ≤ n2 ∧ b = .bool more ∧ i = .int .i64 p ∧ TabW w wr ds n2 n2 (.slice At n2 ct) gr T ∧ TabI (autOf D) T ∧ (more = false → T = T2 ∧ ∀ i j, i < p → j < n2 → tb T i j = false → ∀ b, b < 256 → ¬ Diff (autOf D) T i j b) ∧ (more = true → falsesT T < falsesT T2)) (fun _ i _ => n2 - (intOf i).toNat)
          case atStart => exact ⟨0, false, T2, by omega, rfl, rfl, HS.out.1, HS.out.2.1, fun _ => ⟨rfl, fun i j hi => by omega⟩, fun h9 => by cases h9⟩
          case round =>
            obtain ⟨p, more, T3, hp, rfl, rfl, hw, hi, hs1, hs2⟩ := hrel
            have HP := Lib.hid (And.intro hw (And.intro hi (And.intro hs1 hs2)))
            clear hw hi hs1 hs2
            by_cases hpl : p < n2
            · go_wp2_with fail
              go_loopw [10, 12] (fun b j wr => ∃ (q : Nat) (more : Bool) (T : List (List Bool)), q ≤ n2 ∧ b = .bool more ∧ j = .int .i64 q ∧ TabW w wr ds n2 n2 (.slice At n2 ct) gr T ∧ TabI (autOf D) T ∧ (more = false → T = T2 ∧ (∀ i j, i < p → j < n2 → tb T i j = false → ∀ b, b < 256 → ¬ Diff (autOf D) T i j b) ∧ ∀ j, j < q → tb T p j = false → ∀ b, b < 256 → ¬ Diff (autOf D) T p j b) ∧ (more = true → falsesT T < falsesT T2)) (fun _ j _ => n2 - (intOf j).toNat)
              case atStart => exact ⟨0, more, T3, by omega, rfl, rfl, HP.out.1, HP.out.2.1, fun h9 => ⟨(HP.out.2.2.1 h9).1, (HP.out.2.2.1 h9).2, fun j hj => by omega⟩, HP.out.2.2.2⟩
              case round =>
                obtain ⟨q, more', T4, hq, rfl, rfl, hw, hi, hs1, hs2⟩ := hrel
                have HQ := Lib.hid (And.intro hw (And.intro hi (And.intro hs1 hs2)))
                clear hw hi hs1 hs2
                by_cases hql : q < n2
                · obtain ⟨b1, o1, e1, hb1, hc1⟩ := (HQ.out.1.inn hn4 hn4).arr.one hpl
                  unfold RowC at hc1
                  rw [bits_row, bits_len, HQ.out.1.wid p hpl] at hc1
                  replace hc1 : wr.cell? ⟨b1, o1 + p, none⟩ = some (.slice (some ⟨gr p, 0, none⟩) n2 n2) := hc1
                  have hc2 := HQ.out.1.cell hpl hql
                  obtain ⟨vb, hvb⟩ : ∃ vb, vb = tb T4 p q := ⟨_, rfl⟩
                  rw [← hvb] at hc2
                  have hfz := (HQ.out.1.row p hpl).frozen q
                  have hld := loadB_run 26 HQ.out.1.box.range (.inl rfl) (by rw [Array.length_toList, hds]; rfl)
                  rw [show ds.toList.toArray = ds by simp] at hld
                  obtain ⟨gp, hgp⟩ : ∃ gp, gp = gr p := ⟨_, rfl⟩
                  rw [← hgp] at hc1 hc2 hfz
                  have HV := Lib.hid (And.intro hvb hgp)
                  have HAt := Lib.hid e1
                  subst e1
                  clear hvb hgp hb1
                  cases vb with
                  | true =>
                    rw [show bitI true = 1 from rfl] at hc2
                    go_wp2_with fail
                    go_roundw
                    case rel => exact ⟨q + 1, more', T4, by omega, rfl, by go_num, HQ.out.1, HQ.out.2.1, fun h9 => ⟨(HQ.out.2.2.1 h9).1, (HQ.out.2.2.1 h9).2.1, lt_succ_imp (HQ.out.2.2.1 h9).2.2 (fun h8 => by rw [← HV.out.1] at h8; cases h8)⟩, HQ.out.2.2.2⟩
                    case measure => simp [intOf]; omega
                  | false =>
                    rw [show bitI false = 0 from rfl] at hc2
                    go_wp2_with fail
                    refine (differ_any ds A1 A2 n2 n2 c1 c2 D RA rc Al cl lv _ ct T4 _ _ p q wr (H.out.1.keep HQ.out.1.bel) H.out.2.1 hpl hql ((HA.out.below HQ.out.1.bel).more HQ.out.1.bel.size) H.out.2.2.2.2.1 (HQ.out.1.inn hn4 hn4) HQ.out.1.wid).mono ?_
                    rintro e w5 ⟨rfl, hb5⟩
                    obtain ⟨bd, hbd⟩ : ∃ bd, bd = diffB (autOf D) T4 p q := ⟨_, rfl⟩
                    rw [← hbd]
                    have hw5 := HQ.out.1.go hb5
                    have hc1 := (hb5.cell (p := ⟨b1, o1 + p, none⟩) (World.block_lt_of_cell? wr _ hc1)).trans hc1
                    have hc2 := (hb5.cell (p := ⟨gp, q, none⟩) (World.block_lt_of_cell? wr _ hc2)).trans hc2
                    have hfz := (hw5.row p hpl).frozen q
                    rw [← HV.out.2] at hfz
                    have HD := Lib.hid (And.intro hbd hw5)
                    clear hbd hw5 hb5
                    cases bd with
                    | false =>
                      go_wp2_with fail
                      go_roundw
                      case rel => exact ⟨q + 1, more', T4, by omega, rfl, by go_num, HD.out.2, HQ.out.2.1, fun h9 => ⟨(HQ.out.2.2.1 h9).1, (HQ.out.2.2.1 h9).2.1, lt_succ_imp (HQ.out.2.2.1 h9).2.2 (fun _ b hb hdf => by
                        have h7 := diffB_yes hb hdf
                        rw [← HD.out.1] at h7; cases h7)⟩, HQ.out.2.2.2⟩
                      case measure => simp [intOf]; omega
                    | true =>
                      go_wp2_with fail
                      go_roundw
                      case rel =>
                        obtain ⟨b, hb, hdf⟩ := diffB_get HD.out.1.symm
                        have hap := diff_apart HQ.out.2.1 H.out.2.2.1 (i := p) (j := q) (by rw [H.out.2.2.2.1]; exact hpl) (by rw [H.out.2.2.2.1]; exact hql) hb hdf
                        have hl1 : p < T4.length := by rw [HD.out.2.len]; exact hpl
                        have hl2 : q < (T4.getD p []).length := by rw [HD.out.2.wid p hpl]; exact hql
                        have hset := HD.out.2.set hpl q
                        rw [← HV.out.2] at hset
                        have hf := falsesT_set hl1 hl2 HV.out.1.symm
                        refine ⟨q + 1, true, setT T4 p q, by omega, rfl, by go_num, hset, HQ.out.2.1.set hap hl1 hl2, fun h9 => (by cases h9), fun _ => ?_⟩
                        cases more' with
                        | false => have := (HQ.out.2.2.1 rfl).1; rw [← this]; omega
                        | true => have := HQ.out.2.2.2 rfl; omega
                      case measure => simp [intOf]; omega
                · have hq9 : q = n2 := by omega
                  go_wp2_with fail
                  go_roundw
                  case rel => exact ⟨p + 1, more', T4, by omega, rfl, by go_num, HQ.out.1, HQ.out.2.1, fun h9 => ⟨(HQ.out.2.2.1 h9).1, fun i j hi hj => by
                    by_cases e : i = p
                    · subst e; exact (HQ.out.2.2.1 h9).2.2 j (by omega)
                    · exact (HQ.out.2.2.1 h9).2.1 i j (by omega) hj⟩, HQ.out.2.2.2⟩
                  case measure => simp [intOf]; omega
            · have hpn : p = n2 := by omega
              go_wp2_with fail
              go_roundw
              case rel => exact ⟨more, T3, rfl, HP.out.1, HP.out.2.1, fun h9 i j hi hj => (HP.out.2.2.1 h9).2 i j (by omega) hj⟩
              case measure =>
                have z1 := sumZ_eq HP.out.1
                have z2 := sumZ_eq HS.out.1
                rw [z1, z2]
                cases more with
                | false => rw [(HP.out.2.2.1 rfl).1]; simp
                | true => have := HP.out.2.2.2 rfl; simp; omega
end Go.Proofs.Ytiaigdedkdeeoaa
