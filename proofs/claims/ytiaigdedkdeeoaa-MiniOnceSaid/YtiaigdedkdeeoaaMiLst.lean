/- mini.Least. -/
import Derived.Test.YtiaigdedkdeeoaaMiLst1
namespace Go.Proofs.Ytiaigdedkdeeoaa
open Go.RowKit Go.Maps Go.WideMaps
attribute [local go_sem ↓] load_26 load_48 store_26 store_48

theorem results_cell_row2 {fn : Func} {p u : Tmp} {ty : TypeId} (h : fn.results = #[.cell p ty, .tmp u]) (tmps : Array Value) (w : World) (g : Nat) (cs : Array Value)
    (hp : tmps.getD p undef = .pointer (some ⟨g, 0, none⟩)) (hl : (loadVar ty ⟨g, 0, none⟩).run Try.prog w = .ok (.agg cs) w) :
    (results fn tmps).run Try.prog w = .ok (.tuple #[.agg cs, tmps.getD u undef]) w := by
  rw [results_cell_tmp h, hp]
  simp [asAddr, Result.andThen, hl]
/-- a load of the whole automaton out of its box -/
theorem ldB {W : World} {g : Nat} {ds : Array Value} (h : Blk W g 26 ds.toList) (hs : ds.size = 258) : (loadB 26 (.pointer (some ⟨g, 0, none⟩))).run Try.prog W = .ok (.agg ds) W := by
  have := loadB_run 26 h.range (.inl rfl) (by rw [Array.length_toList, hs]; rfl)
  simpa using this
/-- the automaton's box and the result's stay -/
structure BxW (w W : World) (ds : Array Value) : Prop where
  bel : Below w.heap.size w W
  box : Blk W w.heap.size 26 ds.toList
  r6 : Blk W (w.heap.size + 1) 26 zs26.toList
theorem BxW.go {w W W' : World} {ds : Array Value} (h : BxW w W ds) (hb : Below W.heap.size W W') : BxW w W' ds :=
  ⟨h.bel.trans (hb.mono h.bel.size), h.box.below hb h.box.lt, h.r6.below hb h.r6.lt⟩
set_option maxRecDepth 100000 in
set_option maxHeartbeats 8000000 in
theorem least_right (ds : Array Value) (A1 A2 : Option Addr) (n n2 c1 c2 : Nat) (D : Dfa) (RA : Nat → Option Addr) (rc : Nat → Nat) (w : World) (h : DfaIn w ds A1 A2 n n2 c1 c2 D RA rc) (hr : RightD D) :
    Calls Try.prog 7 #[.agg ds] w fun e w' => ∃ ds' Ax cx Ay cy k RA' rc' M, e = .returned (.tuple #[.agg ds', .int .i64 0]) ∧ DfaNew w w' ds' Ax Ay k k cx cy M RA' rc' ∧ LeastOf D M ∧ Below w.heap.size w w' := by
  have hln := h.next.len
  have hal := h.alen
  have hra := hr.alen
  have hn4 := hr.hi
  have hn1 := hr.lo
  rw [hln] at hn4 hn1
  have hok := hr.aut
  have hAn : (autOf D).n = n := hln
  have hn2 : n2 = n := by omega
  subst hn2
  have hds := h.cells.size
  obtain ⟨i3, hi3, hz3, hsz3, hbt3⟩ := info_parts info3
  have hbw : BxW w ((w.alloc (.cells ds 26)).alloc (.cells zs26 26)) ds := by
    have b1 := blk_alloc w 26 ds
    have b2 := blk_alloc (w.alloc (.cells ds 26)) 26 zs26
    rw [World.size_alloc] at b2
    exact ⟨((Below.refl _ _).alloc (Nat.le_refl _) _).alloc (by simp) _, b1.alloc _, b2⟩
  have H := Lib.hid (And.intro h (And.intro hr (And.intro hok hAn)))
  have HB := Lib.hid hbw
  have hz26 := zeroV26
  have hld := ldB hbw.box hds
  clear h hr hok hAn hbw
  go_enter Try.func7, Try.ntmps7
  go_upto_block 1 with (fail)
  generalize (w.alloc (.cells ds 26)).alloc (.cells zs26 26) = w1 at HB hld ⊢
  clear hz26
  go_wp2_with fail
  refine (dright_any ds A1 A2 n2 n2 c1 c2 D RA rc w1 ((H.out.1.keep HB.out.bel))).mono ?_
  rintro e w2 ⟨rfl, hb2⟩
  rw [rightD_yes H.out.2.1]
  have hbw := HB.out.go hb2
  have hld := ldB hbw.box hds
  have HB2 := Lib.hid hbw
  clear HB hbw hb2
  go_wp2_with fail
  refine (going_any ds A1 A2 n2 n2 c1 c2 D RA rc w2 (H.out.1.keep HB2.out.bel) H.out.2.1).mono ?_
  rintro e w3 ⟨gb, V, ls, u, rfl, hrows, hgb, hgo, hu, hb3⟩
  have hbw := HB2.out.go hb3
  obtain ⟨RA3, rc3, hri⟩ := hrows.inn hn4 hu (fun i hi => hgo.wid i (by rw [H.out.2.2.2]; exact hi))
  have q2 := hbw.box.cell 257
  rw [show ds.toList[257]? = ds[257]? by simp, H.out.1.cells.ac] at q2
  have HB3 := Lib.hid hbw
  have HG := Lib.hid (And.intro hri hgo)
  clear HB2 hbw hb3 hrows hri hgo hgb
  go_wp2_with fail
  refine (living_any (autOf D) H.out.2.2.1 (some ⟨gb, 0, none⟩) n2 n2 ls RA3 rc3 A2 c2 D.acc u w3 H.out.2.2.2 HG.out.1 (((H.out.1.keep HB3.out.bel)).aarr) hn4 hu HG.out.2 (fun i _ => rfl)).mono ?_
  rintro e w4 ⟨gl, lv, rfl, hlb, hgl, hll, hlv, hb4⟩
  have hbw := HB3.out.go hb4
  have hri := HG.out.1.keep hb4
  have hc0 := bools_cell hlb (j := 0) (by omega)
  have hl0 := hlv 0 (by rw [H.out.2.2.2]; omega)
  obtain ⟨b0, hb0⟩ : ∃ b0, b0 = lv.getD 0 false := ⟨_, rfl⟩
  rw [← hb0] at hc0 hl0
  have hq2 := hbw.box.cell 257
  rw [show ds.toList[257]? = ds[257]? by simp, H.out.1.cells.ac] at hq2
  have HB4 := Lib.hid hbw
  have HL := Lib.hid (And.intro hri (And.intro hlb (And.intro hll (And.intro hlv hl0))))
  clear HB3 hbw hb4 hri hlb hll hlv hl0 hb0 hgl hld
  cases b0 with
  | false =>
    have hz26 := zeroV26
    have hz58 := size26
    have hw5 := HB4.out.go (((((Below.refl w4.heap.size w4).alloc (Nat.le_refl _) (.cells #[.int .i64 (-1)] 3)).alloc (by simp) (.cells #[.slice (some ⟨w4.heap.size, 0, none⟩) 1 1] 34))).alloc (by simp; omega) (.cells #[.bool false] 4))
    have hst := storeB_run 26 hw5.r6 (.inl rfl) (e26 (.slice (some ⟨w4.heap.size + 1, 0, none⟩) 1 1) (.slice (some ⟨w4.heap.size + 1 + 1, 0, none⟩) 1 1)) (by rw [zs26_cells, dCells_len]; rfl) (by rw [e26_size]; rfl) (e26_one _ _ _ _ _ _)
    have hed := (empty_in w4).but (B' := w) HB4.out.bel.size (but_setRow _ (w.heap.size + 1) (e26 (.slice (some ⟨w4.heap.size + 1, 0, none⟩) 1 1) (.slice (some ⟨w4.heap.size + 1 + 1, 0, none⟩) 1 1))) (fun k hk => by have := HB4.out.r6.lt; omega)
    have hbk := hw5.r6.row (e26 (.slice (some ⟨w4.heap.size + 1, 0, none⟩) 1 1) (.slice (some ⟨w4.heap.size + 1 + 1, 0, none⟩) 1 1))
    have hbe := below_setRow (g := w.heap.size + 1) hw5.bel (by omega) (e26 (.slice (some ⟨w4.heap.size + 1, 0, none⟩) 1 1) (.slice (some ⟨w4.heap.size + 1 + 1, 0, none⟩) 1 1))
    have hun : (zs26.setIfInBounds 256 (.slice (some ⟨w4.heap.size + 1, 0, none⟩) 1 1)).setIfInBounds 257 (.slice (some ⟨w4.heap.size + 1 + 1, 0, none⟩) 1 1) = e26 (.slice (some ⟨w4.heap.size + 1, 0, none⟩) 1 1) (.slice (some ⟨w4.heap.size + 1 + 1, 0, none⟩) 1 1) := rfl
    obtain ⟨ee, hee⟩ : ∃ ee, ee = e26 (.slice (some ⟨w4.heap.size + 1, 0, none⟩) 1 1) (.slice (some ⟨w4.heap.size + 1 + 1, 0, none⟩) 1 1) := ⟨_, rfl⟩
    have hes := e26_size (.slice (some ⟨w4.heap.size + 1, 0, none⟩) 1 1) (.slice (some ⟨w4.heap.size + 1 + 1, 0, none⟩) 1 1)
    rw [← hee] at hst hed hbk hbe hun hes
    have HE := Lib.hid (And.intro hed (And.intro hbk (And.intro hbe hes)))
    clear hw5 hed hbk hbe hee hes
    go_wp2_with fail
    (try simp only [Exit.inBlock, Exit.then])
    refine bodyPost_ret (results_cell_row2 rfl _ _ (w.heap.size + 1) ee rfl (by
      have h9 := run_loadVar_row _ (w.heap.size + 1) 26 26 ee.toList.toArray (0, 0) _ HE.out.2.1 Try.underlying26 rfl (by rw [List.size_toArray, Array.length_toList, HE.out.2.2.2]; exact info26)
      simpa using h9)) rfl ?_
    exact ⟨ee, _, _, _, _, 1, _, _, emptyD, rfl, HE.out.1, .inl ⟨fun h9 => (by have := HL.out.2.2.2.2.2 h9; cases this), rfl⟩, HE.out.2.2.1⟩
  | true =>
    go_wp2_with fail
    refine (parts_any (autOf D) H.out.2.2.1 (some ⟨gb, 0, none⟩) n2 n2 ls RA3 rc3 A2 c2 D.acc (some ⟨gl, 0, none⟩) n2 lv u w4 H.out.2.2.2 HL.out.1 (((H.out.1.keep HB4.out.bel)).aarr) (bools_arr HL.out.2.1 HL.out.2.2.1) hn4 hu HG.out.2 HL.out.2.2.2.1 (fun i _ => rfl)).mono ?_
    rintro e w5 ⟨v5, q, rfl, hown, hql, hqs, hpd, hb5⟩
    have hbw := HB4.out.go hb5
    obtain ⟨Aq, cq, rfl⟩ := own_sl hown
    have hlive : Live (autOf D) 0 := HL.out.2.2.2.2.1 trivial
    obtain ⟨bq, oq, e5, hbq, hcq⟩ := (own_ints hown).one (k := 0) (by omega)
    have HQA := Lib.hid (own_ints hown)
    subst e5
    obtain ⟨q0, hq0⟩ : ∃ q0, q0 = q.getD 0 0 := ⟨_, rfl⟩
    rw [← hq0, Nat.add_zero] at hcq
    have hqb := hqs 0
    rw [← hq0] at hqb
    have hqs' : ∀ i, I64 (q.getD i 0) := fun i => i64_sm (hqs i).1 (by have := (hqs i).2; omega)
    have hcq1 := cell_al hcq (.map #[] 0)
    have hmd := World.ownsMap_made w5 Try.prog 3 (plainElem (H := Unit) Try.prog 3)
    have HP := Lib.hid (And.intro hbw (And.intro hown (And.intro hql (And.intro hqs' (And.intro hpd (And.intro hlive hq0))))))
    have HM := Lib.hid hmd
    have hk0 := keyOf_int3 q0 (i64_sm hqb.1 (by omega))
    have HQB := Lib.hid hqb
    clear hbw hown hql hqs hqs' hpd hb5 HG HL HB4 hq0 hlive hq2 hmd hqb
    have hmm := @run_makeMap Try.prog
    go_wp2_with (first
      | (refine wpList_insert_own _ rfl _ _ _ 46 rfl 3 3 (int_keyed Try.underlying3) Try.underlying46 (plainElem (H := Unit) Try.prog 3) w5.heap.size 0 _ rfl HM.out (by decide) _ _ _ rfl rfl hk0 _ [] (plainElem_int Try.underlying3 (i64_sm (a := 0) (by omega) (by omega))) ?_; intro w6 hown6 hgrow6))
    clear hmm hcq hcq1 hk0
    have hst : LstW w5 (w6.alloc (.cells #[.int .i64 0] 3)) w5.heap.size 1 ((DataW.map []).put (intK.lit q0) (.lit (.int .i64 (0 : Nat)))) q (.slice (some ⟨w6.heap.size, 0, none⟩) 1 1) (.slice none 0 0) [0] [] := by
      have hb6 : Below w5.heap.size w5 w6 := ((Below.refl _ _).alloc (Nat.le_refl _) (.map #[] 0)).grown hgrow6 (by simp) (fun j hj => by cases hj; exact Nat.le_refl _)
      refine ⟨hb6.alloc hb6.size _, hown6.alloc _, ?_, Nat.le_refl _, own_one _ _ _ _ hb6.size, World.ownsRow_nil _ _ _ _⟩
      have h9 := idx_snoc (idx_empty (H := Unit) intK) q0 (i64_sm HQB.out.1 (by have := HQB.out.2; omega)) (by simp)
      simpa [HP.out.2.2.2.2.2.2] using h9
    have HS := Lib.hid hst
    clear hst hgrow6 hown6 HM HQB
    obtain ⟨gm, hgm⟩ : ∃ gm, gm = w5.heap.size := ⟨_, rfl⟩
    rw [← hgm] at HS ⊢
    clear hgm
    obtain ⟨w7, hw7⟩ : ∃ w7, w7 = w6.alloc (.cells #[.int .i64 0] 3) := ⟨_, rfl⟩
    rw [← hw7] at HS ⊢
    clear hw7
    have HN := Lib.hid (And.intro hln (And.intro hal hra))
    clear hln hal hra
    go_loopw [8, 9, 10] (fun va vw i wr => ∃ (k m : Nat) (Dm : DataW Unit) (met : List Nat) (wide : List (List Int)), i = .int .i64 k ∧ LstW w5 wr gm m Dm q va vw met wide ∧ wide.length = k ∧ BReach (autOf D) ⟨met, [], wide⟩ ∧ m ≤ met.length ∧ k ≤ met.length) (fun _ _ i _ => 400 - (intOf i).toNat)
    case atStart => exact ⟨0, 1, _, [0], [], rfl, HS.out, rfl, BReach.start, Nat.le_refl _, Nat.zero_le _⟩
    case round =>
      obtain ⟨k, m, Dm, met, wide, rfl, hl, hwl, hbr, hm, hkm⟩ := hrel
      have hinv := hbr.inv H.out.2.2.1 HP.out.2.2.2.2.2.1
      have hml := hinv.len
      have hml : met.length ≤ n2 := by rw [← H.out.2.2.2]; exact hml
      obtain ⟨Aa, ca, rfl⟩ := own_sl hl.all
      obtain ⟨Aw, cw, rfl⟩ := own_sl hl.wid
      obtain ⟨ml, hml9⟩ : ∃ ml, ml = met.length := ⟨_, rfl⟩
      rw [hwl] at hl ⊢
      rw [← hml9] at hml hm hkm ⊢
      have HL := Lib.hid (And.intro hl (And.intro hwl (And.intro hbr (And.intro hml9 hinv))))
      clear hl hwl hbr hinv hml9 HS
      by_cases hlt : k < ml
      · have hz48 := zeroV48
        have hbk0 := blk_alloc wr 48 zs48
        rw [zs48_row] at hbk0
        have hla := HL.out.1.alloc (.cells zs48 48)
        have hwn : ∀ x, (Value.slice Aw k cw).ownBlock = some x → x < wr.heap.size := fun x hx => by
          have h9 := HL.out.1.wid
          exact (h9.lt x hx).2
        have hB11 := HL.out.1.bel.size
        go_wp2_with fail
        clear hz48
        have hbr := HL.out.2.2.1
        have hmlE := HL.out.2.2.2.1
        have hwlE := HL.out.2.1
        obtain ⟨g11, hg11⟩ : ∃ g11, g11 = wr.heap.size := ⟨_, rfl⟩
        rw [← hg11] at hbk0 hwn hB11 ⊢
        generalize wr.alloc (.cells zs48 48) = w8 at hla hbk0 ⊢
        have hkk : k < met.length := by rw [← hmlE]; exact hlt
        have hm' : m ≤ met.length := by rw [← hmlE]; exact hm
        have HW := Lib.hid (And.intro hla (And.intro hbk0 (And.intro hwn (And.intro hB11 (And.intro hbr (And.intro hwlE (And.intro hkk hm')))))))
        clear hla hbk0 hwn hB11 hbr hwlE hkk hm' hg11
        rw [hmlE]
        clear hmlE HL hlt hkm hm hml
        have HL2 : Hid (wide.length = k) := Lib.hid HW.out.2.2.2.2.2.1
        go_loopw [8, 51] (fun va b wx => ∃ (t m : Nat) (Dm : DataW Unit) (met : List Nat) (row : List Int) (Aa : Option Addr) (ca : Nat), t ≤ 256 ∧ va = .slice Aa met.length ca ∧ b = .int .i64 t ∧ LstW w5 wx gm m Dm q (.slice Aa met.length ca) (.slice Aw k cw) met wide ∧ row.length = t ∧ BReach (autOf D) ⟨met, row, wide⟩ ∧ Blk wx g11 48 (rowV row) ∧ m ≤ met.length ∧ k < met.length) (fun _ b _ => 256 - (intOf b).toNat)
        case atStart => exact ⟨0, m, Dm, met, [], Aa, ca, by omega, rfl, rfl, HW.out.1, rfl, HW.out.2.2.2.2.1, HW.out.2.1, HW.out.2.2.2.2.2.2.2, HW.out.2.2.2.2.2.2.1⟩
        case round =>
          obtain ⟨t, m, Dm, met, row, Aa, ca, ht, rfl, rfl, hl, hrl, hbr, hbk, hm, hkm⟩ := hrel
          have HT := Lib.hid (And.intro hl (And.intro hrl (And.intro hbr (And.intro hbk (And.intro hm hkm)))))
          clear hl hrl hbr hbk hm hkm
          by_cases hlt : t < 256
          · have hce := HT.out.2.2.2.1.cell t
            rw [rowV_get _ hlt] at hce
            have hfz := HT.out.2.2.2.1.frozen t
            obtain ⟨c9, hc9⟩ : ∃ c9, c9 = row.getD t 0 := ⟨_, rfl⟩
            rw [← hc9] at hce
            have hl9 := HT.out.1.cell HT.out.2.2.2.1 HW.out.2.2.2.1 (fun e => by have := HW.out.2.2.1 _ e; omega) t (.int .i64 (-1))
            have hb9 := HT.out.2.2.2.1.set t (.int .i64 (-1))
            rw [rowV_set HT.out.2.1 hlt] at hb9
            obtain ⟨w9, hw9⟩ : ∃ w9, w9 = wr.setCell ⟨g11, t, none⟩ (.int .i64 (-1)) := ⟨_, rfl⟩
            rw [← hw9] at hl9 hb9
            have hbw := HP.out.1.go hl9.bel
            have hkl := HT.out.2.2.2.2.2
            obtain ⟨i, hi⟩ : ∃ i, i = met.getD k 0 := ⟨_, rfl⟩
            have hbi := HT.out.2.2.1.inv H.out.2.2.1 HP.out.2.2.2.2.2.1
            have hin := hbi.lt k hkl
            replace hin : i < n2 := by rw [hi, ← H.out.2.2.2]; exact hin
            obtain ⟨b0, o0, e0, hb0, hc0⟩ := (nats_arr rfl hl9.all).one hkl
            subst e0
            replace hc0 : w9.cell? ⟨b0, o0 + k, none⟩ = some (.int .i64 (i : Int)) := by rw [hc0, hi]; rfl
            have p0 := hbw.box.cell t
            have p1 := hbw.box.cell 256
            rw [show ds.toList[t]? = ds[t]? by simp, H.out.1.cells.cl t hlt] at p0
            rw [show ds.toList[256]? = ds[256]? by simp, H.out.1.cells.nx] at p1
            obtain ⟨b1, o1, e1, hb1, hc1⟩ := H.out.1.next.arr.one hin
            subst e1
            unfold RowC at hc1
            replace hc1 := (hbw.bel.cell (p := ⟨b1, o1 + i, none⟩) hb1).trans hc1
            have hrw := (H.out.2.1.row (i := i) (by rw [HN.out.1]; exact hin)).1
            have hcl := H.out.2.1.cl hlt
            obtain ⟨b2, o2, e2, hb2, hc2⟩ := (H.out.1.next.row i hin).one (k := D.cls t) (by rw [hrw]; exact hcl)
            rw [hrw, e2] at hc1
            unfold NumC at hc2
            replace hc2 := (hbw.bel.cell (p := ⟨b2, o2 + D.cls t, none⟩) hb2).trans hc2
            obtain ⟨x, hx⟩ : ∃ x, x = (D.next.getD i []).getD (D.cls t) 0 := ⟨_, rfl⟩
            rw [← hx] at hc2
            have hxn : x = (autOf D).nx (met.getD k 0) t := by rw [hx, hi]; rfl
            have hxlo := H.out.2.2.1.lo i t (by rw [H.out.2.2.2]; exact hin) hlt
            have hxhi := H.out.2.2.1.hi i t (by rw [H.out.2.2.2]; exact hin) hlt
            replace hxlo : -1 ≤ x := by rw [hx]; exact hxlo
            replace hxhi : x < (n2 : Int) := by rw [hx, ← H.out.2.2.2]; exact hxhi
            obtain ⟨cc, hcc⟩ : ∃ cc, cc = D.cls t := ⟨_, rfl⟩
            obtain ⟨mm, hmm⟩ : ∃ mm, mm = D.many := ⟨_, rfl⟩
            rw [← hcc] at p0 hc2 hcl
            rw [← hmm] at hc1 hcl
            obtain ⟨ml, hml⟩ : ∃ ml, ml = met.length := ⟨_, rfl⟩
            rw [← hml] at hkl ⊢
            have HX := Lib.hid (And.intro hl9 (And.intro hb9 (And.intro hbw (And.intro hxn (And.intro hml (And.intro hbi hi))))))
            have HW9 := Lib.hid hw9
            clear hl9 hb9 hbw hxn hml hx hcc hmm hrw e2 hbi hi hb0 hb1 hb2 hc9
            go_wp2_with fail
            rw [← HW9.out]
            clear HW9 hce hfz hw9
            go_quiet (fail)
            have hqd : Below w9.heap.size w9 (w9.drewN nq) := below_drewN (Below.refl _ _) nq
            have hl10 := HX.out.1.go hqd
            have hb10 := HX.out.2.1.below hqd HX.out.2.1.lt
            have H10 := Lib.hid (And.intro hl10 hb10)
            clear hl10 hb10 hqd hc0 hc1 hc2 p0 p1
            generalize w9.drewN nq = w10 at H10 ⊢
            have hml := HX.out.2.2.2.2.1
            by_cases hneg : x < 0
            · have d1 : decide (x < 0) = true := by simpa using hneg
              have hbr := HT.out.2.2.1.dead (by rw [HL2.out]; exact HT.out.2.2.2.2.2) (by rw [HT.out.2.1]; exact hlt) (.inl (by rw [HL2.out, HT.out.2.1, ← HX.out.2.2.2.1]; exact hneg))
              have HR := Lib.hid (And.intro hbr hml)
              clear hneg hbr hml
              go_wp2_with fail
              go_roundw
              case rel => exact ⟨t + 1, m, Dm, met, row ++ [-1], some ⟨b0, o0, none⟩, ca, by omega, by rw [HR.out.2], by go_num, H10.out.1, by rw [List.length_append, HT.out.2.1]; rfl, HR.out.1, H10.out.2, HT.out.2.2.2.2.1, HT.out.2.2.2.2.2⟩
              case measure => simp [intOf]; omega
            · have d1 : decide (x < 0) = false := by simpa using hneg
              obtain ⟨j, rfl⟩ : ∃ j : Nat, x = (j : Int) := ⟨x.toNat, by omega⟩
              have hj : j < n2 := by omega
              obtain ⟨b5, o5, e6, hb5, hc5⟩ := HQA.out.one hj
              injection e6 with e6
              injection e6 with e7 e8
              subst e7
              subst e8
              replace hc5 := (H10.out.1.bel.cell (p := ⟨bq, oq + j, none⟩) hb5).trans hc5
              have hy64 := HP.out.2.2.2.1 j
              obtain ⟨y, hy⟩ : ∃ y, y = q.getD j 0 := ⟨_, rfl⟩
              rw [← hy] at hc5 hy64
              have hnx : ((autOf D).nx (met.getD k 0) t).toNat = j := by rw [← HX.out.2.2.2.1]; rfl
              have hng := HP.out.2.2.2.2.1.ok.neg (i := j) (by rw [H.out.2.2.2]; exact hj)
              have hng : y < 0 ↔ ¬ Live (autOf D) j := by rw [hy]; exact hng
              by_cases hyn : y < 0
              · have d2 : decide (y < 0) = true := by simpa using hyn
                have hbr := HT.out.2.2.1.dead (by rw [HL2.out]; exact HT.out.2.2.2.2.2) (by rw [HT.out.2.1]; exact hlt) (.inr (by rw [HL2.out, HT.out.2.1, hnx]; exact hng.1 hyn))
                have HR := Lib.hid (And.intro hbr hml)
                clear hyn hbr hml hneg hng hnx hy hb5
                go_wp2_with fail
                go_roundw
                case rel => exact ⟨t + 1, m, Dm, met, row ++ [-1], some ⟨b0, o0, none⟩, ca, by omega, by rw [HR.out.2], by go_num, H10.out.1, by rw [List.length_append, HT.out.2.1]; rfl, HR.out.1, H10.out.2, HT.out.2.2.2.2.1, HT.out.2.2.2.2.2⟩
                case measure => simp [intOf]; omega
              · have d2 : decide (y < 0) = false := by simpa using hyn
                have hlj : Live (autOf D) j := Classical.byContradiction fun h9 => hyn (hng.2 h9)
                have hnd : ¬ Dead (autOf D) (met.getD k 0) t := fun h9 => by
                  rcases h9 with h9 | h9
                  · rw [← HX.out.2.2.2.1] at h9; omega
                  · rw [hnx] at h9; exact h9 hlj
                have hpl := idx_plc HP.out.2.2.2.2.1 (j := j) (by rw [H.out.2.2.2]; exact hj) hlj met (bmem HX.out.2.2.2.2.2.1)
                rw [← hy] at hpl
                obtain ⟨kk, hkk⟩ : ∃ kk, kk = idxL (autOf D) met j := ⟨_, rfl⟩
                rw [← hkk] at hpl
                have hmem := plc_mem hpl
                rw [List.length_map] at hmem
                have hkle := idxL_le (A := autOf D) met j
                rw [← hkk] at hkle
                have hbw := HP.out.1.go H10.out.1.bel
                have hce := H10.out.2.cell t
                rw [rowV_get _ hlt] at hce
                have hfz := H10.out.2.frozen t
                obtain ⟨c9, hc9⟩ : ∃ c9, c9 = (row ++ [-1]).getD t 0 := ⟨_, rfl⟩
                rw [← hc9] at hce
                have HH := Lib.hid (And.intro hkk (And.intro hpl (And.intro hmem (And.intro hnd (And.intro hnx (And.intro hml hy))))))
                clear hkk hpl hmem hnd hnx hml hyn hneg hng hlj hbw hc9 hy hb5
                by_cases hold : kk < met.length
                · have hmm := HH.out.2.2.1
                  rw [decide_eq_true hold] at hmm
                  have hiv : placeI (met.map (fun i => q.getD i 0)) y = (kk : Int) := by
                    unfold placeI
                    rw [if_pos (of_decide_eq_true hmm), HH.out.2.1]
                  have hbr := HT.out.2.2.1.old (by rw [HL2.out]; exact HT.out.2.2.2.2.2) (by rw [HT.out.2.1]; exact hlt) (by rw [HL2.out, HT.out.2.1]; exact HH.out.2.2.2.1) (j := j) (k := kk) (by rw [HL2.out, HT.out.2.1]; exact HH.out.2.2.2.2.1) HH.out.1.symm hold
                  have HR := Lib.hid (And.intro hmm (And.intro hiv hbr))
                  clear hmm hiv hbr hold
                  go_wp2_with (first | (at_lookup; refine wpList_lookup_num _ rfl _ _ rfl gm m Dm _ rfl H10.out.1.nm H10.out.1.idx y hy64 rfl _ true HR.out.2.1 HR.out.1 ?_))
                  go_roundw
                  case rel =>
                    have hlf := H10.out.1.cell H10.out.2 HW.out.2.2.2.1 (fun e => by have := HW.out.2.2.1 _ e; omega) t (.int .i64 (kk : Int))
                    have hbf := H10.out.2.set t (.int .i64 (kk : Int))
                    rw [rowV_set2 HT.out.2.1 hlt] at hbf
                    exact ⟨t + 1, m, Dm, met, row ++ [(kk : Int)], some ⟨b0, o0, none⟩, ca, by omega, by rw [HH.out.2.2.2.2.2.1], by go_num, hlf, by rw [List.length_append, HT.out.2.1]; rfl, HR.out.2.2, hbf, HT.out.2.2.2.2.1, HT.out.2.2.2.2.2⟩
                  case measure => simp [intOf]; omega
                · have hke : kk = met.length := by omega
                  have hmm := HH.out.2.2.1
                  rw [decide_eq_false hold] at hmm
                  have hnm := of_decide_eq_false hmm
                  have hiv : placeI (met.map (fun i => q.getD i 0)) y = 0 := by
                    unfold placeI
                    rw [if_neg hnm]
                  have hbr := HT.out.2.2.1.new (by rw [HL2.out]; exact HT.out.2.2.2.2.2) (by rw [HT.out.2.1]; exact hlt) (by rw [HL2.out, HT.out.2.1]; exact HH.out.2.2.2.1) (j := j) (by rw [HL2.out, HT.out.2.1]; exact HH.out.2.2.2.2.1) (HH.out.1.symm.trans hke)
                  have hmE := HH.out.2.2.2.2.2.1
                  rw [← hmE] at hbr
                  have hidx := idx_snoc H10.out.1.idx y hy64 hnm
                  rw [List.length_map, ← hmE] at hidx
                  have hlen := HX.out.2.2.2.2.2.1.len
                  have hlen : ml ≤ n2 := by rw [hmE, ← H.out.2.2.2]; exact hlen
                  have hmm' := HT.out.2.2.2.2.1
                  have hm5 : m < maxLen := by rw [← hmE] at hmm'; unfold maxLen; omega
                  have HR := Lib.hid (And.intro hmm (And.intro hiv (And.intro hbr hidx)))
                  have hkey := keyOf_int3 y hy64
                  have y1 : (ml + 1) * 8 ≤ 140737488355328 := by omega
                  have y2 : ml + 1 ≤ maxLen := by unfold maxLen; omega
                  have y3 : ∀ v ∈ [Value.int .i64 (j : Int)], v.oneCell' = true := by intro v hv9; simp at hv9; rw [hv9]; rfl
                  clear hmm hiv hbr hidx hnm hold hke hmE hmm'
                  go_wp2_with (first
                    | (at_lookup; refine wpList_lookup_num _ rfl _ _ rfl gm m Dm _ rfl H10.out.1.nm H10.out.1.idx y hy64 rfl _ false HR.out.2.1 HR.out.1 ?_)
                    | (at_mapUpdate; refine wpList_mapUpdate_own _ rfl _ _ _ 46 rfl 3 3 (int_keyed Try.underlying3) Try.underlying46 (plainElem (H := Unit) Try.prog 3) gm m Dm rfl H10.out.1.nm hm5 _ _ _ rfl rfl hkey _ [] (plainElem_int Try.underlying3 (i64_sm (a := (ml : Int)) (by omega) (by omega))) ?_; intro w11 hown11 hgrow11; have HN11 := Lib.hid (And.intro hgrow11 (And.intro hown11 (H10.out.1.name (x := j) hgrow11 hown11))); have hown12 : (w11.alloc (.cells #[.int .i64 (j : Int)] 3)).ownsRow w5.heap.size 3 1 (.slice (some ⟨b0, o0, none⟩) ml ca) ml (natsV met) := (by rw [HH.out.2.2.2.2.2.1]; exact own_kept HN11.out.2.2.2.1 ((Below.refl _ _).alloc (Nat.le_refl _) _)); have y4 : w5.heap.size ≤ (w11.alloc (.cells #[.int .i64 (j : Int)] 3)).heap.size := (HN11.out.2.2.1.alloc HN11.out.2.2.1.size _).size; clear hown11 hgrow11)
                    | (at_builtin; refine wpList_append_lies _ rfl (.tmp 98) (.tmp 100) 34 rfl w5.heap.size 3 i3 (.int .i64 0) 1 8 Try.underlying34 hi3 hz3 hsz3 hbt3 rfl (by decide) (.slice (some ⟨b0, o0, none⟩) ml ca) ml (natsV met) rfl hown12 ⟨_, 0, none⟩ 1 1 [.int .i64 (j : Int)] rfl rfl (World.news_of_block (heap_alloc_new _ _)) y3 (by decide) y2 y1 y4 _ rfl ?_; intro g12 c12 w12 hown13 hg13 hat13 hlt13; have HB12 := Lib.hid (H10.out.1.blk H10.out.2 HN11.out.1 hg13); have hce12 := HB12.out.cell t; rw [rowV_get _ hlt] at hce12; have hfz12 := HB12.out.frozen t))
                  have H13 := Lib.hid (And.intro hown13 hg13)
                  clear hown13 hg13 hat13 hlt13
                  go_roundw
                  case rel =>
                    have hp := H10.out.1.push (va' := .slice (some ⟨g12, 0, none⟩) (ml + 1) c12) (x := j) HN11.out.1 HN11.out.2.1 (by rw [List.map_append, List.map_singleton, ← HH.out.2.2.2.2.2.2]; exact HR.out.2.2.2) (W' := w12) (by rw [← HH.out.2.2.2.2.2.1]; exact H13.out.1) H13.out.2
                    have hlf := hp.cell HB12.out HW.out.2.2.2.1 (fun e => by have := HW.out.2.2.1 _ e; omega) t (.int .i64 (ml : Int))
                    have hbf := HB12.out.set t (.int .i64 (ml : Int))
                    rw [rowV_set2 HT.out.2.1 hlt] at hbf
                    have hl9 : (met ++ [j]).length = ml + 1 := by rw [List.length_append, ← HH.out.2.2.2.2.2.1]; rfl
                    have h8 := HT.out.2.2.2.2.1
                    have h7 := HT.out.2.2.2.2.2
                    rw [← HH.out.2.2.2.2.2.1] at h8 h7
                    exact ⟨t + 1, m + 1, _, met ++ [j], row ++ [(ml : Int)], some ⟨g12, 0, none⟩, c12, by omega, by rw [hl9], by go_num, by rw [hl9]; exact hlf, by rw [List.length_append, HT.out.2.1]; rfl, HR.out.2.2.1, hbf, by omega, by omega⟩
                  case measure => simp [intOf]; omega
          · have ht6 : t = 256 := by omega
            have hld := loadB_run 48 HT.out.2.2.2.1.range (by simp) (by rw [rowV_len]; rfl)
            have hon := rowV_one row
            obtain ⟨rr, hrr⟩ : ∃ rr, rr = (rowV row).toArray := ⟨_, rfl⟩
            have hsz : rr.size = 256 := by rw [hrr, List.size_toArray, rowV_len]
            rw [← hrr] at hld
            have hla := HT.out.1.alloc (.cells rr 48)
            have hown := hla.wid
            rw [HL2.out] at hown
            obtain ⟨xs, hxs⟩ : ∃ xs, xs = flat 256 cellW [] wide := ⟨_, rfl⟩
            rw [← hxs] at hown
            have hn8 : (wr.alloc (.cells rr 48)).heap[wr.heap.size]? = some (.cells rr 48 (0, 0)) := heap_alloc_new _ _
            have hk4 : k < 400 := by
              have h8 := (HT.out.2.2.1.inv H.out.2.2.1 HP.out.2.2.2.2.2.1).len
              have h7 := HT.out.2.2.2.2.2
              have h8 : met.length ≤ n2 := by rw [← H.out.2.2.2]; exact h8
              omega
            have y1 : (k + 1) * 2048 ≤ 140737488355328 := by omega
            have y2 : k + 1 ≤ maxLen := by unfold maxLen; omega
            have y3 : ∀ v ∈ rowV row, v.oneCell' = true := by
              rw [Array.all_eq_true_iff_forall_mem] at hon
              intro v hv9
              exact hon v (by simpa using hv9)
            have y4 : w5.heap.size ≤ (wr.alloc (.cells rr 48)).heap.size := hla.bel.size
            have hnw : ∀ j u, (rowV row)[j]? = some u → (wr.alloc (.cells rr 48)).cell? ((⟨wr.heap.size, 0, none⟩ : Addr).add j) = some u := fun j u hu => World.news_of_block hn8 j u (by rw [hrr, List.toList_toArray]; exact hu)
            have HF := Lib.hid (And.intro hla (And.intro hxs hown))
            have hbr := HT.out.2.2.1.row (by rw [HL2.out]; exact HT.out.2.2.2.2.2) (by rw [HT.out.2.1]; exact ht6)
            have HBR := Lib.hid hbr
            obtain ⟨i48, hi48, hz48, hsz48, hbt48⟩ := info_parts info48b
            clear hla hxs hown hn8 hon hrr hbr ht6
            go_wp2_with (first
              | (refine wpList_build47 rfl (.tmp 107) rfl rr rfl hsz ?_)
              | (at_builtin; refine wpList_append_lies _ rfl (.tmp 106) (.tmp 108) 47 rfl w5.heap.size 48 i48 (.agg zs48) 256 2048 Try.underlying47 hi48 hz48 hsz48 hbt48 zs48_size (by decide) (.slice Aw k cw) k xs rfl HF.out.2.2 ⟨_, 0, none⟩ 1 1 (rowV row) rfl (by rw [rowV_len]) hnw y3 (by decide) y2 y1 y4 _ rfl ?_; intro g12 c12 w12 hown13 hg13 hat13 hlt13))
            have H13 := Lib.hid (And.intro hown13 hg13)
            clear hown13 hg13 hat13 hlt13
            go_roundw
            case rel =>
              have hrow := HF.out.1.row (vw' := .slice (some ⟨g12, 0, none⟩) (k + 1) c12) (r := row) (W' := w12) (by rw [HL2.out, ← HF.out.2.1]; exact H13.out.1) H13.out.2
              exact ⟨k + 1, m, Dm, met, wide ++ [row], by go_num, hrow, by rw [List.length_append, HL2.out]; rfl, HBR.out, HT.out.2.2.2.2.1, HT.out.2.2.2.2.2⟩
            case measure => simp [intOf]; omega
      · have hke : k = ml := by omega
        have hbw := HP.out.1.go HL.out.1.bel
        have hq3 := hbw.box.cell 257
        rw [show ds.toList[257]? = ds[257]? by simp, H.out.1.cells.ac] at hq3
        have hend : BEnd (autOf D) ⟨met, [], wide⟩ := ⟨HL.out.2.2.1, by show met.length ≤ wide.length; rw [HL.out.2.1, ← HL.out.2.2.2.1]; omega⟩
        have hps := HL.out.2.2.2.2.pos
        have hps : 1 ≤ k := by rw [hke, HL.out.2.2.2.1]; exact hps
        have hwa : Arr wr wr.heap.size 256 Aw k (WideC wide) := by
          have h9 := HL.out.1.wid
          rw [← HL.out.2.1] at h9 ⊢
          exact wide_arr h9
        have hna : Arr wr wr.heap.size 1 Aa k (NatC met) := by
          have h9 := HL.out.1.all
          rw [← HL.out.2.2.2.1, ← hke] at h9
          exact nats_arr (by rw [← HL.out.2.2.2.1, ← hke]) h9
        have hnr := narrow_any Aw k cw wide Aa ca met A2 n2 c2 D.acc wr hwa HL.out.2.1 hps (by omega) (wideOk_of HL.out.2.2.2.2 (by rw [H.out.2.2.2]; exact hn4)) hna (by rw [← HL.out.2.2.2.1, ← hke]) (H.out.1.keep hbw.bel).aarr (fun i hi => by
          have h9 := HL.out.2.2.2.2.lt i (by rw [← HL.out.2.2.2.1, ← hke]; exact hi)
          rw [H.out.2.2.2] at h9
          exact h9)
        have HE := Lib.hid (And.intro hbw (And.intro hend hnr))
        clear hbw hend hnr hwa hna hps
        have hkl : ¬ k < ml := hlt
        subst hke
        go_wp2_with fail
        refine HE.out.2.2.mono ?_
        rintro e w15 ⟨ds', Ax, cx, Ay, cy, RA', rc', rfl, hdf, hb15⟩
        have hbw := HE.out.1.go hb15
        have hone := cells_one (hdf w15 (But.refl _ _)).cells
        have hsz := (hdf w15 (But.refl _ _)).cells.size
        have hst := storeB_run 26 hbw.r6 (.inl rfl) ds' (by rw [zs26_cells, dCells_len]; rfl) (by rw [hsz]; rfl) hone
        have hbk := hbw.r6.row ds'
        have hbe := below_setRow (g := w.heap.size + 1) hbw.bel (by omega) ds'
        have hdf2 : DfaNew w (w15.setRow (w.heap.size + 1) ds') ds' Ax Ay k k cx cy _ RA' rc' := DfaNew.but (B := wr) hdf HE.out.1.bel.size (but_setRow w15 (w.heap.size + 1) ds') (fun x hx => by
          have := HE.out.1.r6.lt
          omega)
        have HZ := Lib.hid (And.intro hbk (And.intro hbe (And.intro hdf2 hsz)))
        clear hbw hone hsz hbk hbe hdf2 hdf hb15
        go_wp2_with fail
        (try simp only [Exit.inBlock, Exit.then])
        refine bodyPost_ret (results_cell_row2 rfl _ _ (w.heap.size + 1) ds' rfl (by
          have h9 := run_loadVar_row _ (w.heap.size + 1) 26 26 ds'.toList.toArray (0, 0) _ HZ.out.1 Try.underlying26 rfl (by rw [List.size_toArray, Array.length_toList, HZ.out.2.2.2]; exact info26)
          simpa using h9)) rfl ?_
        exact ⟨ds', Ax, cx, Ay, cy, k, RA', rc', _, rfl, HZ.out.2.2.1, .inr ⟨HP.out.2.2.2.2.2.1, _, HE.out.2.1, rfl⟩, HZ.out.2.1⟩
end Go.Proofs.Ytiaigdedkdeeoaa
