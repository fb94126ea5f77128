/- The reference's Least. -/
import Derived.Test.YtiaigdedkdeeoaaRfS1
namespace Go.Proofs.Ytiaigdedkdeeoaa
open Go.RowKit Go.Maps Go.WideMaps
attribute [local go_sem ↓] load_26 store_26

/-- what the call hands back -/
def RLeastPost (D : Dfa) (w : World) (e : Ending) (w' : World) : Prop := ∃ ds' Ax cx Ay cy k RA' rc' M, e = .returned (.agg ds') ∧ DfaNew w w' ds' Ax Ay k k cx cy M RA' rc' ∧ LeastOf D M ∧ Below w.heap.size w w'
set_option maxRecDepth 100000 in
set_option maxHeartbeats 16000000 in
theorem rleast_any (ds : Array Value) (A1 A2 : Option Addr) (n n2 c1 c2 : Nat) (D : Dfa) (RA : Nat → Option Addr) (rc : Nat → Nat) (w : World) (h : DfaIn w ds A1 A2 n n2 c1 c2 D RA rc) (hr : RightD D) :
    Calls Try.prog 11 #[.agg ds] w fun e w' => RLeastPost D w e w' := by
  have hln := h.next.len
  have hal := h.alen
  have hra := hr.alen
  have hn4 := hr.hi
  have hn1 := hr.lo
  rw [hln] at hn4 hn1
  have hok := hr.aut
  have hAn : (autOf D).n = n := hln
  have hn2 : n2 = n := by omega
  subst hn2
  have hds := h.cells.size
  obtain ⟨i3, hi3, hz3, hsz3, hbt3⟩ := info_parts info3
  obtain ⟨i34, hi34, hz34, hsz34, hbt34⟩ := info_parts info34
  have hbw : BxW w ((w.alloc (.cells ds 26)).alloc (.cells zs26 26)) ds := by
    have b1 := blk_alloc w 26 ds
    have b2 := blk_alloc (w.alloc (.cells ds 26)) 26 zs26
    rw [World.size_alloc] at b2
    exact ⟨((Below.refl _ _).alloc (Nat.le_refl _) _).alloc (by simp) _, b1.alloc _, b2⟩
  have H := Lib.hid (And.intro h (And.intro hr (And.intro hok hAn)))
  have HB := Lib.hid hbw
  have hz26 := zeroV26
  have hld := ldB hbw.box hds
  clear h hr hok hAn hbw
  go_enter Try.func11, Try.ntmps11
  go_upto_block 1 with (fail)
  generalize (w.alloc (.cells ds 26)).alloc (.cells zs26 26) = w1 at HB hld ⊢
  clear hz26
  go_wp2_with fail
  refine (rlive_any ds A1 A2 n2 n2 c1 c2 D RA rc w1 (H.out.1.keep HB.out.bel) H.out.2.1).mono ?_
  rintro e w2 ⟨lv, rfl, hlb, hll, hlv, hb2⟩
  obtain ⟨gl, hgl⟩ : ∃ gl, gl = w1.heap.size + 1 := ⟨_, rfl⟩
  rw [← hgl] at hlb ⊢
  have hbw := HB.out.go hb2
  have hc0 := hlb.cell 0
  rw [bitsV_get (by omega)] at hc0
  have hl0 := hlv 0 (by omega)
  obtain ⟨b0, hb0⟩ : ∃ b0, b0 = lv.getD 0 false := ⟨_, rfl⟩
  rw [← hb0] at hc0 hl0
  have hld := ldB hbw.box hds
  have HL := Lib.hid (And.intro hbw (And.intro hlb (And.intro hll (And.intro hlv hl0))))
  clear HB hbw hb2 hlb hll hlv hl0 hb0 hgl
  cases b0 with
  | false =>
    replace hc0 : w2.cell? ⟨gl, 0, none⟩ = some (.int .i64 0) := hc0
    have hz26 := zeroV26
    have hz58 := size26
    have hw5 := HL.out.1.go (((((Below.refl w2.heap.size w2).alloc (Nat.le_refl _) (.cells #[.int .i64 (-1)] 3)).alloc (by simp) (.cells #[.slice (some ⟨w2.heap.size, 0, none⟩) 1 1] 34))).alloc (by simp; omega) (.cells #[.bool false] 4))
    have hst := storeB_run 26 hw5.r6 (.inl rfl) (e26 (.slice (some ⟨w2.heap.size + 1, 0, none⟩) 1 1) (.slice (some ⟨w2.heap.size + 1 + 1, 0, none⟩) 1 1)) (by rw [zs26_cells, dCells_len]; rfl) (by rw [e26_size]; rfl) (e26_one _ _ _ _ _ _)
    have hed := (empty_in w2).but (B' := w) HL.out.1.bel.size (but_setRow _ (w.heap.size + 1) (e26 (.slice (some ⟨w2.heap.size + 1, 0, none⟩) 1 1) (.slice (some ⟨w2.heap.size + 1 + 1, 0, none⟩) 1 1))) (fun k hk => by have := HL.out.1.r6.lt; omega)
    have hbk := hw5.r6.row (e26 (.slice (some ⟨w2.heap.size + 1, 0, none⟩) 1 1) (.slice (some ⟨w2.heap.size + 1 + 1, 0, none⟩) 1 1))
    have hbe := below_setRow (g := w.heap.size + 1) hw5.bel (by omega) (e26 (.slice (some ⟨w2.heap.size + 1, 0, none⟩) 1 1) (.slice (some ⟨w2.heap.size + 1 + 1, 0, none⟩) 1 1))
    have hun : (zs26.setIfInBounds 256 (.slice (some ⟨w2.heap.size + 1, 0, none⟩) 1 1)).setIfInBounds 257 (.slice (some ⟨w2.heap.size + 1 + 1, 0, none⟩) 1 1) = e26 (.slice (some ⟨w2.heap.size + 1, 0, none⟩) 1 1) (.slice (some ⟨w2.heap.size + 1 + 1, 0, none⟩) 1 1) := rfl
    obtain ⟨ee, hee⟩ : ∃ ee, ee = e26 (.slice (some ⟨w2.heap.size + 1, 0, none⟩) 1 1) (.slice (some ⟨w2.heap.size + 1 + 1, 0, none⟩) 1 1) := ⟨_, rfl⟩
    have hes := e26_size (.slice (some ⟨w2.heap.size + 1, 0, none⟩) 1 1) (.slice (some ⟨w2.heap.size + 1 + 1, 0, none⟩) 1 1)
    rw [← hee] at hst hed hbk hbe hun hes
    have HE := Lib.hid (And.intro hed (And.intro hbk (And.intro hbe hes)))
    clear hw5 hed hbk hbe hee hes hld
    go_wp2_with fail
    (try simp only [Exit.inBlock, Exit.then])
    refine bodyPost_ret (results_cell_row rfl _ _ (w.heap.size + 1) 26 ee.toList.toArray (0, 0) _ rfl HE.out.2.1 Try.underlying26 rfl (by rw [List.size_toArray, Array.length_toList, HE.out.2.2.2]; exact info26)) rfl ?_
    exact ⟨ee, _, _, _, _, 1, _, _, emptyD, by simp, HE.out.1, .inl ⟨fun h9 => (by have := HL.out.2.2.2.2.2 h9; cases this), rfl⟩, HE.out.2.2.1⟩
  | true =>
    replace hc0 : w2.cell? ⟨gl, 0, none⟩ = some (.int .i64 1) := hc0
    have hlive : Live (autOf D) 0 := HL.out.2.2.2.2.1 rfl
    have HLV := Lib.hid hlive
    clear hlive
    go_wp2_with fail
    have hla : Arr w2 w2.heap.size 1 (some ⟨gl, 0, none⟩) n2 (LvC lv) := fun _ => ⟨gl, 0, rfl, HL.out.2.1.lt, fun k j hk hj => by
      obtain rfl : j = 0 := by omega
      rw [show 0 + (k * 1 + 0) = k by omega, HL.out.2.1.cell, bitsV_get (by rw [HL.out.2.2.1]; exact hk)]; rfl⟩
    have HLA := Lib.hid hla
    refine (apart_any ds A1 A2 n2 n2 c1 c2 D RA rc (some ⟨gl, 0, none⟩) n2 lv w2 (H.out.1.keep HL.out.1.bel) H.out.2.1 hla HL.out.2.2.2.1).mono ?_
    rintro e w5 ⟨AT, cT, T, RT, rcT, rfl, hti, htw, htl, hb5⟩
    clear hla
    have hbw := HL.out.1.go hb5
    have hlv5 := (HLA.out.below hb5).more hb5.size
    have HP := Lib.hid (And.intro hbw (And.intro hti (And.intro htw (And.intro htl (And.intro hlv5 HL.out.2.2.2.1)))))
    clear hbw hti htw htl hlv5 hb5 HL HLA hld hc0
    go_wp2_with fail
    have hst : RsA w5 ((w5.alloc (.cells #[.int .i64 0] 3)).alloc (.cells #[] 34)) (.slice (some ⟨w5.heap.size, 0, none⟩) 1 1) (.slice (some ⟨w5.heap.size + 1, 0, none⟩) 0 0) [0] [] (fun _ => none) (fun _ => 0) := by
      have ho := heap_alloc_new (w5.alloc (.cells #[.int .i64 0] 3)) (.cells #[] 34)
      rw [World.size_alloc] at ho
      refine ⟨((Below.refl _ _).alloc (Nat.le_refl _) _).alloc (by simp) _, own_kept (own_one w5 _ _ _ (Nat.le_refl _)) ((Below.refl _ _).alloc (Nat.le_refl _) _), ⟨rfl, rfl, ⟨rfl, .inr ⟨w5.heap.size + 1, 0, #[], rfl, Nat.le_refl _, ho, Nat.le_refl _, by simp [maxLen], rfl, rfl⟩⟩, fun i hi => (by cases hi), World.ownsRow_nil _ _ _ _⟩, fun i hi => (by cases hi)⟩
    have hsb : w5.heap.size + 1 ≤ ((w5.alloc (.cells #[.int .i64 0] 3)).alloc (.cells #[] 34)).heap.size := by simp
    have HS := Lib.hid (And.intro hst hsb)
    clear hst hsb
    generalize (w5.alloc (.cells #[.int .i64 0] 3)).alloc (.cells #[] 34) = w7 at HS ⊢
    have HN := Lib.hid (And.intro hln (And.intro hal hra))
    clear hln hal hra
    go_loopw [5, 6, 7] (fun va vw i wr => ∃ (k : Nat) (met : List Nat) (wide : List (List Int)) (RA1 : Nat → Option Addr) (rc1 : Nat → Nat), i = .int .i64 k ∧ RsA w5 wr va vw met wide RA1 rc1 ∧ w5.heap.size + 1 ≤ wr.heap.size ∧ wide.length = k ∧ BReach (autOf D) ⟨met, [], wide⟩ ∧ k ≤ met.length) (fun _ _ i _ => 400 - (intOf i).toNat)
    case atStart => exact ⟨0, [0], [], _, _, rfl, HS.out.1, HS.out.2, rfl, BReach.start, Nat.zero_le _⟩
    case round =>
      obtain ⟨k, met, wide, RA1, rc1, rfl, hl, hsz, hwl, hbr, hkm⟩ := hrel
      have hinv := hbr.inv H.out.2.2.1 HLV.out
      have hml := hinv.len
      have hml : met.length ≤ n2 := by rw [← H.out.2.2.2]; exact hml
      obtain ⟨Aa, ca, rfl⟩ := own_sl hl.all
      obtain ⟨Aw, cw, rfl⟩ := own_sl hl.wid.on
      obtain ⟨ml, hml9⟩ : ∃ ml, ml = met.length := ⟨_, rfl⟩
      rw [hwl] at hl ⊢
      rw [← hml9] at hml hkm ⊢
      have HL := Lib.hid (And.intro hl (And.intro hwl (And.intro hbr (And.intro hml9 (And.intro hinv hsz)))))
      clear hl hwl hbr hinv hml9 hsz HS
      by_cases hlt : k < ml
      · have hrb := HL.out.1.begin HL.out.2.2.2.2.2
        have HRB := Lib.hid hrb
        clear hrb
        go_wp2_with fail
        obtain ⟨gr, hgr⟩ : ∃ gr, gr = wr.heap.size := ⟨_, rfl⟩
        rw [← hgr] at HRB ⊢
        clear hgr
        generalize wr.alloc (.cells #[] 3) = w8 at HRB ⊢
        have hmlE := HL.out.2.2.2.1
        have hbr := HL.out.2.2.1
        have hwlE := HL.out.2.1
        have hkk : k < met.length := by rw [← hmlE]; exact hlt
        have HW := Lib.hid (And.intro HRB.out (And.intro hbr (And.intro hwlE hkk)))
        rw [hmlE]
        clear hmlE hbr hwlE hkk HL HRB hlt hkm hml
        go_loopw [5, 8, 9] (fun va vr b wx => ∃ (t : Nat) (met : List Nat) (row : List Int) (Aa : Option Addr) (ca : Nat), t ≤ 256 ∧ va = .slice Aa met.length ca ∧ b = .int .i64 t ∧ RsB w5 wx gr (.slice Aa met.length ca) (.slice Aw k cw) vr met wide row RA1 rc1 ∧ row.length = t ∧ BReach (autOf D) ⟨met, row, wide⟩ ∧ k < met.length) (fun _ _ b _ => 256 - (intOf b).toNat)
        case atStart => exact ⟨0, met, [], Aa, ca, by omega, rfl, rfl, HW.out.1, rfl, HW.out.2.1, HW.out.2.2.2⟩
        case round =>
          obtain ⟨t, met, row, Aa, ca, ht, rfl, rfl, hl, hrl, hbr, hkm⟩ := hrel
          obtain ⟨Ar, cr, rfl⟩ := own_sl hl.own
          rw [hrl] at hl ⊢
          have HT := Lib.hid (And.intro hl (And.intro hrl (And.intro hbr hkm)))
          clear hl hrl hbr hkm
          by_cases hlt : t < 256
          · have hl9 := HT.out.1
            have hbw := HP.out.1.go hl9.a.bel
            have hkl := HT.out.2.2.2
            obtain ⟨i, hi⟩ : ∃ i, i = met.getD k 0 := ⟨_, rfl⟩
            have hbi := HT.out.2.2.1.inv H.out.2.2.1 HLV.out
            have hin := hbi.lt k hkl
            replace hin : i < n2 := by rw [hi, ← H.out.2.2.2]; exact hin
            obtain ⟨b0, o0, e0, hb0, hc0⟩ := (nats_arr rfl hl9.a.all).one hkl
            subst e0
            replace hc0 : wr.cell? ⟨b0, o0 + k, none⟩ = some (.int .i64 (i : Int)) := by rw [hc0, hi]; rfl
            have p0 := hbw.box.cell t
            have p1 := hbw.box.cell 256
            rw [show ds.toList[t]? = ds[t]? by simp, H.out.1.cells.cl t hlt] at p0
            rw [show ds.toList[256]? = ds[256]? by simp, H.out.1.cells.nx] at p1
            obtain ⟨b1, o1, e1, hb1, hc1⟩ := H.out.1.next.arr.one hin
            subst e1
            unfold RowC at hc1
            replace hc1 := (hbw.bel.cell (p := ⟨b1, o1 + i, none⟩) hb1).trans hc1
            have hrw := (H.out.2.1.row (i := i) (by rw [HN.out.1]; exact hin)).1
            have hcl := H.out.2.1.cl hlt
            obtain ⟨b2, o2, e2, hb2, hc2⟩ := (H.out.1.next.row i hin).one (k := D.cls t) (by rw [hrw]; exact hcl)
            rw [hrw, e2] at hc1
            unfold NumC at hc2
            replace hc2 := (hbw.bel.cell (p := ⟨b2, o2 + D.cls t, none⟩) hb2).trans hc2
            obtain ⟨x, hx⟩ : ∃ x, x = (D.next.getD i []).getD (D.cls t) 0 := ⟨_, rfl⟩
            rw [← hx] at hc2
            have hxn : x = (autOf D).nx (met.getD k 0) t := by rw [hx, hi]; rfl
            have hxlo := H.out.2.2.1.lo i t (by rw [H.out.2.2.2]; exact hin) hlt
            have hxhi := H.out.2.2.1.hi i t (by rw [H.out.2.2.2]; exact hin) hlt
            replace hxlo : -1 ≤ x := by rw [hx]; exact hxlo
            replace hxhi : x < (n2 : Int) := by rw [hx, ← H.out.2.2.2]; exact hxhi
            obtain ⟨cc, hcc⟩ : ∃ cc, cc = D.cls t := ⟨_, rfl⟩
            obtain ⟨mm, hmm⟩ : ∃ mm, mm = D.many := ⟨_, rfl⟩
            rw [← hcc] at p0 hc2 hcl
            rw [← hmm] at hc1 hcl
            obtain ⟨ml, hml⟩ : ∃ ml, ml = met.length := ⟨_, rfl⟩
            rw [← hml] at hkl ⊢
            have HX := Lib.hid (And.intro hbw (And.intro hxn (And.intro hml hbi)))
            clear hl9 hbw hxn hml hx hcc hmm hrw e2 hbi hi hb0 hb1 hb2
            go_wp2_with fail
            go_quiet (fail)
            have hqd : Below wr.heap.size wr (wr.drewN nq) := below_drewN (Below.refl _ _) nq
            have hl10 := HT.out.1.go hqd
            have H10 := Lib.hid hl10
            clear hl10 hqd hc0 hc1 hc2 p0 p1
            generalize wr.drewN nq = w10 at H10 ⊢
            have hml := HX.out.2.2.1
            have hwlE := HW.out.2.2.1
            have HML := Lib.hid (And.intro hml hwlE)
            clear hml hwlE
            by_cases hneg : x < 0
            · have d1 : decide (0 ≤ x) = false := by simpa using hneg
              have hbr := HT.out.2.2.1.dead (by rw [HML.out.2]; exact HT.out.2.2.2) (by rw [HT.out.2.1]; exact hlt) (.inl (by rw [HML.out.2, HT.out.2.1, ← HX.out.2.1]; exact hneg))
              have HR := Lib.hid hbr
              clear hneg hbr
              have hownr := own_kept H10.out.own ((Below.refl _ _).alloc (Nat.le_refl _) (.cells #[.int .i64 (-1)] 3))
              rw [HT.out.2.1] at hownr
              have y1 : (t + 1) * 8 ≤ 140737488355328 := by omega
              have y2 : t + 1 ≤ maxLen := by unfold maxLen; omega
              have y3 : ∀ v ∈ [Value.int .i64 (-1)], v.oneCell' = true := by intro v hv9; simp at hv9; rw [hv9]; rfl
              have y4 : gr ≤ (w10.alloc (.cells #[.int .i64 (-1)] 3)).heap.size := Nat.le_trans H10.out.g0 (by simp)
              go_wp2_with (first
                | (at_builtin; refine wpList_append_lies _ rfl (.tmp 106) (.tmp 108) 34 rfl gr 3 i3 (.int .i64 0) 1 8 Try.underlying34 hi3 hz3 hsz3 hbt3 rfl (by decide) (.slice Ar t cr) t (numsV .i64 row) rfl hownr ⟨_, 0, none⟩ 1 1 [.int .i64 (-1)] rfl rfl (World.news_of_block (heap_alloc_new _ _)) y3 (by decide) y2 y1 y4 _ rfl ?_; intro g8 c8 w8 hown8 hg8 hat8 hlt8))
              have H8 := Lib.hid (And.intro hown8 (And.intro hg8 hat8))
              clear hown8 hg8 hat8 hlt8 hownr
              go_roundw
              case rel =>
                have hpr := H10.out.pushRow (o := .cells #[.int .i64 (-1)] 3) (g := g8) (v' := .slice (some ⟨g8, 0, none⟩) (t + 1) c8) (x := (-1)) rfl (by rw [HT.out.2.1]; exact H8.out.1) H8.out.2.1 H8.out.2.2
                exact ⟨t + 1, met, row ++ [(-1)], _, _, by omega, by rw [HML.out.1], by go_num, hpr, by rw [List.length_append, HT.out.2.1]; rfl, HR.out, HT.out.2.2.2⟩
              case measure => simp [intOf]; omega
            · have d1 : decide (0 ≤ x) = true := by simpa using hneg
              obtain ⟨j, rfl⟩ : ∃ j : Nat, x = (j : Int) := ⟨x.toNat, by omega⟩
              have hj : j < n2 := by omega
              obtain ⟨bl, ol, el, hbl, hcl9⟩ := HP.out.2.2.2.2.1.one hj
              injection el with el
              injection el with el1 el2
              subst el1
              subst el2
              replace hcl9 := (H10.out.a.bel.cell (p := ⟨gl, 0 + j, none⟩) hbl).trans hcl9
              replace hcl9 : w10.cell? ⟨gl, j, none⟩ = some (.int .i64 (bitI (lv.getD j false))) := by rw [Nat.zero_add] at hcl9; exact hcl9
              have hlvj := HP.out.2.2.2.2.2 j hj
              obtain ⟨vb, hvb⟩ : ∃ vb, vb = lv.getD j false := ⟨_, rfl⟩
              rw [← hvb] at hcl9 hlvj
              have hnx : ((autOf D).nx (met.getD k 0) t).toNat = j := by rw [← HX.out.2.1]; rfl
              have HJ := Lib.hid (And.intro hlvj hnx)
              clear hvb hlvj hnx hneg hbl
              cases vb with
              | false =>
                rw [show bitI false = 0 from rfl] at hcl9
                have hbr := HT.out.2.2.1.dead (by rw [HML.out.2]; exact HT.out.2.2.2) (by rw [HT.out.2.1]; exact hlt) (.inr (by rw [HML.out.2, HT.out.2.1, HJ.out.2]; exact fun h9 => (by have := HJ.out.1.2 h9; cases this)))
                have HR := Lib.hid hbr
                clear hbr
                have hownr := own_kept H10.out.own ((Below.refl _ _).alloc (Nat.le_refl _) (.cells #[.int .i64 (-1)] 3))
                rw [HT.out.2.1] at hownr
                have y1 : (t + 1) * 8 ≤ 140737488355328 := by omega
                have y2 : t + 1 ≤ maxLen := by unfold maxLen; omega
                have y3 : ∀ v ∈ [Value.int .i64 (-1)], v.oneCell' = true := by intro v hv9; simp at hv9; rw [hv9]; rfl
                have y4 : gr ≤ (w10.alloc (.cells #[.int .i64 (-1)] 3)).heap.size := Nat.le_trans H10.out.g0 (by simp)
                go_wp2_with (first
                  | (at_builtin; refine wpList_append_lies _ rfl (.tmp 106) (.tmp 108) 34 rfl gr 3 i3 (.int .i64 0) 1 8 Try.underlying34 hi3 hz3 hsz3 hbt3 rfl (by decide) (.slice Ar t cr) t (numsV .i64 row) rfl hownr ⟨_, 0, none⟩ 1 1 [.int .i64 (-1)] rfl rfl (World.news_of_block (heap_alloc_new _ _)) y3 (by decide) y2 y1 y4 _ rfl ?_; intro g8 c8 w8 hown8 hg8 hat8 hlt8))
                have H8 := Lib.hid (And.intro hown8 (And.intro hg8 hat8))
                clear hown8 hg8 hat8 hlt8 hownr
                go_roundw
                case rel =>
                  have hpr := H10.out.pushRow (o := .cells #[.int .i64 (-1)] 3) (g := g8) (v' := .slice (some ⟨g8, 0, none⟩) (t + 1) c8) (x := (-1)) rfl (by rw [HT.out.2.1]; exact H8.out.1) H8.out.2.1 H8.out.2.2
                  exact ⟨t + 1, met, row ++ [(-1)], _, _, by omega, by rw [HML.out.1], by go_num, hpr, by rw [List.length_append, HT.out.2.1]; rfl, HR.out, HT.out.2.2.2⟩
                case measure => simp [intOf]; omega
              | true =>
                rw [show bitI true = 1 from rfl] at hcl9
                have hlj : Live (autOf D) j := HJ.out.1.1 rfl
                have hnd : ¬ Dead (autOf D) (met.getD k 0) t := fun h9 => by
                  rcases h9 with h9 | h9
                  · rw [← HX.out.2.1] at h9; omega
                  · rw [HJ.out.2] at h9; exact h9 hlj
                have HND := Lib.hid (And.intro hnd hlj)
                clear hnd hlj
                have hmt : ∀ u, u < ml → w10.cell? ⟨b0, o0 + u, none⟩ = some (.int .i64 ((met.getD u 0 : Nat) : Int)) := fun u hu => by
                  obtain ⟨b9, o9, e9, _, hc9⟩ := (nats_arr rfl H10.out.a.all).one (k := u) (by rw [← HML.out.1]; exact hu)
                  injection e9 with e9
                  injection e9 with e91 e92
                  rw [e91, e92, hc9]; rfl
                have HMT := Lib.hid hmt
                clear hmt
                have hml4 : ml ≤ 400 := by
                  have h9 := HX.out.2.2.2.len
                  rw [HML.out.1]
                  rw [H.out.2.2.2] at h9
                  exact Nat.le_trans h9 hn4
                go_wp2_with fail
                go_loopw [11, 79] (fun kv u wx => ∃ (u' : Nat) (kv' : Int), u' ≤ ml ∧ kv = .int .i64 kv' ∧ u = .int .i64 u' ∧ wx = w10 ∧ Fst (fun q => tb T j (met.getD q 0)) u' kv') (fun _ u _ => ml - (intOf u).toNat)
                case atStart => exact ⟨0, -1, by omega, rfl, rfl, rfl, Fst.zero _⟩
                case round =>
                  obtain ⟨u, kv, hu, rfl, rfl, rfl, hf⟩ := hrel
                  have HF := Lib.hid hf
                  have hfl := hf.lo
                  clear hf
                  by_cases hul : u < ml
                  · have hcm := HMT.out u hul
                    obtain ⟨mv, hmv⟩ : ∃ mv, mv = met.getD u 0 := ⟨_, rfl⟩
                    rw [← hmv] at hcm
                    have hmn : mv < n2 := by
                      have h9 := HX.out.2.2.2.lt u (by rw [← HML.out.1]; exact hul)
                      rw [H.out.2.2.2] at h9
                      rw [hmv]; exact h9
                    have HMV := Lib.hid hmv
                    clear hmv
                    by_cases hk0 : kv < 0
                    · have d2 : decide (kv < 0) = true := by simpa using hk0
                      obtain ⟨bt, ot, et, hbt, hct⟩ := HP.out.2.1.arr.one hj
                      subst et
                      unfold RowC at hct
                      rw [bits_row, bits_len, HP.out.2.2.1 j hj] at hct
                      replace hct := (H10.out.a.bel.cell (p := ⟨bt, ot + j, none⟩) hbt).trans hct
                      obtain ⟨bu, ou, eu, hbu, hcu⟩ := (HP.out.2.1.row j hj).one (k := mv) (by rw [bits_row, bits_len, HP.out.2.2.1 j hj]; exact hmn)
                      rw [eu] at hct
                      unfold NumC at hcu
                      rw [bits_row, bits_get] at hcu
                      replace hcu := (H10.out.a.bel.cell (p := ⟨bu, ou + mv, none⟩) hbu).trans hcu
                      have htb : (T.getD j []).getD mv false = tb T j (met.getD u 0) := by rw [← HMV.out]; rfl
                      rw [htb] at hcu
                      obtain ⟨vb, hvb⟩ : ∃ vb, vb = tb T j (met.getD u 0) := ⟨_, rfl⟩
                      rw [← hvb] at hcu
                      have HVB := Lib.hid (And.intro hvb hk0)
                      clear hvb htb eu hbt hbu hk0
                      cases vb with
                      | true =>
                        rw [show bitI true = 1 from rfl] at hcu
                        go_wp2_with fail
                        go_roundw
                        case rel => exact ⟨u + 1, kv, by omega, rfl, by go_num, by first | rfl | trivial, HF.out.skip HVB.out.1.symm⟩
                        case measure => simp [intOf]; omega
                      | false =>
                        rw [show bitI false = 0 from rfl] at hcu
                        go_wp2_with fail
                        go_roundw
                        case rel => exact ⟨u + 1, u, by omega, rfl, by go_num, by first | rfl | trivial, HF.out.hit HVB.out.2 HVB.out.1.symm⟩
                        case measure => simp [intOf]; omega
                    · have d2 : decide (kv < 0) = false := by simpa using hk0
                      have HK0 := Lib.hid hk0
                      clear hk0
                      go_wp2_with fail
                      go_roundw
                      case rel => exact ⟨u + 1, kv, by omega, rfl, by go_num, by first | rfl | trivial, HF.out.keep (by have := HK0.out; omega)⟩
                      case measure => simp [intOf]; omega
                  · have hue : u = ml := by omega
                    have hfx := fst_idx (A := autOf D) (T := T) (met := met) (j := j) (kv := kv) (by rw [← HML.out.1, ← hue]; exact HF.out) (fun q hq => HP.out.2.2.2.1 j (met.getD q 0) hj (by
                      have h9 := HX.out.2.2.2.lt q hq
                      rwa [H.out.2.2.2] at h9))
                    have HFX := Lib.hid hfx
                    clear hfx
                    by_cases hk0 : kv < 0
                    · have d2 : decide (kv < 0) = true := by simpa using hk0
                      have hkx : idxL (autOf D) met j = met.length := by
                        rcases HFX.out with h9 | h9
                        · exact h9.2
                        · omega
                      have hbr := HT.out.2.2.1.new (by rw [HML.out.2]; exact HT.out.2.2.2) (by rw [HT.out.2.1]; exact hlt) (by rw [HML.out.2, HT.out.2.1]; exact HND.out.1) (j := j) (by rw [HML.out.2, HT.out.2.1]; exact HJ.out.2) hkx
                      rw [← HML.out.1] at hbr
                      have HR := Lib.hid hbr
                      have hmln := HX.out.2.2.2.len
                      replace hmln : ml ≤ n2 := by rw [HML.out.1, ← H.out.2.2.2]; exact hmln
                      have hownm := own_kept H10.out.a.all ((Below.refl _ _).alloc (Nat.le_refl _) (.cells #[.int .i64 (j : Int)] 3))
                      rw [← HML.out.1] at hownm
                      have z1 : (ml + 1) * 8 ≤ 140737488355328 := by omega
                      have z2 : ml + 1 ≤ maxLen := by unfold maxLen; omega
                      have z3 : ∀ v ∈ [Value.int .i64 (j : Int)], v.oneCell' = true := by intro v hv9; simp at hv9; rw [hv9]; rfl
                      have z4 : w5.heap.size ≤ (wr.alloc (.cells #[.int .i64 (j : Int)] 3)).heap.size := (H10.out.a.bel.alloc H10.out.a.bel.size _).size
                      clear hbr hkx hk0 hue
                      go_upto_region 26 with (first
                        | (at_builtin; refine wpList_append_lies _ rfl (.tmp 102) (.tmp 104) 34 rfl w5.heap.size 3 i3 (.int .i64 0) 1 8 Try.underlying34 hi3 hz3 hsz3 hbt3 rfl (by decide) (.slice (some ⟨b0, o0, none⟩) ml ca) ml (natsV met) rfl hownm ⟨_, 0, none⟩ 1 1 [.int .i64 (j : Int)] rfl rfl (World.news_of_block (heap_alloc_new _ _)) z3 (by decide) z2 z1 z4 _ rfl ?_; intro g7 c7 w11 hown7 hg7 hat7 hlt7))
                      have H11 : Hid (RsB w5 w11 gr (.slice (some ⟨g7, 0, none⟩) (ml + 1) c7) (.slice Aw k cw) (.slice Ar t cr) (met ++ [j]) wide row RA1 rc1) := Lib.hid (H10.out.pushMet (o := .cells #[.int .i64 (j : Int)] 3) (g := g7) rfl (by rw [← HML.out.1]; exact hown7) hg7 hat7)
                      clear hown7 hg7 hat7 hlt7 hownm z1 z2 z3 z4
                      have hl9 : (met ++ [j]).length = ml + 1 := by rw [List.length_append, ← HML.out.1]; rfl
                      have HL9 := Lib.hid hl9
                      clear hl9
                      have hownr := own_kept H11.out.own ((Below.refl _ _).alloc (Nat.le_refl _) (.cells #[.int .i64 (ml : Int)] 3))
                      rw [HT.out.2.1] at hownr
                      have y1 : (t + 1) * 8 ≤ 140737488355328 := by omega
                      have y2 : t + 1 ≤ maxLen := by unfold maxLen; omega
                      have y3 : ∀ v ∈ [Value.int .i64 (ml : Int)], v.oneCell' = true := by intro v hv9; simp at hv9; rw [hv9]; rfl
                      have y4 : gr ≤ (w11.alloc (.cells #[.int .i64 (ml : Int)] 3)).heap.size := Nat.le_trans H11.out.g0 (by simp)
                      go_wp2_with (first
                        | (at_builtin; refine wpList_append_lies _ rfl (.tmp 106) (.tmp 108) 34 rfl gr 3 i3 (.int .i64 0) 1 8 Try.underlying34 hi3 hz3 hsz3 hbt3 rfl (by decide) (.slice Ar t cr) t (numsV .i64 row) rfl hownr ⟨_, 0, none⟩ 1 1 [.int .i64 (ml : Int)] rfl rfl (World.news_of_block (heap_alloc_new _ _)) y3 (by decide) y2 y1 y4 _ rfl ?_; intro g8 c8 w8 hown8 hg8 hat8 hlt8))
                      have H8 := Lib.hid (And.intro hown8 (And.intro hg8 hat8))
                      clear hown8 hg8 hat8 hlt8 hownr
                      go_roundw
                      case rel =>
                        have hpr := H11.out.pushRow (o := .cells #[.int .i64 (ml : Int)] 3) (g := g8) (v' := .slice (some ⟨g8, 0, none⟩) (t + 1) c8) (x := (ml : Int)) rfl (by rw [HT.out.2.1]; exact H8.out.1) H8.out.2.1 H8.out.2.2
                        exact ⟨t + 1, met ++ [j], row ++ [(ml : Int)], _, _, by omega, by rw [HL9.out], by go_num, by rw [HL9.out]; exact hpr, by rw [List.length_append, HT.out.2.1]; rfl, HR.out, by have := HL9.out; omega⟩
                      case measure => simp [intOf]; omega
                    · have d2 : decide (kv < 0) = false := by simpa using hk0
                      obtain ⟨kk, rfl⟩ : ∃ kk : Nat, kv = (kk : Int) := ⟨kv.toNat, by omega⟩
                      have hkx : idxL (autOf D) met j = kk ∧ kk < met.length := by
                        rcases HFX.out with h9 | h9
                        · omega
                        · have e9 : kk = idxL (autOf D) met j := by omega
                          exact ⟨e9.symm, by rw [e9]; exact h9.2⟩
                      have hbr := HT.out.2.2.1.old (by rw [HML.out.2]; exact HT.out.2.2.2) (by rw [HT.out.2.1]; exact hlt) (by rw [HML.out.2, HT.out.2.1]; exact HND.out.1) (j := j) (k := kk) (by rw [HML.out.2, HT.out.2.1]; exact HJ.out.2) hkx.1 hkx.2
                      have HR := Lib.hid hbr
                      clear hbr hkx hk0 hue
                      have hownr := own_kept H10.out.own ((Below.refl _ _).alloc (Nat.le_refl _) (.cells #[.int .i64 (kk : Int)] 3))
                      rw [HT.out.2.1] at hownr
                      have y1 : (t + 1) * 8 ≤ 140737488355328 := by omega
                      have y2 : t + 1 ≤ maxLen := by unfold maxLen; omega
                      have y3 : ∀ v ∈ [Value.int .i64 (kk : Int)], v.oneCell' = true := by intro v hv9; simp at hv9; rw [hv9]; rfl
                      have y4 : gr ≤ (wr.alloc (.cells #[.int .i64 (kk : Int)] 3)).heap.size := Nat.le_trans H10.out.g0 (by simp)
                      go_wp2_with (first
                        | (at_builtin; refine wpList_append_lies _ rfl (.tmp 106) (.tmp 108) 34 rfl gr 3 i3 (.int .i64 0) 1 8 Try.underlying34 hi3 hz3 hsz3 hbt3 rfl (by decide) (.slice Ar t cr) t (numsV .i64 row) rfl hownr ⟨_, 0, none⟩ 1 1 [.int .i64 (kk : Int)] rfl rfl (World.news_of_block (heap_alloc_new _ _)) y3 (by decide) y2 y1 y4 _ rfl ?_; intro g8 c8 w8 hown8 hg8 hat8 hlt8))
                      have H8 := Lib.hid (And.intro hown8 (And.intro hg8 hat8))
                      clear hown8 hg8 hat8 hlt8 hownr
                      go_roundw
                      case rel =>
                        have hpr := H10.out.pushRow (o := .cells #[.int .i64 (kk : Int)] 3) (g := g8) (v' := .slice (some ⟨g8, 0, none⟩) (t + 1) c8) (x := (kk : Int)) rfl (by rw [HT.out.2.1]; exact H8.out.1) H8.out.2.1 H8.out.2.2
                        exact ⟨t + 1, met, row ++ [(kk : Int)], _, _, by omega, by rw [HML.out.1], by go_num, hpr, by rw [List.length_append, HT.out.2.1]; rfl, HR.out, HT.out.2.2.2⟩
                      case measure => simp [intOf]; omega
          · obtain rfl : t = 256 := by omega
            have hta := HT.out.1.go ((Below.refl _ _).alloc (Nat.le_refl _) (.cells #[.slice Ar 256 cr] 34))
            have hona := hta.a.wid.on
            rw [HW.out.2.2.1] at hona
            obtain ⟨xs, hxs⟩ : ∃ xs, xs = (List.range k).map (fun i => Value.slice (RA1 i) (wide.getD i []).length (rc1 i)) := ⟨_, rfl⟩
            rw [← hxs] at hona
            have hk4 : k < 400 := by
              have h8 := (HT.out.2.2.1.inv H.out.2.2.1 HLV.out).len
              have h7 := HT.out.2.2.2
              have h8 : met.length ≤ n2 := by rw [← H.out.2.2.2]; exact h8
              omega
            have y1 : (k + 1) * 24 ≤ 140737488355328 := by omega
            have y2 : k + 1 ≤ maxLen := by unfold maxLen; omega
            have y3 : ∀ v ∈ [Value.slice Ar 256 cr], v.oneCell' = true := by intro v hv9; simp at hv9; rw [hv9]; rfl
            have y4 : w5.heap.size + 1 ≤ (wr.alloc (.cells #[.slice Ar 256 cr] 34)).heap.size := by
              have h9 := HT.out.1.hgr
              have h8 := hta.g0
              omega
            have hbr := HT.out.2.2.1.row (by rw [HW.out.2.2.1]; exact HT.out.2.2.2) HT.out.2.1
            have HXS := Lib.hid (And.intro hxs (And.intro hta hbr))
            clear hxs hta hbr
            go_wp2_with (first
              | (at_builtin; refine wpList_append_lies _ rfl (.tmp 110) (.tmp 112) 23 rfl (w5.heap.size + 1) 34 i34 (.slice none 0 0) 1 24 Try.underlying23 hi34 hz34 hsz34 hbt34 rfl (by decide) (.slice Aw k cw) k xs rfl hona ⟨_, 0, none⟩ 1 1 [.slice Ar 256 cr] rfl rfl (World.news_of_block (heap_alloc_new _ _)) y3 (by decide) y2 y1 y4 _ rfl ?_; intro g8 c8 w8 hown8 hg8 hat8 hlt8))
            have H8 := Lib.hid (And.intro hown8 hg8)
            clear hown8 hg8 hat8 hlt8 hona
            go_roundw
            case rel =>
              have hd := RsB.done (A := Ar) (c := cr) (W := wr) (W' := w8) (v' := .slice (some ⟨g8, 0, none⟩) (k + 1) c8) (o := .cells #[.slice Ar 256 cr] 34) (by rw [HT.out.2.1]; exact HT.out.1) (by rw [HW.out.2.2.1, HT.out.2.1, ← HXS.out.1]; exact H8.out.1) H8.out.2
              exact ⟨k + 1, met, wide ++ [row], _, _, by go_num, hd, by
                have h9 := HT.out.1.hgr
                have h8 := HXS.out.2.1.g0
                have h7 := H8.out.2.size
                omega, by rw [List.length_append, HW.out.2.2.1]; rfl, HXS.out.2.2, by have := HT.out.2.2.2; omega⟩
            case measure => simp [intOf]; omega
      · have hke : k = ml := by omega
        have hbw := HP.out.1.go HL.out.1.bel
        have hend : BEnd (autOf D) ⟨met, [], wide⟩ := ⟨HL.out.2.2.1, by show met.length ≤ wide.length; rw [HL.out.2.1, ← HL.out.2.2.2.1]; omega⟩
        have hps := HL.out.2.2.2.2.1.pos
        have hps : 1 ≤ k := by rw [hke, HL.out.2.2.2.1]; exact hps
        have hrows : ∀ i, i < k → (wide.getD i []).length = 256 := fun i hi => (HL.out.2.2.2.2.1.rows i (by rw [HL.out.2.1]; exact hi)).1
        have hri := HL.out.1.inn HL.out.2.1 hrows (by omega)
        have hmE : met.length = k := by rw [← HL.out.2.2.2.1, ← hke]
        have hna : Arr wr wr.heap.size 1 Aa k (NatC met) := by
          have h9 := HL.out.1.all
          rw [hmE] at h9
          exact nats_arr hmE h9
        have hmlt : ∀ i, i < k → met.getD i 0 < n2 := fun i hi => by
          have h9 := HL.out.2.2.2.2.1.lt i (by show i < met.length; rw [hmE]; exact hi)
          rw [H.out.2.2.2] at h9
          exact h9
        have hk4 : k ≤ 400 := by omega
        have hot := OutW.start wr
        have hz26 := zeroV26
        have hz58 := size26
        have hst := storeB_run 26 (blk_alloc wr 26 zs26) (.inl rfl) zs26 (by rw [zs26_cells, dCells_len]; rfl) (by rw [size26]; rfl) zs26_one
        have hgp : wr.heap.size + 1 ≤ ((wr.alloc (.cells zs26 26)).setRow wr.heap.size zs26).heap.size := by simp [World.setRow]
        obtain ⟨w1, hw1⟩ : ∃ w1, w1 = (wr.alloc (.cells zs26 26)).setRow wr.heap.size zs26 := ⟨_, rfl⟩
        rw [← hw1] at hot hst hgp
        have HQ := Lib.hid (And.intro hbw (And.intro hend (And.intro hri (And.intro hmE (And.intro hna (And.intro hmlt (And.intro HL.out.2.1 hrows)))))))
        have HO := Lib.hid hot
        have hkl : ¬ k < ml := hlt
        subst hke
        clear hbw hend hrows hri hmE hna hmlt hot hw1 HL
        go_wp2_with fail
        clear hz26 hz58 hst
        obtain ⟨wB, rfl⟩ : ∃ wB, wB = wr := ⟨_, rfl⟩
        obtain ⟨g14, hg14⟩ : ∃ g14, g14 = wB.heap.size := ⟨_, rfl⟩
        rw [← hg14] at HO ⊢
        obtain ⟨g15, hg15⟩ : ∃ g15, g15 = w1.heap.size := ⟨_, rfl⟩
        rw [← hg15] at HO ⊢
        clear hg15 hgp
        have HG := Lib.hid hg14
        clear hg14
        generalize w1.alloc (.cells #[] 3) = w2 at HO ⊢
        go_loopw [15, 16] (fun vl b wx => ∃ t : Nat, t ≤ 256 ∧ b = .int .i64 t ∧ OutW wB wx g14 vl (narrowK wide t).2 (narrowK wide t).1 (.slice none 0 0) (.slice none 0 0)) (fun _ b _ => 256 - (intOf b).toNat)
        case atStart => exact ⟨0, by omega, rfl, HO.out⟩
        case round =>
          obtain ⟨t, ht, rfl, ho⟩ := hrel
          obtain ⟨Av, cv, rfl⟩ := own_sl ho.own
          have hnk := narrowK_len wide t
          have hnl := (nar_lt wide t).2
          obtain ⟨ls, hls⟩ : ∃ ls, ls = (narrowK wide t).2 := ⟨_, rfl⟩
          obtain ⟨cl, hcl⟩ : ∃ cl, cl = (narrowK wide t).1 := ⟨_, rfl⟩
          rw [← hls, ← hcl] at ho hnk
          rw [← hls] at hnl ⊢
          obtain ⟨ll, hll⟩ : ∃ ll, ll = ls.length := ⟨_, rfl⟩
          rw [← hll] at ho hnk ⊢
          have hll2 : ll ≤ 256 := by omega
          have HT := Lib.hid (And.intro ho (And.intro hnk (And.intro hnl (And.intro hls (And.intro hcl hll)))))
          clear ho hnk hnl hls hcl hll HO
          by_cases htl : t < 256
          · have dt : decide ((t : Int) < 256) = true := by simp; omega
            go_wp2_with fail
            clear dt
            go_loopw [17, 122] (fun kv u wx => ∃ (u' : Nat) (kv' : Int), u' ≤ ll ∧ kv = .int .i64 kv' ∧ u = .int .i64 u' ∧ OutW wB wx g14 (.slice Av ll cv) ls cl (.slice none 0 0) (.slice none 0 0) ∧ Fst (fun q => !SameU wide t (ls.getD q 0) k) u' kv') (fun _ u _ => ll - (intOf u).toNat)
            case atStart => exact ⟨0, -1, by omega, rfl, rfl, HT.out.1, Fst.zero _⟩
            case round =>
              obtain ⟨u, kv, hu, rfl, rfl, ho, hf⟩ := hrel
              have hfl := hf.lo
              have HU := Lib.hid (And.intro ho hf)
              clear ho hf
              by_cases hul : u < ll
              · obtain ⟨b9, o9, e9, _, hc9⟩ := (nats_arr HT.out.2.2.2.2.2.symm (by have h8 := HU.out.1.own; rw [← HT.out.2.2.2.2.2] at h8; exact h8)).one (k := u) hul
                subst e9
                unfold NatC at hc9
                have hlt2 := HT.out.2.2.1 (ls.getD u 0) (by
                  rw [List.getD_eq_getElem?_getD, List.getElem?_eq_getElem (by rw [← HT.out.2.2.2.2.2]; exact hul)]; exact List.getElem_mem _)
                obtain ⟨l, hl⟩ : ∃ l, l = ls.getD u 0 := ⟨_, rfl⟩
                rw [← hl] at hc9 hlt2
                have HLL := Lib.hid hl
                clear hl
                go_wp2_with fail
                go_loopw [20, 129] (fun sv i wx => ∃ (i' : Nat), i' ≤ k ∧ sv = .bool (SameU wide t l i') ∧ i = .int .i64 i' ∧ OutW wB wx g14 (.slice (some ⟨b9, o9, none⟩) ll cv) ls cl (.slice none 0 0) (.slice none 0 0)) (fun _ i _ => k - (intOf i).toNat)
                case atStart => exact ⟨0, by omega, rfl, rfl, HU.out.1⟩
                case round =>
                  obtain ⟨i, hi, rfl, rfl, ho⟩ := hrel
                  obtain ⟨s, hs⟩ : ∃ s, s = SameU wide t l i := ⟨_, rfl⟩
                  rw [← hs]
                  have HI := Lib.hid (And.intro hs ho)
                  clear hs ho
                  by_cases hil : i < k
                  · obtain ⟨b1, o1, e1, hb1, hc1⟩ := HQ.out.2.2.1.arr.one hil
                    subst e1
                    unfold RowC at hc1
                    rw [HQ.out.2.2.2.2.2.2.2 i hil] at hc1
                    replace hc1 := (HI.out.2.bel.cell (p := ⟨b1, o1 + i, none⟩) hb1).trans hc1
                    obtain ⟨b2, o2, e2, hb2, hc2⟩ := (HQ.out.2.2.1.row i hil).one (k := t) (by rw [HQ.out.2.2.2.2.2.2.2 i hil]; exact htl)
                    obtain ⟨b3, o3, e3, hb3, hc3⟩ := (HQ.out.2.2.1.row i hil).one (k := l) (by rw [HQ.out.2.2.2.2.2.2.2 i hil]; omega)
                    rw [e2] at hc1 e3
                    injection e3 with e3
                    injection e3 with e31 e32
                    subst e31
                    subst e32
                    unfold NumC at hc2 hc3
                    replace hc2 := (HI.out.2.bel.cell (p := ⟨b2, o2 + t, none⟩) hb2).trans hc2
                    replace hc3 := (HI.out.2.bel.cell (p := ⟨b2, o2 + l, none⟩) hb3).trans hc3
                    obtain ⟨x, hx⟩ : ∃ x, x = (wide.getD i []).getD t 0 := ⟨_, rfl⟩
                    obtain ⟨y, hy⟩ : ∃ y, y = (wide.getD i []).getD l 0 := ⟨_, rfl⟩
                    rw [← hx] at hc2
                    rw [← hy] at hc3
                    have hsu := sameU_succ wide t l i
                    rw [← hx, ← hy, ← HI.out.1] at hsu
                    have HSU := Lib.hid hsu
                    clear hx hy hsu e2 hb1 hb2 hb3
                    cases s with
                    | false =>
                      go_wp2_with fail
                      go_quiet (fail)
                      go_wp2_with fail
                      go_roundw
                      case rel => exact ⟨i + 1, by omega, by rw [HSU.out]; rfl, by go_num, HI.out.2.go (below_drewN (Below.refl _ _) nq)⟩
                      case measure => simp [intOf]; omega
                    | true =>
                      go_wp2_with fail
                      go_quiet (fail)
                      generalize hz : (x == y) = z
                      have HZ := Lib.hid hz
                      clear hz
                      go_wp2_with fail
                      go_roundw
                      case rel => exact ⟨i + 1, by omega, by rw [HSU.out, HZ.out]; rfl, by go_num, HI.out.2.go (below_drewN (Below.refl _ _) nq)⟩
                      case measure => simp [intOf]; omega
                  · have hie : i = k := by omega
                    have hs9 := HI.out.1
                    rw [hie] at hs9
                    have HS9 := Lib.hid hs9
                    clear hs9
                    have hfu : (fun q => !SameU wide t (ls.getD q 0) k) u = !s := by
                      show (!SameU wide t (ls.getD u 0) k) = !s
                      rw [← HLL.out, HS9.out]
                    have HFU := Lib.hid hfu
                    clear hfu hie
                    cases s with
                    | false =>
                      go_wp2_with fail
                      go_roundw
                      case rel => exact ⟨u + 1, kv, by omega, rfl, by go_num, HI.out.2, HU.out.2.skip (HFU.out.trans rfl)⟩
                      case measure => simp [intOf]; omega
                    | true =>
                      by_cases hk0 : kv < 0
                      · have d2 : decide (kv < 0) = true := by simpa using hk0
                        have HK0 := Lib.hid hk0
                        clear hk0
                        go_wp2_with fail
                        go_roundw
                        case rel => exact ⟨u + 1, u, by omega, rfl, by go_num, HI.out.2, HU.out.2.hit HK0.out (HFU.out.trans rfl)⟩
                        case measure => simp [intOf]; omega
                      · have d2 : decide (kv < 0) = false := by simpa using hk0
                        have HK0 := Lib.hid hk0
                        clear hk0
                        go_wp2_with fail
                        go_roundw
                        case rel => exact ⟨u + 1, kv, by omega, rfl, by go_num, HI.out.2, HU.out.2.keep (by have := HK0.out; omega)⟩
                        case measure => simp [intOf]; omega
              · have hue : u = ll := by omega
                have hfd := Fst.find (l := ls) (d := 0) (f := fun q => !SameU wide t (ls.getD q 0) k) (kv := kv) (p := fun l => colOf wide l == colOf wide t) (by rw [← HT.out.2.2.2.2.2, ← hue]; exact HU.out.2) (fun q hq => by
                  show (!SameU wide t (ls.getD q 0) k) = _
                  rw [← HQ.out.2.2.2.2.2.2.1, sameU_all])
                have hns := narrowK_succ wide t
                rw [← HT.out.2.2.2.1, ← HT.out.2.2.2.2.1] at hns
                have HFD := Lib.hid (And.intro hfd hns)
                have hcb := HU.out.1.box.cell t
                rw [dCells_get _ _ _ htl] at hcb
                have hfz := HU.out.1.box.frozen t
                obtain ⟨c9, hc9⟩ : ∃ c9 : Int, c9 = ((cl.getD t 0 : Nat) : Int) := ⟨_, rfl⟩
                rw [← hc9] at hcb
                clear hfd hns hc9 hue
                by_cases hk0 : kv < 0
                · have d2 : decide (kv < 0) = true := by simpa using hk0
                  have hid : ls.findIdx (fun l => colOf wide l == colOf wide t) = ls.length := by
                    rcases HFD.out.1 with h9 | h9
                    · exact h9.2
                    · omega
                  have hnx := HFD.out.2
                  rw [hid, if_neg (Nat.lt_irrefl _), ← HT.out.2.2.2.2.2] at hnx
                  have HNX := Lib.hid hnx
                  have hll3 : ll < 256 := by have := HT.out.2.1.2; omega
                  have e2 : IntKind.u8.wrap (ll : Int) = (ll : Int) := wrapU8 hll3
                  have hown := own_kept HU.out.1.own ((Below.refl _ _).alloc (Nat.le_refl _) (.cells #[.int .i64 (t : Int)] 3))
                  rw [← HT.out.2.2.2.2.2] at hown
                  have y1 : (ll + 1) * 8 ≤ 140737488355328 := by omega
                  have y2 : ll + 1 ≤ maxLen := by unfold maxLen; omega
                  have y3 : ∀ v ∈ [Value.int .i64 (t : Int)], v.oneCell' = true := by intro v hv9; simp at hv9; rw [hv9]; rfl
                  have y4 : wB.heap.size + 1 ≤ (wr.alloc (.cells #[.int .i64 (t : Int)] 3)).heap.size := by have h9 := HU.out.1.box.lt; rw [HG.out] at h9; simp; omega
                  clear hid hnx hk0
                  go_wp2_with (first
                    | (at_builtin; refine wpList_append_lies _ rfl (.tmp 157) (.tmp 159) 34 rfl (wB.heap.size + 1) 3 i3 (.int .i64 0) 1 8 Try.underlying34 hi3 hz3 hsz3 hbt3 rfl (by decide) (.slice Av ll cv) ll (natsV ls) rfl hown ⟨_, 0, none⟩ 1 1 [.int .i64 (t : Int)] rfl rfl (World.news_of_block (heap_alloc_new _ _)) y3 (by decide) y2 y1 y4 _ rfl ?_; intro g7 c7 w7 hown7 hg7 hat7 hlt7; have HW7 := Lib.hid (HU.out.1.push (W' := w7) (v := .slice (some ⟨g7, 0, none⟩) (ll + 1) c7) (x := t) (by rw [← HT.out.2.2.2.2.2]; exact hown7) hg7); have hcb7 := HW7.out.box.cell t; rw [dCells_get _ _ _ htl] at hcb7; have hfz7 := HW7.out.box.frozen t))
                  go_roundw
                  case rel =>
                    have hput := HW7.out.put (j := t) (v := .int .u8 (ll : Int)) (dCells_set htl HT.out.2.1.1)
                    refine ⟨t + 1, by omega, by go_num, ?_⟩
                    rw [HNX.out]
                    exact hput
                  case measure => simp [intOf]; omega
                · have d2 : decide (kv < 0) = false := by simpa using hk0
                  obtain ⟨kk, rfl⟩ : ∃ kk : Nat, kv = (kk : Int) := ⟨kv.toNat, by omega⟩
                  have hid : ls.findIdx (fun l => colOf wide l == colOf wide t) = kk ∧ kk < ls.length := by
                    rcases HFD.out.1 with h9 | h9
                    · omega
                    · have e9 : kk = ls.findIdx (fun l => colOf wide l == colOf wide t) := by omega
                      exact ⟨e9.symm, by rw [e9]; exact h9.2⟩
                  have hnx := HFD.out.2
                  rw [hid.1, if_pos hid.2] at hnx
                  have hkk2 := hid.2
                  rw [← HT.out.2.2.2.2.2] at hkk2
                  have HNX := Lib.hid hnx
                  have e2 : IntKind.u8.wrap (kk : Int) = (kk : Int) := wrapU8 (by omega)
                  clear hid hnx hk0
                  go_wp2_with fail
                  go_roundw
                  case rel =>
                    have hput := HU.out.1.put (j := t) (v := .int .u8 (kk : Int)) (dCells_set htl HT.out.2.1.1)
                    refine ⟨t + 1, by omega, by go_num, ?_⟩
                    rw [HNX.out]
                    exact hput
                  case measure => simp [intOf]; omega
          · have ht6 : t = 256 := by omega
            have hcl6 := HT.out.2.2.2.2.1
            have hls6 := HT.out.2.2.2.1
            have hnl6 := nar_lt wide t
            rw [← hcl6, ← hls6] at hnl6
            rw [ht6] at hcl6 hls6
            have HN6 := Lib.hid (And.intro hcl6 (And.intro hls6 (And.intro HT.out.2.1 hnl6)))
            clear ht6 hcl6 hls6 hnl6
            obtain ⟨i4, hi4, hz4, hsz4, hbt4⟩ := info_parts info4
            go_wp2_with fail
            go_loopw [168] (fun i wx => ∃ (t : Nat) (nx ac : Value) (RA2 : Nat → Option Addr) (rc2 : Nat → Nat), t ≤ k ∧ i = .int .i64 t ∧ OutW wB wx g14 (.slice Av ll cv) ls cl nx ac ∧ NarX wB wx t t nx ac RA2 rc2 ((wide.take t).map (fun r => ls.map (fun b => r.getD b 0))) ((met.take t).map (fun i => D.acc.getD i false))) (fun i _ => k - (intOf i).toNat)
            case atStart => exact ⟨0, _, _, fun _ => none, fun _ => 0, by omega, rfl, HT.out.1, rfl, rfl, World.ownsRow_nil _ _ _ _, fun i hi => by omega, World.ownsRow_nil _ _ _ _⟩
            case round =>
              obtain ⟨t, nx, ac, RA2, rc2, ht, rfl, ho, hx⟩ := hrel
              have HZ := Lib.hid (And.intro ho hx)
              clear ho hx
              by_cases htn : t < k
              · have dt : decide ((t : Int) < (k : Int)) = true := by simp; omega
                obtain ⟨b1, o1, e1, hb1, hc1⟩ := HQ.out.2.2.1.arr.one htn
                subst e1
                unfold RowC at hc1
                rw [HQ.out.2.2.2.2.2.2.2 t htn] at hc1
                replace hc1 := (HZ.out.1.bel.cell (p := ⟨b1, o1 + t, none⟩) hb1).trans hc1
                have hrow := HQ.out.2.2.1.row t htn
                rw [HQ.out.2.2.2.2.2.2.2 t htn] at hrow
                obtain ⟨r, hr⟩ : ∃ r, r = wide.getD t [] := ⟨_, rfl⟩
                rw [← hr] at hrow
                obtain ⟨Ar, hAr⟩ : ∃ Ar, Ar = RA1 t := ⟨_, rfl⟩
                rw [← hAr] at hrow hc1
                obtain ⟨cr, hcr⟩ : ∃ cr, cr = rc1 t := ⟨_, rfl⟩
                rw [← hcr] at hc1
                have HRR := Lib.hid (And.intro hr hrow)
                clear hr hrow hb1 hAr hcr
                have hrs : (wr.alloc (.cells #[] 3)).ownsRow wr.heap.size 3 1 (.slice (some ⟨wr.heap.size, 0, none⟩) 0 0) 0 (numsV .i64 ((ls.take 0).map (fun b => r.getD b 0))) := ⟨rfl, .inr ⟨wr.heap.size, 0, #[], rfl, Nat.le_refl _, heap_alloc_new _ _, Nat.le_refl _, by simp [maxLen], rfl, rfl⟩⟩
                have HRS := Lib.hid (And.intro ((Below.refl wr.heap.size wr).alloc (Nat.le_refl _) (.cells #[] 3)) hrs)
                clear hrs
                go_wp2_with fail
                clear dt
                obtain ⟨w4, rfl⟩ : ∃ w4, w4 = wr := ⟨_, rfl⟩
                generalize w4.alloc (.cells #[] 3) = w9 at HRS ⊢
                go_loopw [25, 176] (fun v i wx => ∃ (q : Nat) (A : Option Addr) (c : Nat), q ≤ ll ∧ v = .slice A q c ∧ i = .int .i64 q ∧ Below w4.heap.size w4 wx ∧ wx.ownsRow w4.heap.size 3 1 (.slice A q c) q (numsV .i64 ((ls.take q).map (fun b => r.getD b 0)))) (fun _ i _ => ll - (intOf i).toNat)
                case atStart => exact ⟨0, _, _, by omega, rfl, rfl, HRS.out.1, HRS.out.2⟩
                case round =>
                  obtain ⟨q, A, c, hq, rfl, rfl, hb, hown⟩ := hrel
                  have HT2 := Lib.hid (And.intro hb hown)
                  clear hb hown
                  by_cases hql : q < ll
                  · have hls1 := (HZ.out.1.go HT2.out.1).own
                    rw [← HT.out.2.2.2.2.2] at hls1
                    obtain ⟨b9, o9, e9, _, hc9⟩ := (nats_arr HT.out.2.2.2.2.2.symm hls1).one hql
                    subst e9
                    unfold NatC at hc9
                    have hbl : ls.getD q 0 < 256 := by
                      have h9 := HN6.out.2.2.2.2 (ls.getD q 0) (by
                        rw [List.getD_eq_getElem?_getD, List.getElem?_eq_getElem (by rw [← HT.out.2.2.2.2.2]; exact hql)]; exact List.getElem_mem _)
                      omega
                    have htk : (ls.take (q + 1)).map (fun b => r.getD b 0) = (ls.take q).map (fun b => r.getD b 0) ++ [r.getD (ls.getD q 0) 0] := by
                      rw [List.take_succ_eq_append_getElem (by rw [← HT.out.2.2.2.2.2]; exact hql), List.map_append]
                      simp [show q < ls.length by rw [← HT.out.2.2.2.2.2]; exact hql]
                    obtain ⟨bb, hbb⟩ : ∃ bb, bb = ls.getD q 0 := ⟨_, rfl⟩
                    rw [← hbb] at hc9 hbl htk
                    obtain ⟨b5, o5, e5, hb5, hc5⟩ := HRR.out.2.one (k := bb) hbl
                    have HAr := Lib.hid e5
                    subst e5
                    unfold NumC at hc5
                    replace hc5 := ((HZ.out.1.bel.trans (HT2.out.1.mono HZ.out.1.bel.size)).cell (p := ⟨b5, o5 + bb, none⟩) hb5).trans hc5
                    obtain ⟨y, hy⟩ : ∃ y, y = r.getD bb 0 := ⟨_, rfl⟩
                    rw [← hy] at hc5 htk
                    have HTK := Lib.hid htk
                    have y1 : (q + 1) * 8 ≤ 140737488355328 := by omega
                    have y2 : q + 1 ≤ maxLen := by unfold maxLen; omega
                    have y3 : ∀ v ∈ [Value.int .i64 y], v.oneCell' = true := by intro v hv9; simp at hv9; rw [hv9]; rfl
                    have hown3 := own_kept HT2.out.2 ((Below.refl _ _).alloc (Nat.le_refl _) (.cells #[.int .i64 y] 3))
                    have y4 : w4.heap.size ≤ (wr.alloc (.cells #[.int .i64 y] 3)).heap.size := (HT2.out.1.alloc HT2.out.1.size _).size
                    clear htk hbb hy hls1 hb5
                    go_wp2_with (first
                      | (at_builtin; refine wpList_append_lies _ rfl (.tmp 180) (.tmp 185) 34 rfl w4.heap.size 3 i3 (.int .i64 0) 1 8 Try.underlying34 hi3 hz3 hsz3 hbt3 rfl (by decide) (.slice A q c) q (numsV .i64 ((ls.take q).map (fun b => r.getD b 0))) rfl hown3 ⟨_, 0, none⟩ 1 1 [.int .i64 y] rfl rfl (World.news_of_block (heap_alloc_new _ _)) y3 (by decide) y2 y1 y4 _ rfl ?_; intro g8 c8 w8 hown8 hg8 hat8 hlt8))
                    have H8 := Lib.hid (And.intro hown8 hg8)
                    clear hown8 hg8 hat8 hlt8
                    go_roundw
                    case rel => exact ⟨q + 1, _, c8, by omega, rfl, by go_num, (HT2.out.1.alloc HT2.out.1.size _).grown H8.out.2 y4 (fun j hj => (HT2.out.2.lt j hj).1), by
                      rw [HTK.out, numsV_snoc]
                      exact H8.out.1⟩
                    case measure => simp [intOf]; omega
                  · obtain rfl : q = ll := by omega
                    obtain ⟨Ax, cx, rfl⟩ := own_sl HZ.out.2.on
                    obtain ⟨Ay, cy, rfl⟩ := own_sl HZ.out.2.oa
                    have hw6 := HZ.out.1.go HT2.out.1
                    have hx6 := HZ.out.2.go HT2.out.1
                    have hlt6 : wB.heap.size + 1 ≤ w4.heap.size := by have h9 := HZ.out.1.box.lt; rw [HG.out] at h9; omega
                    have hrow := own_less HT2.out.2 hlt6
                    have hlq : ls.take q = ls := List.take_of_length_le (by rw [← HT.out.2.2.2.2.2]; exact Nat.le_refl _)
                    rw [hlq] at hrow
                    obtain ⟨l, hl⟩ : ∃ l, l = ls.map (fun b => r.getD b 0) := ⟨_, rfl⟩
                    have hll9 : l.length = q := by rw [hl, List.length_map, ← HT.out.2.2.2.2.2]
                    rw [← hl] at hrow
                    have hxa := hx6.go ((Below.refl _ _).alloc (Nat.le_refl _) (.cells #[.slice A q c] 34))
                    have hwa := hw6.go ((Below.refl _ _).alloc (Nat.le_refl _) (.cells #[.slice A q c] 34))
                    have hrowa := own_kept hrow ((Below.refl _ _).alloc (Nat.le_refl _) (.cells #[.slice A q c] 34))
                    have hrowa : (wr.alloc (.cells #[.slice A q c] 34)).ownsRow (wB.heap.size + 1) 3 1 (.slice A l.length c) l.length (numsV .i64 l) := by rw [hll9]; exact hrowa
                    have hona := hxa.on
                    have hcb := hw6.box.cell 256
                    rw [dCells_256] at hcb
                    have hcba := hwa.box.cell 256
                    rw [dCells_256] at hcba
                    obtain ⟨xs, hxs⟩ : ∃ xs, xs = (List.range t).map (fun i => Value.slice (RA2 i) (((wide.take t).map (fun r => ls.map (fun b => r.getD b 0))).getD i []).length (rc2 i)) := ⟨_, rfl⟩
                    rw [← hxs] at hona
                    have HA := Lib.hid (And.intro hxa (And.intro hwa (And.intro hrowa (And.intro hxs (And.intro hl hll9)))))
                    have y1 : (t + 1) * 24 ≤ 140737488355328 := by omega
                    have y2 : t + 1 ≤ maxLen := by unfold maxLen; omega
                    have y3 : ∀ v ∈ [Value.slice A q c], v.oneCell' = true := by intro v hv9; simp at hv9; rw [hv9]; rfl
                    have y4 : wB.heap.size + 1 ≤ (wr.alloc (.cells #[.slice A q c] 34)).heap.size := by have h9 := hwa.box.lt; rw [HG.out] at h9; omega
                    clear hxa hwa hrowa hxs hl hll9 hrow hlq hw6 hx6
                    go_wp2_with (first
                      | (at_builtin; refine wpList_append_lies _ rfl (.tmp 189) (.tmp 191) 23 rfl (wB.heap.size + 1) 34 i34 (.slice none 0 0) 1 24 Try.underlying23 hi34 hz34 hsz34 hbt34 rfl (by decide) (.slice Ax t cx) t xs rfl hona ⟨_, 0, none⟩ 1 1 [.slice A q c] rfl rfl (World.news_of_block (heap_alloc_new _ _)) y3 (by decide) y2 y1 y4 _ rfl ?_; intro g8 c8 w8 hown8 hg8 hat8 hlt8; have HW8 := Lib.hid (HA.out.2.1.grew HA.out.1.on (by decide) hg8); have hc8 := HW8.out.box.cell 256; rw [dCells_256] at hc8; have hf8 := HW8.out.box.frozen 256))
                    have hx8 := HA.out.1.addRow (W' := w8) (v := .slice (some ⟨g8, 0, none⟩) (t + 1) c8) (A := A) (c := c) (l := l) HA.out.2.2.1 (by rw [← HA.out.2.2.2.1, HA.out.2.2.2.2.2]; exact hown8) hg8
                    have hx9 := hx8.box2 HW8.out.box 256 (.slice (some ⟨g8, 0, none⟩) (t + 1) c8)
                    have hw9 := HW8.out.put (j := 256) (v := .slice (some ⟨g8, 0, none⟩) (t + 1) c8) (dCells_nx _ _ _ _)
                    have H9 := Lib.hid (And.intro hw9 hx9)
                    clear hx8 hx9 hw9 hown8 hg8 hat8 hlt8 hc8 hf8 hcb hcba hona
                    generalize w8.setCell ⟨g14, 256, none⟩ (.slice (some ⟨g8, 0, none⟩) (t + 1) c8) = w9 at H9 ⊢
                    have hc257 := H9.out.1.box.cell 257
                    rw [dCells_257] at hc257
                    have hbx := HQ.out.1.go H9.out.1.bel
                    have hq3 := hbx.box.cell 257
                    rw [show ds.toList[257]? = ds[257]? by simp, H.out.1.cells.ac] at hq3
                    obtain ⟨b1, o1, e1, hbb1, hcc1⟩ := HQ.out.2.2.2.2.1.one htn
                    have HAa := Lib.hid e1
                    subst e1
                    unfold NatC at hcc1
                    replace hcc1 := (H9.out.1.bel.cell (p := ⟨b1, o1 + t, none⟩) hbb1).trans hcc1
                    have hav := HQ.out.2.2.2.2.2.1 t htn
                    obtain ⟨av, hav9⟩ : ∃ av, av = met.getD t 0 := ⟨_, rfl⟩
                    rw [← hav9] at hcc1 hav
                    obtain ⟨b2, o2, e2, hbb2, hcc2⟩ := H.out.1.aarr.one hav
                    subst e2
                    unfold BoolC at hcc2
                    replace hcc2 := (hbx.bel.cell (p := ⟨b2, o2 + av, none⟩) hbb2).trans hcc2
                    obtain ⟨bx, hbx9⟩ : ∃ bx, bx = D.acc.getD av false := ⟨_, rfl⟩
                    rw [← hbx9] at hcc2
                    have HQ9 := Lib.hid (And.intro hav9 hbx9)
                    obtain ⟨ms, hms⟩ : ∃ ms, ms = ((met.take t).map (fun i => D.acc.getD i false)).map Value.bool := ⟨_, rfl⟩
                    have HMS := Lib.hid hms
                    have z1 : (t + 1) * 1 ≤ 140737488355328 := by omega
                    have z3 : ∀ v ∈ [Value.bool bx], v.oneCell' = true := by intro v hv9; simp at hv9; rw [hv9]; rfl
                    have hd1 : w9.drew.cell? ⟨g14, 257, none⟩ = some (.slice Ay t cy) := hc257
                    have hd2 : w9.drew.cell? ⟨b1, o1 + t, none⟩ = some (.int .i64 (av : Int)) := hcc1
                    have hd3 : w9.drew.cell? ⟨b2, o2 + av, none⟩ = some (.bool bx) := hcc2
                    have hd5 : w9.drew.cell? ⟨w.heap.size, 257, none⟩ = some (.slice (some ⟨b2, o2, none⟩) n2 c2) := hq3
                    have hd4 := cell_al hc257 (.cells #[.bool bx] 4)
                    clear hav9 hbx9 hms hbx hq3
                    go_region_law (first
                      | (refine step_append_lies _ rfl (.tmp 195) (.tmp 204) 24 rfl (wB.heap.size + 1) 4 i4 (.bool false) 1 1 Try.underlying24 hi4 hz4 hsz4 hbt4 rfl (by decide) (.slice Ay t cy) t ms (by rfl) ?_ ⟨_, 0, none⟩ 1 1 [.bool bx] (by rfl) rfl (World.news_of_block (cs := #[.bool bx]) (t := 4) (fr := (0, 0)) ?_) z3 (by decide) y2 z1 ?_ _ rfl ?_
                         · rw [HMS.out]; exact own_kept H9.out.2.oa (((Below.refl _ _).alloc (Nat.le_refl _) _).drew)
                         · exact heap_alloc_new _ _
                         · have h9 := H9.out.1.box.lt
                           rw [HG.out] at h9
                           show wB.heap.size + 1 ≤ (w9.alloc _).heap.size
                           simp; omega
                         intro g7 c7 w7 hown7 hg7 hat7 hlt7
                         have HW7 := Lib.hid (((H9.out.1.go ((Below.refl _ _).alloc (Nat.le_refl _) (.cells #[.bool bx] 4))).go ((Below.refl _ _).drew)).grew (W' := w7) ((H9.out.2.go ((Below.refl _ _).alloc (Nat.le_refl _) (.cells #[.bool bx] 4))).go ((Below.refl _ _).drew)).oa (by decide) hg7)
                         have hc7 := HW7.out.box.cell 257
                         rw [dCells_257] at hc7
                         have hf7 := HW7.out.box.frozen 257))
                    all_goals
                      have H7 := Lib.hid (And.intro hown7 hg7)
                      clear hown7 hg7 hat7 hlt7 hd1 hd2 hd3 hd4 hd5 hc257 hcc1 hcc2
                      go_wp2_with fail
                      go_roundw
                      case rel =>
                        have hxd := (H9.out.2.go ((Below.refl _ _).alloc (Nat.le_refl _) (.cells #[.bool bx] 4))).go ((Below.refl _ _).drew)
                        have hx7 := hxd.addMark (W' := w7) (v := .slice (some ⟨g7, 0, none⟩) (t + 1) c7) (x := bx) (by rw [← HMS.out]; exact H7.out.1) H7.out.2
                        have hxf := hx7.box2 HW7.out.box 257 (.slice (some ⟨g7, 0, none⟩) (t + 1) c7)
                        have hwf := HW7.out.put (j := 257) (v := .slice (some ⟨g7, 0, none⟩) (t + 1) c7) (dCells_ac _ _ _ _)
                        refine ⟨t + 1, _, _, updA RA2 t A, updA rc2 t c, by omega, by go_num, hwf, ?_⟩
                        have t1 : (wide.take (t + 1)).map (fun r => ls.map (fun b => r.getD b 0)) = (wide.take t).map (fun r => ls.map (fun b => r.getD b 0)) ++ [l] := by
                          rw [List.take_succ_eq_append_getElem (by rw [HQ.out.2.2.2.2.2.2.1]; exact htn), List.map_append, HA.out.2.2.2.2.1, HRR.out.1]
                          simp [show t < wide.length by rw [HQ.out.2.2.2.2.2.2.1]; exact htn]
                        have t2 : (met.take (t + 1)).map (fun i => D.acc.getD i false) = (met.take t).map (fun i => D.acc.getD i false) ++ [bx] := by
                          rw [List.take_succ_eq_append_getElem (by rw [HQ.out.2.2.2.1]; exact htn), List.map_append, HQ9.out.2, HQ9.out.1]
                          simp [show t < met.length by rw [HQ.out.2.2.2.1]; exact htn]
                        rw [t1, t2]
                        exact hxf
                      case measure => simp [intOf]; omega
              · have htn9 : t = k := by omega
                obtain ⟨Ax, cx, rfl⟩ := own_sl HZ.out.2.on
                obtain ⟨Ay, cy, rfl⟩ := own_sl HZ.out.2.oa
                have hone := dCells_one cl Ax Ay t t cx cy
                have hbx := HQ.out.1.go HZ.out.1.bel
                have hld := loadB_run 26 HZ.out.1.box.range (.inl rfl) (by rw [dCells_len]; rfl)
                have hst := storeB_run 26 hbx.r6 (.inl rfl) (dCells cl (.slice Ax t cx) (.slice Ay t cy)).toArray (by rw [zs26_cells, dCells_len]; rfl) (by rw [List.size_toArray, dCells_len]; rfl) hone
                have hblk := hbx.r6.row (dCells cl (.slice Ax t cx) (.slice Ay t cy)).toArray
                have hbel := below_setRow (g := w.heap.size + 1) hbx.bel (by omega) (dCells cl (.slice Ax t cx) (.slice Ay t cy)).toArray
                have hrl := HQ.out.1.r6.lt
                have hx9 := HZ.out.2.ch (but_setRow wr (w.heap.size + 1) (dCells cl (.slice Ax t cx) (.slice Ay t cy)).toArray) (fun j hj e => by have := (HZ.out.2.on.lt j hj).1; omega) (fun j hj e => by have := (HZ.out.2.oa.lt j hj).1; omega) (fun i hi j hj e => by have := ((HZ.out.2.row i hi).lt j hj).1; omega)
                obtain ⟨ds9, hds9⟩ : ∃ ds9, ds9 = (dCells cl (.slice Ax t cx) (.slice Ay t cy)).toArray := ⟨_, rfl⟩
                rw [← hds9] at hld hst hblk hbel hx9
                have hsz9 : ds9.size = 258 := by rw [hds9, List.size_toArray, dCells_len]
                have HF := Lib.hid (And.intro hblk (And.intro hbel (And.intro hx9 (And.intro hds9 hsz9))))
                clear hblk hbel hx9 hds9 hsz9 hone hbx hrl
                go_wp2_with fail
                (try simp only [Exit.inBlock, Exit.then])
                refine bodyPost_ret (results_cell_row rfl _ _ (w.heap.size + 1) 26 ds9.toList.toArray (0, 0) _ rfl HF.out.1 Try.underlying26 rfl (by rw [List.size_toArray, Array.length_toList, HF.out.2.2.2.2]; exact info26)) rfl ?_
                have hwt : wide.take t = wide := List.take_of_length_le (by rw [HQ.out.2.2.2.2.2.2.1]; omega)
                have hat : met.take t = met := List.take_of_length_le (by rw [HQ.out.2.2.2.1]; omega)
                have hx := HF.out.2.2.1
                rw [hwt, hat] at hx
                have hbB := HQ.out.1.bel.size
                have hd := fun (w'' : World) (hb'' : But (fun k => k < w.heap.size) _ w'') => narX_dfa (cl := cl) (hx.ch hb'' (fun j hj e => by have := (hx.on.lt j hj).1; omega) (fun j hj e => by have := (hx.oa.lt j hj).1; omega) (fun i hi j hj e => by have := ((hx.row i hi).lt j hj).1; omega)) (fun b hb => by
                  rw [List.getD_eq_getElem?_getD]
                  cases e : cl[b]? with
                  | none => simp
                  | some c =>
                    have hm := List.mem_of_getElem? e
                    have := HN6.out.2.2.2.1 c hm
                    simp; omega) (by omega) (fun i hi => by
                  rw [List.getD_eq_getElem?_getD, List.getElem?_map]
                  cases e : wide[i]? with
                  | none => simp
                  | some r => simp; rw [← HT.out.2.2.2.2.2]; exact hll2)
                rw [← HF.out.2.2.2.1] at hd
                have e1 : narD wide met D.acc = ⟨fun b => cl.getD b 0, wide.map (fun r => ls.map (fun b => r.getD b 0)), met.map (fun i => D.acc.getD i false)⟩ := by
                  unfold narD
                  rw [← HN6.out.1, ← HN6.out.2.1]
                exact ⟨ds9, Ax, cx, Ay, cy, t, RA2, rc2, narD wide met D.acc, by simp, by rw [e1]; exact hd, .inr ⟨HLV.out, _, HQ.out.2.1, rfl⟩, HF.out.2.1⟩
end Go.Proofs.Ytiaigdedkdeeoaa
