/- The program's Apply: the ids, merged, or refused. -/
import Derived.Test.YtklklmaclaohaaaXMA
import Derived.Test.YtklklmaclaohaaaXMC
namespace Go.Proofs.Ytklklmaclaohaaa.R13
open Go.RowKit Go.Maps Go.WideMaps

theorem goTexts_valid : ∀ (ms : List (Int × Int)) (k : Nat) (out o : List Txt), goTexts k out ms = some o → ∀ j, j < ms.length → 0 ≤ (ms.getD j (0,0)).1 ∧ (ms.getD j (0,0)).1 < 256 + (k + j : Nat) ∧ 0 ≤ (ms.getD j (0,0)).2 ∧ (ms.getD j (0,0)).2 < 256 + (k + j : Nat)
  | [], _, _, _, _, j, hj => absurd hj (by simp)
  | m :: ms, k, out, o, h, j, hj => by
    rw [goTexts] at h
    split at h
    · cases h
    · rename_i hv
      dsimp only at h
      split at h
      · cases h
      · match j with
        | 0 => simp; omega
        | j + 1 =>
          have := goTexts_valid ms _ _ _ h j (by simpa using hj)
          simp only [List.getD_cons_succ]
          omega
theorem texts_valid {l : List (Int × Int)} (h : (texts l).2 = 0) : l.length ≤ 1024 ∧ ∀ j, j < l.length → 0 ≤ (l.getD j (0,0)).1 ∧ (l.getD j (0,0)).1 < 256 + (j : Nat) ∧ 0 ≤ (l.getD j (0,0)).2 ∧ (l.getD j (0,0)).2 < 256 + (j : Nat) := by
  unfold texts at h
  split at h
  · cases h
  · rename_i hl
    cases hg : goTexts 0 baseTexts l with
    | none => rw [hg] at h; cases h
    | some o =>
      refine ⟨by omega, fun j hj => ?_⟩
      have := goTexts_valid l 0 baseTexts o hg j hj
      omega
theorem i64_of (a : Int) (h0 : 0 ≤ a) (h1 : a < 9223372036854775807) : I64 a := by
  unfold I64
  exact WalkArith.wf_i64 (by omega)

theorem rankTo_old {l : List (Int × Int)} {k : Nat} (h : (rankTo l (l.getD k (0,0)).1 (l.getD k (0,0)).2 k).isSome = true) (a b : Int) : rankTo l a b (k + 1) = rankTo l a b k := by
  rw [rankTo]
  cases hr : rankTo l a b k with
  | some m => rfl
  | none =>
    dsimp only
    rw [if_neg]
    intro e
    rw [e] at h
    dsimp only at h
    rw [hr] at h
    cases h
theorem rankTo_new {l : List (Int × Int)} {k : Nat} (h : (rankTo l (l.getD k (0,0)).1 (l.getD k (0,0)).2 k).isSome = false) (a b : Int) : rankTo l a b (k + 1) = if a = (l.getD k (0,0)).1 ∧ b = (l.getD k (0,0)).2 then some k else rankTo l a b k := by
  rw [rankTo]
  by_cases e : a = (l.getD k (0,0)).1 ∧ b = (l.getD k (0,0)).2
  · have : rankTo l a b k = none := by rw [e.1, e.2]; simpa using h
    rw [this]
    dsimp only
    rw [if_pos (by rw [e.1, e.2]), if_pos e]
  · rw [if_neg e]
    cases hr : rankTo l a b k with
    | some m => rfl
    | none =>
      dsimp only
      rw [if_neg]
      intro e2
      rw [e2] at e
      exact e ⟨rfl, rfl⟩

theorem right_any (A : Option Addr) (n c : Nat) (l : List (Int × Int)) (w : World) (hl : l.length = n) (hn : n ≤ 140737488355328) (h1 : Arr w w.heap.size 2 A n (PairC l)) :
    Calls Try.prog 17 #[.slice A n c] w fun e w' => e = .returned (.int .i64 (texts l).2) ∧ Below w.heap.size w w' := by
  go_enter Try.func17, Try.ntmps17
  go_wp2_with fail
  refine (mtexts_any A n c l w hl hn h1).mono ?_
  rintro e w' ⟨v, rfl, hown, hb⟩
  go_wp2_with fail
  go_ret
  exact ⟨rfl, hb⟩

theorem merged_bd {out : List Int} {b t n : Nat} (_ht : t + 1 < out.length) (hb : b < n) (h : ∀ i, i < out.length → 0 ≤ out.getD i 0 ∧ out.getD i 0 < 256 + (n : Int)) : ∀ i, i < (merged out b t).length → 0 ≤ (merged out b t).getD i 0 ∧ (merged out b t).getD i 0 < 256 + (n : Int) := by
  intro i hi
  have hall : ∀ x ∈ out, 0 ≤ x ∧ x < 256 + (n : Int) := fun x hx => by
    obtain ⟨j, hj, rfl⟩ := List.getElem_of_mem hx
    have := h j hj
    simpa [hj] using this
  have hm : (merged out b t).getD i 0 ∈ merged out b t := by
    rw [List.getD, List.getElem?_eq_getElem hi]
    exact List.getElem_mem hi
  obtain ⟨x, hx⟩ : ∃ x, x = (merged out b t).getD i 0 := ⟨_, rfl⟩
  rw [← hx] at hm ⊢
  rw [merged, List.mem_append, List.mem_cons] at hm
  rcases hm with hm | rfl | hm
  · exact hall x (List.mem_of_mem_take hm)
  · omega
  · exact hall x (List.mem_of_mem_drop hm)

def bestP (n : Nat) (r : Option (Nat × Nat)) : Int := match r with | none => n | some (b, _) => b
theorem scanP_none {l : List (Int × Int)} {out : List Int} {k : Nat} (h : rank l (out.getD k 0) (out.getD (k + 1) 0) = none) : scanTo l out (k + 1) = scanTo l out k := by
  rw [scanTo, h]
theorem scanP_new {l : List (Int × Int)} {out : List Int} {k r n : Nat} (h : rank l (out.getD k 0) (out.getD (k + 1) 0) = some r) (hb : (r : Int) < bestP n (scanTo l out k)) : scanTo l out (k + 1) = some (r, k) := by
  rw [scanTo, h]
  cases hs : scanTo l out k with
  | none => rfl
  | some p =>
    obtain ⟨b, t⟩ := p
    rw [hs] at hb
    simp [bestP] at hb
    dsimp only
    rw [if_pos hb]
theorem scanP_old {l : List (Int × Int)} {out : List Int} {k r n : Nat} (hn : l.length = n) (h : rank l (out.getD k 0) (out.getD (k + 1) 0) = some r) (hb : ¬ (r : Int) < bestP n (scanTo l out k)) : scanTo l out (k + 1) = scanTo l out k := by
  rw [scanTo, h]
  cases hs : scanTo l out k with
  | none =>
    rw [hs] at hb
    have := (rankTo_some.1 h).1
    simp [bestP] at hb
    omega
  | some p =>
    obtain ⟨b, t⟩ := p
    rw [hs] at hb
    simp [bestP] at hb
    dsimp only
    rw [if_neg (by omega)]
theorem bestP_bd (n : Nat) (r : Option (Nat × Nat)) : 0 ≤ bestP n r := by
  cases r with
  | none => simp [bestP]
  | some p => show (0 : Int) ≤ (p.1 : Int); omega

set_option maxRecDepth 100000 in
set_option maxHeartbeats 4000000 in
theorem apply_any (A1 A2 : Option Addr) (n1 n2 c1 c2 : Nat) (l : List (Int × Int)) (ids : List Int) (w : World) (hl : l.length = n1) (hi : ids.length = n2) (hn1 : n1 ≤ 140737488355328) (hn2 : n2 ≤ 17592186044416)
    (h1 : Arr w w.heap.size 2 A1 n1 (PairC l)) (h2 : Arr w w.heap.size 1 A2 n2 (IntC ids)) :
    Calls Try.prog 29 #[.slice A1 n1 c1, .slice A2 n2 c2] w fun e w' => ∃ v, e = .returned (.tuple #[v, .int .i64 (apply l ids).2]) ∧ w'.ownsRow w.heap.size 3 1 v (apply l ids).1.length (intsV (apply l ids).1) ∧ Below w.heap.size w w' := by
  obtain ⟨i3, hi3, hz3, hsz3, hbt3⟩ := info_parts info3
  have hmm := @run_makeMap Try.prog
  have hbox := (Below.refl w.heap.size w).alloc (Nat.le_refl _) (.cells #[.slice A1 n1 c1] 22)
  have h1' := (h1.below hbox).more hbox.size
  have H1 := Lib.hid h1
  have H2 := Lib.hid h2
  clear h1 h2
  obtain ⟨er, her⟩ : ∃ er, er = (texts l).2 := ⟨_, rfl⟩
  have HR := Lib.hid (right_any A1 n1 c1 l (w.alloc (.cells #[.slice A1 n1 c1] 22)) hl hn1 h1')
  rw [← her] at HR
  clear h1'
  go_enter Try.func29, Try.ntmps29
  go_wp2_with fail
  refine HR.out.mono ?_
  rintro e w1 ⟨rfl, hb1⟩
  have hB1 := below_new (Below.refl w.heap.size w) (Nat.le_refl _) hb1
  have hs1 := size_new hb1
  have q1 := kept_new hb1 0
  simp only [List.getElem?_toArray, List.getElem?_cons_zero] at q1
  clear HR
  by_cases he : er = 0
  · subst he
    obtain ⟨hln, hval⟩ := texts_valid her.symm
    have HV := Lib.hid hval
    have HER := Lib.hid her
    clear hval her
    by_cases hbig : 4096 < n2
    · have hap : apply l ids = ([], 2) := by unfold apply; rw [if_neg (by rw [← HER.out]; simp), if_pos (by omega)]
      have HA := Lib.hid hap
      clear hap
      go_wp2_with fail
      go_ret2
      rw [HA.out]
      exact ⟨_, rfl, World.ownsRow_nil _ _ _ _, hB1⟩
    · have HC := Lib.hid (contains_any w.heap.size A1 A2 n1 c1 n2 c2 ids w1 hi hn1 (by omega) q1 ((H2.out.below hB1).more hB1.size))
      cases hbad : ids.any (badId n1) with
      | true =>
        rw [hbad] at HC
        have hap : apply l ids = ([], 1) := by unfold apply; rw [if_neg (by rw [← HER.out]; simp), if_neg (by omega), hl, ← badId_any, hbad]; rfl
        have HA := Lib.hid hap
        clear hap hbad
        go_wp2_with (go_at_call 37; refine HC.out.mono ?_; rintro e w' ⟨rfl, rfl⟩)
        go_ret2
        rw [HA.out]
        exact ⟨_, rfl, World.ownsRow_nil _ _ _ _, hB1⟩
      | false =>
        rw [hbad] at HC
        have hap : apply l ids = (mergeAll l ids, 0) := by unfold apply; rw [if_neg (by rw [← HER.out]; simp), if_neg (by omega), hl, ← badId_any, hbad]; rfl
        have HA := Lib.hid hap
        have hin : ∀ i, i < ids.length → 0 ≤ ids.getD i 0 ∧ ids.getD i 0 < 256 + (n1 : Int) := fun i hi' => by
          have := List.any_eq_false.1 hbad (ids.getD i 0) (by simp [hi'])
          rw [badId, Bool.or_eq_true, not_or, decide_eq_true_eq, decide_eq_true_eq] at this
          omega
        have HI := Lib.hid hin
        clear hap hbad hin
        go_wp2_with (go_at_call 37; refine HC.out.mono ?_; rintro e w' ⟨rfl, rfl⟩)
        obtain ⟨w1, rfl⟩ : ∃ w1 : World, w1 = w' := ⟨_, rfl⟩
        obtain ⟨gm, hgm⟩ : ∃ gm, gm = w1.heap.size := ⟨_, rfl⟩
        rw [← hgm]
        have HGM := Lib.hid hgm
        have hgmB : w1.heap.size ≤ gm := by omega
        clear hgm
        go_loopw [34] (fun i wr => ∃ (k : Nat) (D : DataW Unit), k ≤ n1 ∧ i = .int .i64 k ∧ Below w1.heap.size w1 wr ∧ wr.ownsMap Try.prog 58 (plainElem Try.prog 3) gm k D ∧ Ranks D (fun a b => rankTo l a b k)) (fun i _ => n1 - (intOf i).toNat)
        case atStart => exact ⟨0, .map [], by omega, rfl, (Below.refl _ _).alloc (Nat.le_refl _) _, by rw [HGM.out]; exact World.ownsMap_made _ _ _ _, ranks_empty⟩
        case round =>
          obtain ⟨k, D, hk, rfl, hbw, hmap, hR⟩ := hrel
          have HRK := Lib.hid hR
          have hsw := hbw.size
          have hgml := hmap.lt
          have q2 := (hbw.cell (p := ⟨w.heap.size, 0, none⟩) hs1).trans q1
          clear hR
          by_cases hlt : k < n1
          · obtain ⟨b, off, rfl, hadlt, hc0, hc1⟩ := (H1.out.below (hB1.trans (hbw.mono hB1.size))).two hlt
            simp only [PairC, reduceIte, Nat.succ_ne_zero] at hc0 hc1
            obtain ⟨m1, hm1⟩ : ∃ m1, m1 = (l.getD k (0,0)).1 := ⟨_, rfl⟩
            obtain ⟨m2, hm2⟩ : ∃ m2, m2 = (l.getD k (0,0)).2 := ⟨_, rfl⟩
            rw [← hm1] at hc0
            rw [← hm2] at hc1
            have hv := HV.out k (by omega)
            rw [← hm1, ← hm2] at hv
            have HI1 := Lib.hid (i64_of m1 hv.1 (by omega))
            have HI2 := Lib.hid (i64_of m2 hv.2.2.1 (by omega))
            have HM1 := Lib.hid hm1
            have HM2 := Lib.hid hm2
            clear hm1 hm2 hv
            cases hrk : rankTo l m1 m2 k with
            | some r =>
              have HRR := Lib.hid hrk
              clear hrk
              go_wp2_with (first
                | (at_lookup; refine wpList_lookup_ranks _ rfl _ _ rfl gm k D (fun a b => rankTo l a b k) rfl (hmap.alloc _) HRK.out m1 m2 HI1.out HI2.out rfl (r : Int) true (by simp [HRR.out]) (by simp [HRR.out]) ?_))
              go_roundw
              case rel => exact ⟨k + 1, D, by omega, by go_num, hbw.alloc hsw _, (hmap.alloc _).mono (by omega), by
                have e : (fun a b => rankTo l a b (k + 1)) = fun a b => rankTo l a b k := by
                  funext a b
                  exact rankTo_old (by rw [← HM1.out, ← HM2.out, HRR.out]; rfl) a b
                rw [e]; exact HRK.out⟩
              case measure => simp [intOf]; omega
            | none =>
              have HRR := Lib.hid hrk
              clear hrk
              go_wp2_with (first
                | (at_lookup; refine wpList_lookup_ranks _ rfl _ _ rfl gm k D (fun a b => rankTo l a b k) rfl (hmap.alloc _) HRK.out m1 m2 HI1.out HI2.out rfl (0 : Int) false (by simp [HRR.out]) (by simp [HRR.out]) ?_)
                | (at_mapUpdate; refine wpList_mapUpdate_own _ rfl _ _ _ 46 rfl 58 3 keyed43 Try.underlying46 (plainElem (H := Unit) Try.prog 3) gm k D rfl (hmap.alloc _) (by unfold maxLen; omega) _ _ (keyM m1 m2) rfl rfl (keyOf43 m1 m2 HI1.out HI2.out) (.lit (.int .i64 (k : Int))) [] (plainElem_int Try.underlying3 (i64_of (k : Int) (by omega) (by omega))) ?_; intro w3 hown3 hgrow3))
              go_roundw
              case rel => exact ⟨k + 1, _, by omega, by go_num, below_by (hbw.alloc hsw _) (by simp; omega) hgrow3 hgmB, hown3, by
                have e : (fun a b => rankTo l a b (k + 1)) = fun a b => if a = m1 ∧ b = m2 then some k else rankTo l a b k := by
                  funext a b
                  rw [rankTo_new (by rw [← HM1.out, ← HM2.out, HRR.out]; rfl) a b, HM1.out, HM2.out]
                rw [e]; exact ranks_put HRK.out m1 m2 HI1.out HI2.out k⟩
              case measure => simp [intOf]; omega
          · have hRl : Ranks D (rank l) := by
              have e : (fun a b => rankTo l a b k) = rank l := by
                funext a b
                rw [rank, hl, show k = n1 by omega]
              rw [← e]; exact HRK.out
            have HRL := Lib.hid hRl
            have hmap1 := hmap.mono (n' := n1) (by omega)
            clear HRK hRl hmap
            go_wp2_with fail
            refine (clone_any A2 n2 c2 ids wr hi (by omega) ((H2.out.below (hB1.trans (hbw.mono hB1.size))).more (Nat.le_trans hB1.size hsw))).mono ?_
            rintro e w3 ⟨v, rfl, hown0, hbc⟩
            have hown1 := own_base hown0 hsw
            have hb3 := hbw.trans (hbc.mono hsw)
            have hmap3 := map_keep hmap1 hbc (Nat.le_refl _)
            clear hown0 hmap1 hlt hk
            obtain ⟨w4, rfl⟩ : ∃ w4 : World, w4 = wr := ⟨_, rfl⟩
            go_wp2_with fail
            go_loopw [12] (fun v wr => ∃ (out : List Int) (f : Nat), out.length ≤ f ∧ f ≤ n2 ∧ mergeF l f out = mergeAll l ids ∧ (∀ i, i < out.length → 0 ≤ out.getD i 0 ∧ out.getD i 0 < 256 + (n1 : Int)) ∧ wr.ownsRow w1.heap.size 3 1 v out.length (intsV out) ∧ Below w1.heap.size w1 wr ∧ wr.ownsMap Try.prog 58 (plainElem Try.prog 3) gm n1 D) (fun v _ => sliceLen v)
            case atStart => exact ⟨ids, ids.length, Nat.le_refl _, by omega, rfl, HI.out, by rw [hi]; exact hown1, hb3, hmap3⟩
            case round =>
              obtain ⟨out, f, hf, hfn, hmf, hbd, hown, hbel, hmap⟩ := hrel
              obtain ⟨A, c, rfl⟩ := own_form hown
              have HMF := Lib.hid hmf
              have HBD := Lib.hid hbd
              have hsz := hbel.size
              have hgml := hmap.lt
              obtain ⟨m, hm⟩ : ∃ m, m = out.length := ⟨_, rfl⟩
              rw [← hm] at hown hf ⊢
              have HM := Lib.hid hm
              clear hmf hm hown1 hmap3 hbd
              obtain ⟨w2, rfl⟩ : ∃ w2 : World, w2 = wr := ⟨_, rfl⟩
              have q4 := (hbel.cell (p := ⟨w.heap.size, 0, none⟩) hs1).trans q1
              go_wp2_with fail
              go_loopw [13, 14, 15] (fun b t i w5 => ∃ k : Nat, k ≤ m - 1 ∧ b = .int .i64 (bestP n1 (scanTo l out k)) ∧ t = .int .i64 (encT (scanTo l out k)) ∧ i = .int .i64 ((k : Int) + 1) ∧ Below w2.heap.size w2 w5) (fun _ _ i _ => m - (intOf i).toNat)
              case atStart => exact ⟨0, by omega, rfl, rfl, rfl, Below.refl _ _⟩
              case round =>
                obtain ⟨k, hk, rfl, rfl, rfl, hbw⟩ := hrel
                have hown3 := own_keep hown hbw (Nat.le_refl _)
                have hmap3 := map_keep hmap hbw (Nat.le_refl _)
                have hsw := hbw.size
                have q5 := (hbw.cell (p := ⟨w.heap.size, 0, none⟩) (Nat.lt_of_lt_of_le hs1 hsz)).trans q4
                obtain ⟨bb, hbb⟩ : ∃ bb, bb = bestP n1 (scanTo l out k) := ⟨_, rfl⟩
                obtain ⟨tt, htt⟩ : ∃ tt, tt = encT (scanTo l out k) := ⟨_, rfl⟩
                rw [← hbb, ← htt]
                have HBB := Lib.hid hbb
                have HTT := Lib.hid htt
                by_cases hlt : k + 1 < m
                · obtain ⟨b, o, rfl, hbl, hc0⟩ := (Arr.of_own hown3).one (k := k) (by omega)
                  obtain ⟨b', o', he, hbl', hc1⟩ := (Arr.of_own hown3).one (k := k + 1) (by omega)
                  obtain ⟨rfl, rfl⟩ : b = b' ∧ o = o' := by simpa using he
                  clear he
                  have hg0 : (intsV out).getD k undef = .int .i64 (out.getD k 0) := by rw [List.getD, intsV_get _ _ (by rw [← HM.out]; omega)]; rfl
                  have hg1 : (intsV out).getD (k + 1) undef = .int .i64 (out.getD (k + 1) 0) := by rw [List.getD, intsV_get _ _ (by rw [← HM.out]; omega)]; rfl
                  rw [hg0] at hc0
                  rw [hg1] at hc1
                  have hx0 := HBD.out k (by rw [← HM.out]; omega)
                  have hx1 := HBD.out (k + 1) (by rw [← HM.out]; omega)
                  have hi0 := i64_of _ hx0.1 (by omega)
                  have hi1 := i64_of _ hx1.1 (by omega)
                  clear hx0 hx1
                  obtain ⟨x, hx⟩ : ∃ x, x = out.getD k 0 := ⟨_, rfl⟩
                  obtain ⟨y, hy⟩ : ∃ y, y = out.getD (k + 1) 0 := ⟨_, rfl⟩
                  rw [← hx] at hc0 hi0
                  rw [← hy] at hc1 hi1
                  obtain ⟨iv, hiv⟩ : ∃ iv : Int, iv = (match rank l x y with | some k => (k : Int) | none => 0) := ⟨_, rfl⟩
                  obtain ⟨ok, hok⟩ : ∃ ok, ok = (rank l x y).isSome := ⟨_, rfl⟩
                  have hlook : ∀ nq, (Instr.lookup 46 (.map (some gm)) (.agg #[.int .i64 x, .int .i64 y]) true).run Try.prog (wr.drewN nq) = .ok (.tuple #[.int .i64 iv, .bool ok]) (wr.drewN nq) := fun nq => by
                    rw [hiv, hok]
                    exact ranks_lookup (map_drewN hmap3 nq) HRL.out x y hi0 hi1
                  have hkeep : ok = false ∨ (ok = true ∧ ¬ iv < bb) → scanTo l out (k + 1) = scanTo l out k := by
                    rintro (h | ⟨h, h2⟩)
                    · refine scanP_none ?_
                      rw [← hx, ← hy]
                      rw [hok] at h
                      simpa using h
                    · rw [hok, Option.isSome_iff_exists] at h
                      obtain ⟨r, hr⟩ := h
                      rw [hiv, hr, hbb] at h2
                      exact scanP_old hl (by rw [← hx, ← hy]; exact hr) h2
                  have hnew : ok = true → iv < bb → bestP n1 (scanTo l out (k + 1)) = iv ∧ encT (scanTo l out (k + 1)) = k := by
                    intro h h2
                    rw [hok, Option.isSome_iff_exists] at h
                    obtain ⟨r, hr⟩ := h
                    rw [hiv, hr, hbb] at h2
                    rw [scanP_new (by rw [← hx, ← hy]; exact hr) h2, hiv, hr]
                    exact ⟨rfl, rfl⟩
                  have HST := Lib.hid hkeep
                  have HNW := Lib.hid hnew
                  clear hg0 hg1 hx hy hkeep hnew hbb htt hiv hi0 hi1
                  have hcs : ok = false ∨ (ok = true ∧ iv < bb) ∨ (ok = true ∧ ¬ iv < bb) := by
                    cases ok
                    · exact .inl rfl
                    · by_cases h : iv < bb
                      · exact .inr (.inl ⟨rfl, h⟩)
                      · exact .inr (.inr ⟨rfl, h⟩)
                  clear hok
                  have z1 : IntKind.i64.wrap ((k : Int) + 1 - 1) = (k : Int) := by rw [IntWalk.i64_in _ (by omega)]; omega
                  have z2 : (0 : Int) ≤ (k : Int) ∧ (k : Int) < (m : Int) := by omega
                  have z3 : (0 : Int) ≤ (k : Int) + 1 ∧ (k : Int) + 1 < (m : Int) := by omega
                  have z6 : ((k : Int) + 1).toNat = k + 1 := by omega
                  rcases hcs with h | ⟨h, h'⟩ | ⟨h, h'⟩
                  · have e := HST.out (.inl h)
                    have HE := Lib.hid e
                    subst h
                    clear e
                    go_wp2_with fail
                    go_quiet (fail)
                    go_wp2
                    go_roundw
                    case rel => exact ⟨k + 1, by omega, by rw [HE.out, HBB.out], by rw [HE.out, HTT.out], by go_num, below_drewN hbw _⟩
                    case measure => simp [intOf]; omega
                  · have HE := Lib.hid (HNW.out h h')
                    subst h
                    go_wp2_with fail
                    go_quiet (fail)
                    go_wp2
                    go_roundw
                    case rel => exact ⟨k + 1, by omega, by rw [HE.out.1], by rw [HE.out.2], by go_num, below_drewN hbw _⟩
                    case measure => simp [intOf]; omega
                  · have HE := Lib.hid (HST.out (.inr ⟨h, h'⟩))
                    subst h
                    go_wp2_with fail
                    go_quiet (fail)
                    go_wp2
                    go_roundw
                    case rel => exact ⟨k + 1, by omega, by rw [HE.out, HBB.out], by rw [HE.out, HTT.out], by go_num, below_drewN hbw _⟩
                    case measure => simp [intOf]; omega
                · have hkm : k = m - 1 := by omega
                  have hscan : scanTo l out k = scan l out := by rw [scan, ← HM.out, hkm]
                  have hB := hbel.trans (hbw.mono hsz)
                  clear hbb htt hkm
                  cases hs : scan l out with
                  | none =>
                    have htn : tt = -1 := by rw [HTT.out, hscan, hs]; rfl
                    subst htn
                    have hfin : mergeAll l ids = out := by rw [← HMF.out, mergeF_stop hs]
                    have HF := Lib.hid hfin
                    clear hfin hs hscan
                    go_wp2_with fail
                    go_ret2
                    rw [HA.out]
                    refine ⟨_, rfl, ?_, hB1.trans (hB.mono hB1.size)⟩
                    dsimp only
                    rw [HF.out, ← HM.out]
                    exact own_base hown3 hB1.size
                  | some p =>
                    obtain ⟨bn, tn⟩ := p
                    have htn : tt = (tn : Int) := by rw [HTT.out, hscan, hs]; rfl
                    have hbn : bb = (bn : Int) := by rw [HBB.out, hscan, hs]; rfl
                    subst htn hbn
                    obtain ⟨ht1, hb1', hrk1⟩ := scanTo_lt hs
                    rw [← HM.out] at ht1
                    obtain ⟨f, rfl⟩ : ∃ f', f = f' + 1 := ⟨f - 1, by omega⟩
                    have hlm := length_merged (out := out) (b := bn) (i := tn) (by rw [← HM.out]; omega)
                    have HML := Lib.hid hlm
                    have HSX := Lib.hid hs
                    clear hs hlm hscan hrk1
                    obtain ⟨g, cap, hv, hgB, hgl⟩ := hown3.form (by omega)
                    obtain ⟨rfl, rfl⟩ : A = some ⟨g, 0, none⟩ ∧ c = cap := by simpa using hv
                    clear hv
                    have hne := own_map_ne hown3 hmap3
                    have hcl := hown3.cellAt tn (by omega)
                    have hfr := hown3.frozenAt tn
                    have hst := hown3.stored tn (.int .i64 (256 + (bn : Int)))
                    rw [intsV_set] at hst
                    have HS := Lib.hid hst
                    have HD := Lib.hid (delete_any w1.heap.size g m c tn (out.set tn (256 + (bn : Int))) _ (by omega) hst.1)
                    have hcu : (intsV out)[tn]? = some (.int .i64 (out.getD tn 0)) := intsV_get _ _ (by rw [← HM.out]; omega)
                    clear hst
                    go_wp2_with fail
                    refine HD.out.mono ?_
                    rintro e w6 ⟨v6, rfl, hown6, hgr6, hln6⟩
                    have hmg : out.length = m := HM.out.symm
                    rw [set_take_drop out bn tn (by omega)] at hown6
                    have hst := HS.out
                    have hB6 := below_by (below_by hB (Nat.le_trans hsz hsw) hst.2 hgB) (by have := hst.2.size; simp at this ⊢; omega) hgr6 hgB
                    have hmap6 := (hmap3.kept hst.2 (by simpa [Value.ownBlock, eq_comm] using hne)).kept hgr6 (by simpa [Value.ownBlock, eq_comm] using hne)
                    clear hst hmg hown hown3 hmap hmap3 hcl hfr hcu
                    go_wp2_with fail
                    go_roundw
                    case rel => exact ⟨merged out bn tn, f, by have := HML.out; have := HM.out; omega, by omega, by rw [← HMF.out, mergeF_step HSX.out], merged_bd (by have := HM.out; omega) (by omega) HBD.out, by rw [HML.out, ← HM.out]; exact hown6, hB6, hmap6⟩
                    case measure => rw [hln6]; simp [sliceLen]; omega
  · have hap : apply l ids = ([], er) := by unfold apply; rw [if_pos (by rw [← her]; exact he), ← her]
    have HA := Lib.hid hap
    have hbe : (er != 0) = true := by rw [bne_iff_ne]; exact he
    clear hap her he
    go_wp2_with fail
    go_ret2
    rw [HA.out]
    exact ⟨_, rfl, World.ownsRow_nil _ _ _ _, hB1⟩
end Go.Proofs.Ytklklmaclaohaaa.R13
