/- mini.living. -/
import Derived.Test.YtiaigdedkdeeoaaMiLive0
namespace Go.Proofs.Ytiaigdedkdeeoaa
open Go.RowKit Go.Maps Go.WideMaps

theorem getD_memI {l : List Int} {t : Nat} (h : t < l.length) : l.getD t 0 ∈ l := by
  rw [List.getD_eq_getElem?_getD, List.getElem?_eq_getElem h]; exact List.getElem_mem h
set_option maxRecDepth 100000 in
set_option maxHeartbeats 8000000 in
theorem living_any (A : Aut) (hok : A.Ok) (A0 : Option Addr) (n c0 : Nat) (rows : List (List Int)) (RA : Nat → Option Addr) (rc : Nat → Nat) (A1 : Option Addr) (c1 : Nat) (acc : List Bool) (u : Nat) (w : World)
    (hAn : A.n = n) (h0 : RowsIn w A0 n rows RA rc) (h1 : Arr w w.heap.size 1 A1 n (BoolC acc)) (hn4 : n ≤ 400) (hu2 : u ≤ 256) (hg : Going A rows u) (ha : ∀ i, i < A.n → A.acc i = acc.getD i false) :
    Calls Try.prog 20 #[.slice A0 n c0, .slice A1 n c1] w fun e w' => ∃ (gl : Nat) (lv : List Bool), e = .returned (.slice (some ⟨gl, 0, none⟩) n n) ∧ Blk w' gl 4 (lv.map Value.bool) ∧ w.heap.size ≤ gl ∧ lv.length = n ∧ (∀ i, i < A.n → (lv.getD i false = true ↔ Live A i)) ∧ Below w.heap.size w w' := by
  have hmk1 := make_one 23 34 (.slice none 0 0) 24 Try.underlying23 info34 rfl n (by omega) (by omega)
  have hmk2 := make_one 24 4 (.bool false) 1 Try.underlying24 info4 rfl n (by omega) (by omega)
  obtain ⟨i3, hi3, hz3, hsz3, hbt3⟩ := info_parts info3
  have HC := Lib.hid (And.intro hok (And.intro hAn (And.intro hg ha)))
  have H0 := Lib.hid h0
  have H1 := Lib.hid h1
  clear h0 h1 hok hAn hg ha
  go_enter Try.func20, Try.ntmps20
  go_wp2_with fail
  clear hmk1 hmk2
  obtain ⟨gb, hgb⟩ : ∃ gb, gb = w.heap.size := ⟨_, rfl⟩
  obtain ⟨gl, hgl⟩ : ∃ gl, gl = w.heap.size + 1 := ⟨_, rfl⟩
  have hst : LivW w ((w.alloc (.cells (Array.replicate n (.slice none 0 0)) 34)).alloc (.cells (Array.replicate n (.bool false)) 4)) gb gl n (fun _ => .slice none 0 0) (List.replicate n []) (.slice none 0 0) [] (List.replicate n false) := by
    have hr : RowsW (w.alloc (.cells (Array.replicate n (.slice none 0 0)) 34)) w.heap.size gb n (fun _ => .slice none 0 0) (List.replicate n []) := by rw [hgb]; exact RowsW.start w w.heap.size n
    refine ⟨((Below.refl _ _).alloc (Nat.le_refl _) _).alloc (by simp) _, hr.go ((Below.refl _ _).alloc (Nat.le_refl _) _), by omega, ?_, by omega, World.ownsRow_nil _ _ _ _, fun j hj k hk => by cases hk⟩
    have := Blk.new (w.alloc (.cells (Array.replicate n (.slice none 0 0)) 34)) 4 (List.replicate n (Value.bool false))
    rw [World.size_alloc] at this
    rw [hgl, List.map_replicate]
    simpa using this
  rw [← hgl, ← hgb]
  have HS := Lib.hid hst
  have HG := Lib.hid (And.intro hgb hgl)
  clear hgb hgl hst
  generalize (w.alloc (.cells (Array.replicate n (.slice none 0 0)) 34)).alloc (.cells (Array.replicate n (.bool false)) 4) = w2 at HS ⊢
  go_loopw [6, 23] (fun vs i wr => ∃ (k : Nat) (V : Nat → Value) (back : List (List Int)) (st : List Nat) (lv : List Bool), k ≤ n ∧ i = .int .i64 k ∧ LivW w wr gb gl n V back vs st lv ∧ BackOk rows n u back k 0 ∧ Sr A st lv ∧ ShutBut back lv st (fun _ => False) ∧ (∀ j, lv.getD j false = true → j < k) ∧ (∀ j, lv.getD j false = true → j ∈ st) ∧ ∀ i, i < k → A.acc i = true → lv.getD i false = true) (fun _ i _ => n - (intOf i).toNat)
  case atStart => exact ⟨0, _, _, [], _, by omega, rfl, HS.out, BackOk.start _ _ _, by rw [← HC.out.2.1]; exact Sr.start A, fun x hx => (rep_false hx).elim, fun j hj => (rep_false hj).elim, fun j hj => (rep_false hj).elim, fun i hi => by omega⟩
  case round =>
    obtain ⟨k, V, back, st, lv, hk, rfl, hl, hb, hs, hsh, hlk, hls, hac⟩ := hrel
    have HL := Lib.hid (And.intro hl (And.intro hb (And.intro hs (And.intro hsh (And.intro hlk (And.intro hls hac))))))
    obtain ⟨A5, c5, rfl⟩ := own_sl hl.own
    clear hl hb hs hsh hlk hls hac HS
    by_cases hlt : k < n
    · obtain ⟨b0, o0, e9, hb0, hc0⟩ := H0.out.arr.one hlt
      have hw0 := HC.out.2.2.1.wid k (by rw [HC.out.2.1]; exact hlt)
      unfold RowC at hc0
      rw [hw0] at hc0
      subst e9
      have hc0 := (HL.out.1.bel.cell (p := ⟨b0, o0 + k, none⟩) hb0).trans hc0
      have HW0 := Lib.hid hw0
      clear hw0
      go_wp2_with fail
      go_loopw [30] (fun i wr => ∃ (c : Nat) (V : Nat → Value) (back : List (List Int)), c ≤ u ∧ i = .int .i64 c ∧ LivW w wr gb gl n V back (.slice A5 st.length c5) st lv ∧ BackOk rows n u back k c) (fun i _ => u - (intOf i).toNat)
      case atStart => exact ⟨0, V, back, by omega, rfl, HL.out.1, HL.out.2.1⟩
      case round =>
        obtain ⟨c, V', back', hc, rfl, hl, hb⟩ := hrel
        have HY := Lib.hid (And.intro hl hb)
        clear hl hb
        by_cases hcl : c < u
        · obtain ⟨b1, o1, hra, hb1, hc1⟩ := (H0.out.row k hlt).one (k := c) (by rw [HW0.out]; exact hcl)
          unfold NumC at hc1
          have hc1 := (HY.out.1.bel.cell (p := ⟨b1, o1 + c, none⟩) hb1).trans hc1
          have hjj : -1 ≤ (rows.getD k []).getD c 0 ∧ (rows.getD k []).getD c 0 < n := by
            obtain ⟨b, hb, hall⟩ := HC.out.2.2.1.bwd c hcl
            rw [hall k (by rw [HC.out.2.1]; exact hlt)]
            have h1 := HC.out.1.lo k b (by rw [HC.out.2.1]; exact hlt) hb
            have h2 := HC.out.1.hi k b (by rw [HC.out.2.1]; exact hlt) hb
            rw [HC.out.2.1] at h2
            exact ⟨h1, h2⟩
          obtain ⟨x, hx⟩ : ∃ x, x = (rows.getD k []).getD c 0 := ⟨_, rfl⟩
          rw [← hx] at hc1 hjj
          have HX := Lib.hid hx
          clear hx
          rw [hra]
          by_cases hx0 : x < 0
          · have d1 : decide (0 ≤ x) = false := by simp; omega
            have HN := Lib.hid hx0
            clear hx0
            go_wp2_with fail
            go_roundw
            case rel => exact ⟨c + 1, V', back', by omega, by go_num, HY.out.1, HY.out.2.skip (by rw [← HX.out]; exact HN.out)⟩
            case measure => simp [intOf]; omega
          · have d1 : decide (0 ≤ x) = true := by simp; omega
            obtain ⟨j, rfl⟩ := Int.eq_ofNat_of_zero_le (by omega : 0 ≤ x)
            have hjn : j < n := by omega
            obtain ⟨A', c', hv⟩ := own_sl (HY.out.1.rows.own j hjn)
            have hlen := HY.out.2.few j hjn
            have hvc := HY.out.1.rows.cell hjn
            have hown := HY.out.1.rows.own j hjn
            obtain ⟨li, hli⟩ : ∃ li, li = back'.getD j [] := ⟨_, rfl⟩
            rw [← hli] at hv hlen hown
            obtain ⟨m, hm⟩ : ∃ m, m = li.length := ⟨_, rfl⟩
            rw [← hm] at hv hlen hown
            rw [hv] at hvc hown
            have hw3 := HY.out.1.alloc (.cells #[.int .i64 (k : Int)] 3)
            have HZ := Lib.hid (And.intro hw3 (And.intro hv (And.intro hli hm)))
            have hown3 := own_kept hown ((Below.refl _ _).alloc (Nat.le_refl _) (.cells #[.int .i64 (k : Int)] 3))
            have y1 : (m + 1) * 8 ≤ 140737488355328 := by omega
            have y2 : m + 1 ≤ maxLen := by unfold maxLen; omega
            have y3 : ∀ v ∈ [Value.int .i64 (k : Int)], v.oneCell' = true := by intro v hv9; simp at hv9; rw [hv9]; rfl
            have y4 : w.heap.size ≤ (wr.alloc (.cells #[.int .i64 (k : Int)] 3)).heap.size := hw3.bel.size
            clear hw3 hv hli hm hown
            go_wp2_with (first | (at_builtin; refine wpList_append_lies _ rfl (.tmp 41) (.tmp 43) 34 rfl w.heap.size 3 i3 (.int .i64 0) 1 8 Try.underlying34 hi3 hz3 hsz3 hbt3 rfl (by decide) (.slice A' m c') m (numsV .i64 li) rfl hown3 ⟨_, 0, none⟩ 1 1 [.int .i64 (k : Int)] rfl rfl (World.news_of_block (heap_alloc_new _ _)) y3 (by decide) y2 y1 y4 _ rfl ?_; intro g2 cap2 w3 hown4 hg4 hat4 hlt4; have hbk4 := app_facts HZ.out.1.rows hjn (by rw [HZ.out.2.1]; exact hg4); have hfz4 := hbk4.frozen j; have hce4 := hbk4.cell j; rw [List.getElem?_map, List.getElem?_range hjn] at hce4))
            have H4 := Lib.hid (And.intro hown4 (And.intro hg4 hat4))
            clear hown4 hg4 hat4 hbk4 hlt4
            go_roundw
            case rel =>
              have hl9 : (li ++ [(k : Int)]).length = m + 1 := by rw [List.length_append, ← HZ.out.2.2.2]; rfl
              have hr9 := HZ.out.1.row hjn (l := li ++ [(k : Int)]) (v := .slice (some ⟨g2, 0, none⟩) (m + 1) cap2) (g := g2) (W' := w3) (by rw [hl9, numsV_snoc]; exact H4.out.1) rfl (by rw [HZ.out.2.1]; exact H4.out.2.1) (by
                rw [HZ.out.2.1]
                rcases H4.out.2.2 with h9 | h9
                · exact .inl h9
                · exact .inr (by rw [h9]; exact Nat.le_refl _))
              exact ⟨c + 1, _, _, by omega, by go_num, hr9, by rw [HZ.out.2.2.1]; exact HY.out.2.put HY.out.1.rows.len hjn hlt hcl HX.out.symm⟩
            case measure => simp [intOf]; omega
        · obtain rfl : c = u := by omega
          obtain ⟨b2, o2, e9, hb2, hc2⟩ := H1.out.one hlt
          subst e9
          unfold BoolC at hc2
          have hc2 := (HY.out.1.bel.cell (p := ⟨b2, o2 + k, none⟩) hb2).trans hc2
          have hacc := HC.out.2.2.2 k (by rw [HC.out.2.1]; exact hlt)
          obtain ⟨ba, hba⟩ : ∃ ba, ba = acc.getD k false := ⟨_, rfl⟩
          rw [← hba] at hc2 hacc
          have HA := Lib.hid hacc
          clear hba hacc
          cases ba with
          | false =>
            go_wp2_with fail
            go_roundw
            case rel =>
              exact ⟨k + 1, V', back', st, lv, by omega, by go_num, HY.out.1, HY.out.2.row hu2, HL.out.2.2.1, fun x hx hn => (hn (HL.out.2.2.2.2.2.1 x hx)).elim, fun j hj => by have := HL.out.2.2.2.2.1 j hj; omega, HL.out.2.2.2.2.2.1, fun i hi ha => by
                by_cases e : i = k
                · subst e; rw [HA.out] at ha; cases ha
                · exact HL.out.2.2.2.2.2.2 i (by omega) ha⟩
            case measure => simp [intOf]; omega
          | true =>
            have hlvl := HL.out.2.2.1.len
            rw [HC.out.2.1] at hlvl
            have hce := HY.out.1.cell (j := k) (by omega)
            have hfz := HY.out.1.lb.frozen k
            have hkf : lv.getD k false = false := by
              cases e : lv.getD k false
              · rfl
              · have := HL.out.2.2.2.2.1 k e; omega
            have hsr := HL.out.2.2.1.push (j := k) (by rw [HC.out.2.1]; exact hlt) (live_acc HA.out) hkf
            have hfew := HL.out.2.2.1.few
            rw [HC.out.2.1] at hfew
            have hw4 := (HY.out.1.mark k).alloc (.cells #[.int .i64 (k : Int)] 3)
            obtain ⟨sl, hsl⟩ : ∃ sl, sl = st.length := ⟨_, rfl⟩
            have hown := hw4.own
            have HP := Lib.hid (And.intro hw4 (And.intro hsr hsl))
            rw [← hsl] at hown hfew ⊢
            have y1 : (sl + 1) * 8 ≤ 140737488355328 := by omega
            have y2 : sl + 1 ≤ maxLen := by unfold maxLen; omega
            have y3 : ∀ v ∈ [Value.int .i64 (k : Int)], v.oneCell' = true := by intro v hv9; simp at hv9; rw [hv9]; rfl
            have y4 := hw4.bel.size
            have HNEW := Lib.hid (show ((wr.setCell ⟨gl, k, none⟩ (.bool true)).alloc (.cells #[.int .i64 (k : Int)] 3)).heap[wr.heap.size]? = some (.cells #[.int .i64 (k : Int)] 3 (0, 0)) from by
              have := heap_alloc_new (wr.setCell ⟨gl, k, none⟩ (.bool true)) (.cells #[.int .i64 (k : Int)] 3)
              simpa using this)
            clear hw4 hsr hsl hkf
            go_wp2_with (first | (at_builtin; refine wpList_append_lies _ rfl (.tmp 54) (.tmp 56) 34 rfl w.heap.size 3 i3 (.int .i64 0) 1 8 Try.underlying34 hi3 hz3 hsz3 hbt3 rfl (by decide) (.slice A5 sl c5) sl (natsV st) rfl hown ⟨_, 0, none⟩ 1 1 [.int .i64 (k : Int)] rfl rfl (World.news_of_block HNEW.out) y3 (by decide) y2 y1 y4 _ rfl ?_; intro g2 cap2 w3 hown4 hg4 hat4 hlt4))
            have H4 := Lib.hid (And.intro hown4 (And.intro hg4 hat4))
            clear hown4 hg4 hat4 hlt4
            go_roundw
            case rel =>
              have hp := HP.out.1.push (W' := w3) (g := g2) (v := .slice (some ⟨g2, 0, none⟩) (sl + 1) cap2) (x := k) (by rw [← HP.out.2.2]; exact H4.out.1) rfl (by rw [← HP.out.2.2]; exact H4.out.2.1) (by
                rw [← HP.out.2.2]
                rcases H4.out.2.2 with h9 | h9
                · exact .inl h9
                · exact .inr (by rw [h9]; exact Nat.le_refl _))
              refine ⟨k + 1, V', back', st ++ [k], lv.set k true, by omega, by go_num, hp, HY.out.2.row hu2, HP.out.2.1, fun x hx hn => ?_, fun j hj => ?_, fun j hj => ?_, fun i hi ha => ?_⟩
              · exfalso
                by_cases e : x = k
                · exact hn (by rw [e]; simp)
                · have hl9 : x < lv.length := Nat.lt_of_not_le fun h9 => by
                    rw [List.getD_eq_getElem?_getD, List.getElem?_eq_none (by simp; omega)] at hx
                    simp at hx
                  rw [getD_set hl9, if_neg e] at hx
                  exact hn (List.mem_append_left _ (HL.out.2.2.2.2.2.1 x hx))
              · by_cases e : j = k
                · omega
                · have hl9 : j < lv.length := Nat.lt_of_not_le fun h9 => by
                    rw [List.getD_eq_getElem?_getD, List.getElem?_eq_none (by simp; omega)] at hj
                    simp at hj
                  rw [getD_set hl9, if_neg e] at hj
                  have := HL.out.2.2.2.2.1 j hj
                  omega
              · by_cases e : j = k
                · rw [e]; simp
                · have hl9 : j < lv.length := Nat.lt_of_not_le fun h9 => by
                    rw [List.getD_eq_getElem?_getD, List.getElem?_eq_none (by simp; omega)] at hj
                    simp at hj
                  rw [getD_set hl9, if_neg e] at hj
                  exact List.mem_append_left _ (HL.out.2.2.2.2.2.1 j hj)
              · by_cases e : i = k
                · subst e; rw [getD_set (by omega), if_pos rfl]
                · exact more_set _ _ (HL.out.2.2.2.2.2.2 i (by omega) ha)
            case measure => simp [intOf]; omega
    · have hkn : k = n := by omega
      have hb9 : BackOk rows A.n u back A.n 0 := by rw [HC.out.2.1, ← hkn]; have := HL.out.2.1; rw [← hkn] at this; exact this
      have hac9 : ∀ i, i < A.n → A.acc i = true → lv.getD i false = true := fun i hi ha => HL.out.2.2.2.2.2.2 i (by rw [hkn, ← HC.out.2.1]; exact hi) ha
      have HK := Lib.hid (And.intro hkn (And.intro hb9 hac9))
      clear hkn hb9 hac9
      go_wp2_with fail
      go_loopw [6] (fun vs wr => ∃ (st : List Nat) (lv : List Bool), LivW w wr gb gl n V back vs st lv ∧ Sr A st lv ∧ ShutBut back lv st (fun _ => False) ∧ ∀ i, i < A.n → A.acc i = true → lv.getD i false = true) (fun v wr => srM gl v wr)
      case atStart => exact ⟨st, lv, HL.out.1, HL.out.2.2.1, HL.out.2.2.2.1, HK.out.2.2⟩
      case round =>
        obtain ⟨st2, lv2, hl, hs, hsh, hac⟩ := hrel
        obtain ⟨w3, rfl⟩ : ∃ w3 : World, w3 = wr := ⟨_, rfl⟩
        obtain ⟨A6, c6, rfl⟩ := own_sl hl.own
        have HM := Lib.hid (And.intro hl (And.intro hs (And.intro hsh hac)))
        clear hl hs hsh hac
        rcases List.eq_nil_or_concat st2 with rfl | ⟨st0, x, rfl⟩
        · go_wp2_with fail
          go_returns
          exact ⟨gl, lv2, rfl, HM.out.1.lb, HM.out.1.hgl, by rw [HM.out.2.1.len, HC.out.2.1], live_end HC.out.1 HC.out.2.2.1 HK.out.2.1 HM.out.2.1 HM.out.2.2.1 HM.out.2.2.2, HM.out.1.bel⟩
        · rw [List.concat_eq_append] at HM ⊢
          have hxl := HM.out.2.1.on x (by simp)
          have hxn := (HM.out.2.1.live x hxl).1
          have hxv := (HM.out.2.1.live x hxl).2
          rw [HC.out.2.1] at hxn
          have hown := HM.out.1.own
          obtain ⟨b5, cap5, hv5, _, hbl5⟩ := hown.form (by simp)
          simp only [Value.slice.injEq] at hv5
          obtain ⟨rfl, _, rfl⟩ := hv5
          have hx5 : w3.cell? ⟨b5, st0.length, none⟩ = some (.int .i64 (x : Int)) := by
            have := hown.cells (g := b5) rfl st0.length (.int .i64 (x : Int)) (by simp [natsV])
            rw [add_plain'] at this
            simpa using this
          have hcap := own_cap hown
          have hfw := HM.out.2.1.pop.few
          rw [HC.out.2.1] at hfw
          have hM := HM.out.1
          simp only [List.length_append, List.length_singleton] at hcap hM
          have hP := hM.pop
          have HSR := Lib.hid (srM_eq (A := some ⟨b5, 0, none⟩) (n := st0.length + 1) (c := c6) hM.lb)
          obtain ⟨Ab, cb, hvx⟩ := own_sl (hP.rows.own x hxn)
          have hvc := hP.rows.cell hxn
          rw [hvx] at hvc
          have hfb := HK.out.2.1.few x (by rw [HC.out.2.1]; exact hxn)
          rw [HC.out.2.1] at hfb
          obtain ⟨L, hLd⟩ : ∃ L, L = (back.getD x []).length := ⟨_, rfl⟩
          rw [← hLd] at hvx hvc hfb
          have HV := Lib.hid (And.intro hvx (And.intro hLd (And.intro hxl hxv)))
          have HP := Lib.hid hP
          have hlen1 : ((st0.length : Int) + 1 - 1) = st0.length := by omega
          have hlen0 : (0 : Int) < (st0.length : Int) + 1 := by omega
          rw [show (st0 ++ [x]).length = st0.length + 1 by simp]
          obtain ⟨sl, hsl⟩ : ∃ sl, sl = st0.length := ⟨_, rfl⟩
          rw [← hsl] at hx5 hcap hlen1 hlen0 HP HSR hfw ⊢
          have HSL := Lib.hid hsl
          clear hown hsl hM hP hbl5 hvx hLd hxl hxv
          go_wp2_with fail
          go_loopw [6, 78] (fun vs i wr => ∃ (t : Nat) (st' : List Nat) (lv' : List Bool), t ≤ L ∧ i = .int .i64 t ∧ LivW w wr gb gl n V back vs st' lv' ∧ Sr A st' lv' ∧ ShutBut back lv' st' (fun y => y = x) ∧ (∀ (t' i' : Nat), t' < t → (back.getD x []).getD t' 0 = (i' : Int) → lv'.getD i' false = true) ∧ (∀ i, i < A.n → A.acc i = true → lv'.getD i false = true) ∧ 2 * falses lv' + st'.length ≤ 2 * falses lv2 + sl) (fun _ i _ => L - (intOf i).toNat)
          case atStart => exact ⟨0, st0, lv2, by omega, rfl, HP.out, HM.out.2.1.pop, fun y hy hn he => HM.out.2.2.1 y hy (fun h9 => by
              rcases List.mem_append.1 h9 with h8 | h8
              · exact hn h8
              · simp at h8; exact he h8) (fun h9 => h9), fun t' i' h9 => by omega, HM.out.2.2.2, by rw [HSL.out]; exact Nat.le_refl _⟩
          case round =>
            obtain ⟨t, st', lv', ht, rfl, hl, hs, hsh, hsn, hac, hms⟩ := hrel
            obtain ⟨w4, rfl⟩ : ∃ w4 : World, w4 = wr := ⟨_, rfl⟩
            obtain ⟨A7, c7, rfl⟩ := own_sl hl.own
            have HN := Lib.hid (And.intro hl (And.intro hs (And.intro hsh (And.intro hsn (And.intro hac hms)))))
            clear hl hs hsh hsn hac hms
            by_cases htl : t < L
            · obtain ⟨b1, o1, e9, hb1, hc1⟩ := (HN.out.1.rows.arr hxn HV.out.1).2.one htl
              subst e9
              unfold NumC at hc1
              obtain ⟨j, hj, hjn, hjv⟩ := back_live HC.out.2.2.1 HK.out.2.1 (j := x) (by rw [HC.out.2.1]; exact hxn) HV.out.2.2.2 (x := (back.getD x []).getD t 0) (getD_memI (by rw [← HV.out.2.1]; exact htl))
              rw [hj] at hc1
              rw [HC.out.2.1] at hjn
              have hlvl := HN.out.2.1.len
              rw [HC.out.2.1] at hlvl
              have hce := HN.out.1.cell (j := j) (by omega)
              have hfz := HN.out.1.lb.frozen j
              have HJ := Lib.hid (And.intro hj hjv)
              clear hj hjv
              cases hlj : lv'.getD j false with
              | true =>
                have HLJ := Lib.hid hlj
                rw [hlj] at hce
                clear hlj
                go_wp2_with fail
                go_roundw
                case rel =>
                  refine ⟨t + 1, st', lv', by omega, by go_num, HN.out.1, HN.out.2.1, HN.out.2.2.1, fun t' i' h1 h2 => ?_, HN.out.2.2.2.2.1, HN.out.2.2.2.2.2⟩
                  by_cases e : t' = t
                  · subst e
                    rw [HJ.out.1] at h2
                    rw [show i' = j by omega]; exact HLJ.out
                  · exact HN.out.2.2.2.1 t' i' (by omega) h2
                case measure => simp [intOf]; omega
              | false =>
                rw [hlj] at hce
                have hsr := HN.out.2.1.push (j := j) (by rw [HC.out.2.1]; exact hjn) HJ.out.2 hlj
                have hfew := HN.out.2.1.few
                rw [HC.out.2.1] at hfew
                have hmx := falses_set (l := lv') (j := j) (by omega) hlj
                have hw5 := (HN.out.1.mark j).alloc (.cells #[.int .i64 (j : Int)] 3)
                obtain ⟨s2, hs2⟩ : ∃ s2, s2 = st'.length := ⟨_, rfl⟩
                have hown := hw5.own
                have HQ := Lib.hid (And.intro hw5 (And.intro hsr (And.intro hs2 hmx)))
                rw [← hs2] at hown hfew ⊢
                have y1 : (s2 + 1) * 8 ≤ 140737488355328 := by omega
                have y2 : s2 + 1 ≤ maxLen := by unfold maxLen; omega
                have y3 : ∀ v ∈ [Value.int .i64 (j : Int)], v.oneCell' = true := by intro v hv9; simp at hv9; rw [hv9]; rfl
                have y4 := hw5.bel.size
                have HNEW := Lib.hid (show ((w4.setCell ⟨gl, j, none⟩ (.bool true)).alloc (.cells #[.int .i64 (j : Int)] 3)).heap[w4.heap.size]? = some (.cells #[.int .i64 (j : Int)] 3 (0, 0)) from by
                  have := heap_alloc_new (w4.setCell ⟨gl, j, none⟩ (.bool true)) (.cells #[.int .i64 (j : Int)] 3)
                  simpa using this)
                clear hw5 hsr hs2 hlj hmx
                go_wp2_with (first | (at_builtin; refine wpList_append_lies _ rfl (.tmp 90) (.tmp 92) 34 rfl w.heap.size 3 i3 (.int .i64 0) 1 8 Try.underlying34 hi3 hz3 hsz3 hbt3 rfl (by decide) (.slice A7 s2 c7) s2 (natsV st') rfl hown ⟨_, 0, none⟩ 1 1 [.int .i64 (j : Int)] rfl rfl (World.news_of_block HNEW.out) y3 (by decide) y2 y1 y4 _ rfl ?_; intro g2 cap2 w5 hown4 hg4 hat4 hlt4))
                have H4 := Lib.hid (And.intro hown4 (And.intro hg4 hat4))
                clear hown4 hg4 hat4 hlt4
                go_roundw
                case rel =>
                  have hp := HQ.out.1.push (W' := w5) (g := g2) (v := .slice (some ⟨g2, 0, none⟩) (s2 + 1) cap2) (x := j) (by rw [← HQ.out.2.2.1]; exact H4.out.1) rfl (by rw [← HQ.out.2.2.1]; exact H4.out.2.1) (by
                    rw [← HQ.out.2.2.1]
                    rcases H4.out.2.2 with h9 | h9
                    · exact .inl h9
                    · exact .inr (by rw [h9]; exact Nat.le_refl _))
                  refine ⟨t + 1, st' ++ [j], lv'.set j true, by omega, by go_num, hp, HQ.out.2.1, HN.out.2.2.1.push, fun t' i' h1 h2 => ?_, fun i hi ha => more_set _ _ (HN.out.2.2.2.2.1 i hi ha), ?_⟩
                  · by_cases e : t' = t
                    · subst e
                      rw [HJ.out.1] at h2
                      rw [show i' = j by omega, getD_set (by omega), if_pos rfl]
                    · exact more_set _ _ (HN.out.2.2.2.1 t' i' (by omega) h2)
                  · have h1 := HN.out.2.2.2.2.2
                    have h2 := HQ.out.2.2.2
                    simp only [List.length_append, List.length_singleton]
                    omega
                case measure => simp [intOf]; omega
            · obtain rfl : t = L := by omega
              go_wp2_with fail
              go_roundw
              case rel =>
                refine ⟨st', lv', HN.out.1, HN.out.2.1, fun y hy hn _ => ?_, HN.out.2.2.2.2.1⟩
                by_cases e : y = x
                · subst e
                  intro i hi
                  obtain ⟨t', ht', he⟩ := List.getElem_of_mem hi
                  exact HN.out.2.2.2.1 t' i (by rw [HV.out.2.1]; exact ht') (by rw [List.getD_eq_getElem?_getD, List.getElem?_eq_getElem ht', he]; rfl)
                · exact HN.out.2.2.1 y hy hn e
              case measure =>
                have h1 := HN.out.2.2.2.2.2
                have h2 := HSR.out
                have h3 := srM_eq (A := A7) (n := st'.length) (c := c7) HN.out.1.lb
                rw [h2, h3]
                omega
end Go.Proofs.Ytiaigdedkdeeoaa
