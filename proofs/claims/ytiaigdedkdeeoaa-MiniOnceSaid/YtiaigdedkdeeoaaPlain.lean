/- What the least automaton is worth: plain. -/
import Derived.Test.YtiaigdedkdeeoaaLLeast
import Derived.Test.YtiaigdedkdeeoaaEPlain
namespace Go.Proofs.Ytiaigdedkdeeoaa

/-! Classes. -/
structure NarI (wide : List (List Int)) (k : Nat) (cl ls : List Nat) : Prop where
  len : cl.length = k
  cls : ∀ b, b < k → cl.getD b 0 < ls.length ∧ colOf wide (ls.getD (cl.getD b 0) 0) = colOf wide b
  lt : ∀ i, i < ls.length → ls.getD i 0 < k
theorem narI (wide : List (List Int)) : ∀ k, NarI wide k (narrowK wide k).1 (narrowK wide k).2
  | 0 => ⟨rfl, fun b hb => by omega, fun i hi => by cases hi⟩
  | k + 1 => by
    have ih := narI wide k
    obtain ⟨cl, hcl⟩ : ∃ cl, cl = (narrowK wide k).1 := ⟨_, rfl⟩
    obtain ⟨ls, hls⟩ : ∃ ls, ls = (narrowK wide k).2 := ⟨_, rfl⟩
    have hs := narrowK_succ wide k
    rw [← hcl, ← hls] at ih hs
    rw [hs]
    obtain ⟨p, hp⟩ : ∃ p, p = ls.findIdx (fun l => colOf wide l == colOf wide k) := ⟨_, rfl⟩
    rw [← hp]
    by_cases h : p < ls.length
    · rw [if_pos h]
      refine ⟨by rw [List.length_append, ih.len]; rfl, fun b hb => ?_, fun i hi => by
        show ls.getD i 0 < k + 1
        have := ih.lt i hi
        omega⟩
      by_cases e : b < k
      · rw [getD_app1 (by rw [ih.len]; exact e)]; exact ih.cls b e
      · obtain rfl : b = k := by omega
        have e9 : (cl ++ [p]).getD b 0 = p := by
          have := getD_app2 (l := cl) (x := p) (d := 0)
          rwa [ih.len] at this
        show (cl ++ [p]).getD b 0 < ls.length ∧ colOf wide (ls.getD ((cl ++ [p]).getD b 0) 0) = colOf wide b
        rw [e9]
        refine ⟨h, ?_⟩
        have h1 := List.findIdx_getElem (xs := ls) (p := fun l => colOf wide l == colOf wide b) (w := by rw [← hp]; exact h)
        simp only [← hp, beq_iff_eq] at h1
        rw [List.getD_eq_getElem?_getD, List.getElem?_eq_getElem h]
        exact h1
    · rw [if_neg h]
      have hpl2 : p ≤ ls.length := by rw [hp]; exact List.findIdx_le_length
      have hpl : p = ls.length := by omega
      refine ⟨by rw [List.length_append, ih.len]; rfl, fun b hb => ?_, fun i hi => ?_⟩
      · show (cl ++ [p]).getD b 0 < (ls ++ [k]).length ∧ colOf wide ((ls ++ [k]).getD ((cl ++ [p]).getD b 0) 0) = colOf wide b
        by_cases e : b < k
        · have h1 := ih.cls b e
          rw [getD_app1 (by rw [ih.len]; exact e), getD_app1 h1.1]
          exact ⟨by rw [List.length_append]; omega, h1.2⟩
        · obtain rfl : b = k := by omega
          have e9 : (cl ++ [p]).getD b 0 = p := by
            have := getD_app2 (l := cl) (x := p) (d := 0)
            rwa [ih.len] at this
          rw [e9, hpl, getD_app2]
          exact ⟨by simp, rfl⟩
      · have hi : i < (ls ++ [k]).length := hi
        rw [List.length_append, List.length_singleton] at hi
        show (ls ++ [k]).getD i 0 < k + 1
        by_cases e : i < ls.length
        · rw [getD_app1 e]; have := ih.lt i e; omega
        · obtain rfl : i = ls.length := by omega
          rw [getD_app2]; omega
theorem narrowK_pos (wide : List (List Int)) : 0 < (narrowK wide 256).2.length := by
  have h := (narI wide 256).cls 0 (by omega)
  omega
section
variable {D : Dfa} {s : Bf}
theorem colOf_get {wide : List (List Int)} {b i : Nat} (hi : i < wide.length) : (colOf wide b).getD i 0 = (wide.getD i []).getD b 0 := by
  unfold colOf; simp [hi]
theorem nar_row {i : Nat} (hw : i < s.wide.length) : (narD s.wide s.met D.acc).next.getD i [] = (narrowK s.wide 256).2.map (fun b => (s.wide.getD i []).getD b 0) := by
  unfold narD; simp [hw]
theorem nx_eq (M : Dfa) (i b : Nat) : (autOf M).nx i b = (M.next.getD i []).getD (M.cls b) 0 := rfl
theorem nar_cls (wide : List (List Int)) (met : List Nat) (acc : List Bool) (b : Nat) : (narD wide met acc).cls b = (narrowK wide 256).1.getD b 0 := by simp only [narD]
theorem nar_nx {i b : Nat} (hw : i < s.wide.length) (hb : b < 256) : (autOf (narD s.wide s.met D.acc)).nx i b = (s.wide.getD i []).getD b 0 := by
  have hn := (narI s.wide 256).cls b hb
  rw [nx_eq, nar_row hw, nar_cls]
  have e : ((narrowK s.wide 256).2.map (fun b => (s.wide.getD i []).getD b 0)).getD ((narrowK s.wide 256).1.getD b 0) 0 = (s.wide.getD i []).getD ((narrowK s.wide 256).2.getD ((narrowK s.wide 256).1.getD b 0) 0) 0 := by
    simp only [List.getD_eq_getElem?_getD, List.getElem?_map] at hn ⊢
    cases e9 : (narrowK s.wide 256).2[((narrowK s.wide 256).1[b]?.getD 0)]? with
    | none => rw [List.getElem?_eq_none_iff] at e9; omega
    | some v => rfl
  rw [e, ← colOf_get hw, hn.2, colOf_get hw]
theorem bend_len (h : BEnd (autOf D) s) (hi : BInv (autOf D) s) : s.wide.length = s.met.length := by have := h.fin; have := hi.wl; omega
/-- the least takes, from each of its states on, what the state does that it stands for -/
theorem least_le (h : BEnd (autOf D) s) (hi : BInv (autOf D) s) : ∀ (w : List Nat), Byt w → ∀ p, p < s.met.length → run (autOf (narD s.wide s.met D.acc)) p w = run (autOf D) (s.met.getD p 0) w
  | [], _, p, hp => by
    show (s.met.map (fun i => D.acc.getD i false)).getD p false = D.acc.getD (s.met.getD p 0) false
    simp [hp]
  | b :: w, hw, p, hp => by
    have hb : b < 256 := hw b List.mem_cons_self
    have hw' : Byt w := fun c hc => hw c (List.mem_cons_of_mem _ hc)
    have hl := bend_len h hi
    have hc := (hi.rows p (by omega)).2 b hb
    have hx := nar_nx (D := D) (i := p) (b := b) (s := s) (by omega) hb
    rcases hc with ⟨hd, he⟩ | ⟨hnd, k, he, hk, hle⟩
    · rw [run_dead hd hw']
      show (if 0 ≤ (autOf (narD s.wide s.met D.acc)).nx p b then _ else false) = false
      rw [if_neg (by rw [hx, he]; omega)]
    · rw [run_go (not_dead hnd).1, run_go (by rw [hx, he]; omega), hx, he, Int.toNat_natCast, least_le h hi w hw' k hk]
      exact (hle w hw').symm
theorem empty_run : ∀ (w : List Nat) (i : Nat), i = 0 → run (autOf emptyD) i w = false
  | [], i, h => by subst h; rfl
  | b :: w, i, h => by subst h; rfl
theorem empty_right : RightD emptyD := by
  refine ⟨Nat.le_refl _, by decide, rfl, by decide, by decide, fun ⟨b, hb, h⟩ => by have h : 1 ≤ 0 := h; omega, fun ⟨i, hi, h⟩ => ?_⟩
  have hi : i < 1 := hi
  obtain rfl : i = 0 := by omega
  rcases h with h | ⟨j, hj, h⟩
  · exact h rfl
  · have hj : j < 1 := hj
    obtain rfl : j = 0 := by omega
    have h : (-1 : Int) < -1 ∨ (1 : Int) ≤ -1 := h
    omega
/-- what the least of an automaton that may be is -/
theorem LeastOf.right {M : Dfa} (h : LeastOf D M) (hr : RightD D) : RightD M ∧ M.next.length ≤ D.next.length ∧ LE (autOf M) (autOf D) 0 0 := by
  rcases h with ⟨hn, rfl⟩ | ⟨hl, s, he, rfl⟩
  · refine ⟨empty_right, hr.lo, fun w hw => ?_⟩
    rw [empty_run w 0 rfl]
    cases e : run (autOf D) 0 w with
    | false => rfl
    | true => exact (hn ⟨w, hw, e⟩).elim
  · have hi := he.reach.inv hr.aut hl
    have hlen := bend_len he hi
    have hml := hi.len
    have hpos := hi.pos
    have hml : s.met.length ≤ D.next.length := hml
    have hnl : (narD s.wide s.met D.acc).next.length = s.met.length := by show (s.wide.map _).length = _; rw [List.length_map, hlen]
    have hmany : (narD s.wide s.met D.acc).many = (narrowK s.wide 256).2.length := by
      unfold Dfa.many
      rw [nar_row (by omega), List.length_map]
    have hk := narrowK_len s.wide 256
    have hp := narrowK_pos s.wide
    refine ⟨⟨by rw [hnl]; omega, by rw [hnl]; have := hr.hi; omega, ?_, by rw [hmany]; omega, by rw [hmany]; exact hk.2, fun ⟨b, hb, h9⟩ => ?_, fun ⟨i, hi9, h9⟩ => ?_⟩, by rw [hnl]; exact hml, fun w hw => ?_⟩
    · rw [hnl]; show (s.met.map _).length = _; rw [List.length_map]
    · rw [hmany] at h9
      have h8 := ((narI s.wide 256).cls b hb).1
      rw [nar_cls] at h9
      omega
    · rw [hnl] at hi9
      unfold RowOff at h9
      rw [hmany, hnl, nar_row (by omega), List.length_map] at h9
      rcases h9 with h9 | ⟨j, hj, h9⟩
      · exact h9 rfl
      · have hlt := (narI s.wide 256).lt j hj
        have hc := (hi.rows i (by omega)).2 _ hlt
        have e : ((narrowK s.wide 256).2.map (fun b => (s.wide.getD i []).getD b 0)).getD j 0 = (s.wide.getD i []).getD ((narrowK s.wide 256).2.getD j 0) 0 := by
          simp [hj]
        rw [e] at h9
        rcases hc with ⟨_, hc⟩ | ⟨_, k, hc, hk9, _⟩ <;> rw [hc] at h9 <;> omega
    · have h0 := least_le he hi w hw 0 hpos
      rw [hi.first] at h0
      exact h0
end
/-- automata that take the same have the same least -/
theorem least_same {D D' M M' : Dfa} (hD : RightD D) (hD' : RightD D') (hl : LE (autOf D) (autOf D') 0 0) (h : LeastOf D M) (h' : LeastOf D' M') : M = M' := by
  rcases h with ⟨hn, rfl⟩ | ⟨hv, s, he, rfl⟩
  · rcases h' with ⟨_, rfl⟩ | ⟨hv', _⟩
    · rfl
    · exact (hn (hl.live.2 hv')).elim
  · rcases h' with ⟨hn', _⟩ | ⟨hv', t, he', rfl⟩
    · exact (hn' (hl.live.1 hv)).elim
    · have tw := he.twin he' hD.aut hD'.aut hv hl
      unfold narD
      rw [← tw.wide]
      congr 1
      apply List.ext_getElem (by rw [List.length_map, List.length_map, tw.len])
      intro i h1 h2
      rw [List.length_map] at h1 h2
      have h3 := (tw.le i h1).acc
      simp only [List.getElem_map]
      have h3 : D.acc.getD (s.met.getD i 0) false = D'.acc.getD (t.met.getD i 0) false := h3
      rw [List.getD_eq_getElem?_getD (l := s.met), List.getElem?_eq_getElem h1, List.getD_eq_getElem?_getD (l := t.met), List.getElem?_eq_getElem h2] at h3
      exact h3
/-! Places at which automata take. -/
def bytN (t : Bs) : List Nat := t.map (·.toNat)
theorem byt_n (t : Bs) : Byt (bytN t) := fun b hb => by
  obtain ⟨c, _, rfl⟩ := List.mem_map.1 hb
  exact c.toNat_lt
theorem nextD_nx (D : Dfa) (st : Nat) (c : UInt8) : nextD D st c = (autOf D).nx st c.toNat := rfl
theorem here_acc {D M : Dfa} {st st' a : Nat} (h : (autOf D).acc st = (autOf M).acc st') : here D st a = here M st' a := by
  have h : D.acc.getD st false = M.acc.getD st' false := h
  unfold here; rw [h]
theorem ends_dead {D : Dfa} (hr : RightD D) : ∀ (t : Bs) (st a : Nat), st < D.next.length → ¬ Live (autOf D) st → endsF D t st a = []
  | [], st, a, _, hn => by
    unfold endsF here
    rw [if_neg (show ¬ D.acc.getD st false = true from fun h => hn (live_acc h))]
  | c :: t, st, a, hs, hn => by
    unfold endsF here
    rw [if_neg (show ¬ D.acc.getD st false = true from fun h => hn (live_acc h)), List.nil_append]
    by_cases h0 : nextD D st c < 0
    · rw [if_pos h0]
    · rw [if_neg h0]
      have h1 := (state_next hr hs c).2
      refine ends_dead hr t _ _ (by omega) (fun hl => hn ?_)
      exact live_step (b := c.toNat) c.toNat_lt (by rw [← nextD_nx]; omega) hl
theorem ends_le {D M : Dfa} (hr : RightD D) (hm : RightD M) : ∀ (t : Bs) (st st' a : Nat), st < D.next.length → st' < M.next.length → LE (autOf D) (autOf M) st st' → endsF D t st a = endsF M t st' a
  | [], st, st', a, _, _, hl => here_acc hl.acc
  | c :: t, st, st', a, hs, hs', hl => by
    have h1 := (state_next hr hs c).2
    have h1' := (state_next hm hs' c).2
    have hb : c.toNat < 256 := c.toNat_lt
    unfold endsF
    rw [here_acc hl.acc]
    congr 1
    by_cases hd : Dead (autOf D) st c.toNat
    · have hd' := (hl.dead hb).1 hd
      have key : ∀ {D : Dfa} {st : Nat}, RightD D → st < D.next.length → Dead (autOf D) st c.toNat → (if nextD D st c < 0 then [] else endsF D t (nextD D st c).toNat (a + 1)) = [] := fun {D st} hr hs hd => by
        by_cases h0 : nextD D st c < 0
        · rw [if_pos h0]
        · rw [if_neg h0]
          have h1 := (state_next hr hs c).2
          refine ends_dead hr t _ _ (by omega) ?_
          rcases hd with hd | hd
          · exact (h0 hd).elim
          · exact hd
      rw [key hr hs hd, key hm hs' hd']
    · have hd' : ¬ Dead (autOf M) st' c.toNat := fun h9 => hd ((hl.dead hb).2 h9)
      have e1 : 0 ≤ nextD D st c := (not_dead hd).1
      have e2 : 0 ≤ nextD M st' c := (not_dead hd').1
      rw [if_neg (by omega), if_neg (by omega)]
      exact ends_le hr hm t _ _ _ (by omega) (by omega) (hl.step hb hd)
theorem endsR_le {D M : Dfa} (hr : RightD D) (hm : RightD M) (hl : LE (autOf D) (autOf M) 0 0) (s : ByteArray) (x : Int) : endsR D s x = endsR M s x := by
  unfold endsR
  by_cases h : 0 ≤ x ∧ x ≤ (s.size : Int)
  · rw [if_pos ⟨hr, h⟩, if_pos ⟨hm, h⟩]
    exact ends_le hr hm _ _ _ _ hr.lo hm.lo hl
  · rw [if_neg (fun h9 => h h9.2), if_neg (fun h9 => h h9.2)]
def tf8 (tf : Nat → Nat) (c : UInt8) : UInt8 := UInt8.ofNat (tf c.toNat)
theorem ends_map {D : Dfa} {tf : Nat → Nat} (ht : ∀ b, b < 256 → tf b < 256) : ∀ (t : Bs) (st a : Nat), endsF (mapD D tf) t st a = endsF D (t.map (tf8 tf)) st a
  | [], _, _ => rfl
  | c :: t, st, a => by
    have e : nextD (mapD D tf) st c = nextD D st (tf8 tf c) := by
      show (D.next.getD st []).getD (D.cls (tf c.toNat)) 0 = (D.next.getD st []).getD (D.cls (tf8 tf c).toNat) 0
      have : (tf8 tf c).toNat = tf c.toNat := by
        have := ht c.toNat c.toNat_lt
        unfold tf8
        rw [UInt8.toNat_ofNat']; omega
      rw [this]
    rw [List.map_cons]
    unfold endsF
    rw [e, ends_map ht t]
    rfl
theorem endsR_map {D : Dfa} (hr : RightD D) {tf : Nat → Nat} (ht : ∀ b, b < 256 → tf b < 256) (s s' : ByteArray) (hs : s'.data.toList = s.data.toList.map (tf8 tf)) (x : Int) : endsR (mapD D tf) s x = endsR D s' x := by
  have hsz : s'.size = s.size := by rw [← size_data, ← size_data, hs, List.length_map]
  unfold endsR
  rw [hsz]
  by_cases h : 0 ≤ x ∧ x ≤ (s.size : Int)
  · rw [if_pos ⟨hr.map ht, h⟩, if_pos ⟨hr, h⟩, ends_map ht, hs, List.map_drop]
  · rw [if_neg (fun h9 => h h9.2), if_neg (fun h9 => h h9.2)]
end Go.Proofs.Ytiaigdedkdeeoaa
