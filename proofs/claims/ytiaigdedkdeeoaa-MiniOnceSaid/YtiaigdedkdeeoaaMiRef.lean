/- mini.refined. -/
import Derived.Test.YtiaigdedkdeeoaaMiRef0
import Derived.Laws.CopyOwn
import Derived.Deep.CutRange
import Derived.Deep.CutBlock
namespace Go.Proofs.Ytiaigdedkdeeoaa
open Go.RowKit Go.Maps Go.WideMaps

theorem info3 : (Try.prog.info? 3).map (fun i => (i.zero, i.size, i.bytes)) = some (some (.int .i64 0), 1, 8) := by kernel_rfl
theorem info3s : (Try.prog.info? 3).map (·.size) = some 1 := by kernel_rfl
theorem nums_get {q : IntKind} {l : List Int} {k : Nat} (h : k < l.length) : (numsV q l)[k]? = some (.int q (l.getD k 0)) := by simp [numsV, h]
theorem nums_set (q : IntKind) (l : List Int) (k : Nat) (x : Int) : (numsV q l).set k (.int q x) = numsV q (l.set k x) := by simp [numsV, List.map_set]
/-- the column's numbers as far as they are new -/
def mixN (q part : List Int) (rows : List (List Int)) (c i : Nat) : List Int := colN q part rows c i ++ q.drop i
theorem mixN_len {q part : List Int} {rows : List (List Int)} {c i : Nat} (h : i ≤ q.length) : (mixN q part rows c i).length = q.length := by
  unfold mixN; rw [List.length_append, colN_len, List.length_drop]; omega
theorem mixN_get {q part : List Int} {rows : List (List Int)} {c i : Nat} (_h : i < q.length) : (mixN q part rows c i).getD i 0 = q.getD i 0 := by
  unfold mixN
  rw [List.getD_eq_getElem?_getD, List.getElem?_append_right (by rw [colN_len]; exact Nat.le_refl _), colN_len]
  simp
theorem mixN_set {q part : List Int} {rows : List (List Int)} {c i : Nat} (h : i < q.length) {x : Int} (hx : x = if q.getD i 0 < 0 then q.getD i 0 else (plc (colK q part rows c i) (keyP q part rows c i) : Nat)) : (mixN q part rows c i).set i x = mixN q part rows c (i + 1) := by
  unfold mixN
  rw [List.set_append_right _ _ (by rw [colN_len]; exact Nat.le_refl _), colN_len, Nat.sub_self, List.drop_eq_getElem_cons h, List.set_cons_zero, hx]
  show _ = (colN q part rows c i ++ [_]) ++ _
  rw [List.append_assoc]; rfl
theorem mixN_keep {q part : List Int} {rows : List (List Int)} {c i : Nat} (h : i < q.length) (h0 : q.getD i 0 < 0) : mixN q part rows c i = mixN q part rows c (i + 1) := by
  rw [← mixN_set h (x := q.getD i 0) (by rw [if_pos h0])]
  symm
  apply List.ext_getElem?
  intro j
  rw [List.getElem?_set]
  split
  · rename_i e
    subst e
    have hl := mixN_len (q := q) (part := part) (rows := rows) (c := c) (i := i) (by omega)
    rw [if_pos (by rw [hl]; exact h), List.getElem?_eq_getElem (by rw [hl]; exact h)]
    have := mixN_get (part := part) (rows := rows) (c := c) h
    rw [← this, List.getD_eq_getElem?_getD, List.getElem?_eq_getElem (by rw [hl]; exact h)]
    rfl
  · rfl
theorem colK_neg {q part : List Int} {rows : List (List Int)} {c i : Nat} (h0 : q.getD i 0 < 0) : colK q part rows c (i + 1) = colK q part rows c i := by rw [colK_succ, if_pos (.inl h0)]
theorem colK_old {q part : List Int} {rows : List (List Int)} {c i : Nat} (h0 : keyP q part rows c i ∈ colK q part rows c i) : colK q part rows c (i + 1) = colK q part rows c i := by rw [colK_succ, if_pos (.inr h0)]
theorem colK_new {q part : List Int} {rows : List (List Int)} {c i : Nat} (h0 : 0 ≤ q.getD i 0) (h : keyP q part rows c i ∉ colK q part rows c i) : colK q part rows c (i + 1) = colK q part rows c i ++ [keyP q part rows c i] := by
  rw [colK_succ, if_neg]
  rintro (h9 | h9)
  · omega
  · exact h h9
/-- the map of names -/
structure NmD (W : World) (gm m : Nat) (D : DataW Unit) (all : List (Int × Int)) : Prop where
  own : W.ownsMap Try.prog 71 (plainElem Try.prog 3) gm m D
  idx : IdxD pairK D all
  size : Maps.size D = all.length
theorem wpList_lookup_pair (w : World) {ops : Array Oper} {rest : List Oper} {o : Oper} {a : Act} {Q : Exit → Act → World → Prop}
    (hgd : o.guard = none) (m x : Operand) (hop : o.op = Op.lookup 69 m x true) (g n : Nat) (D : DataW Unit) (all : List (Int × Int)) (hm : a.eval m = .map (some g))
    (hown : NmD w g n D all) (p q : Int) (hp : I64 p) (hq : I64 q) (hx : a.eval x = .agg #[.int .i64 p, .int .i64 q])
    (iv : Int) (ok : Bool) (hiv : placeI all (p, q) = iv) (hok : decide ((p, q) ∈ all) = ok)
    (h : wpList Try.prog ops Q rest (a.put o.dst (.tuple #[.int .i64 iv, .bool ok])) w) :
    wpList Try.prog ops Q (o :: rest) a w := by
  refine wpList_plain hgd fun K' hK' => ?_
  have hrun : (Instr.lookup 69 (.map (some g)) (.agg #[.int .i64 p, .int .i64 q]) true).run Try.prog w = .ok (.tuple #[.int .i64 iv, .bool ok]) w := by
    rw [idx_lookup keyed71 Try.underlying69 hown.own hown.idx (p, q) ⟨hp, hq⟩ (keyOf71 p q hp hq), hiv, ← hok]; congr
  unfold Oper.wp
  simp [execOp, hop, hm, hx, hrun, Result.andThen]
  exact hK' _ _ h
theorem NmD.but {S : Nat → Prop} {w w1 : World} {gm m : Nat} {D : DataW Unit} {all : List (Int × Int)} (h : NmD w gm m D all) (hb : But S w w1) (hn : ¬ S gm) : NmD w1 gm m D all := ⟨hb.maps h.own hn, h.idx, h.size⟩
theorem but_alloc (S : Nat → Prop) (w : World) (o : Obj) : But S w (w.alloc o) :=
  ⟨rfl, rfl, rfl, by simp, fun k hk _ => Below.heap_alloc w o k hk⟩
theorem but_setCell (w : World) (g k : Nat) (v : Value) : But (fun j => j = g) w (w.setCell ⟨g, k, none⟩ v) := (But.of_grown (grownBy_setCell w g k v)).mono (fun _ _ e => (by injection e with e; exact e.symm))
/-- what one column's loop keeps -/
structure RfL (w W : World) (g gm m : Nat) (q part : List Int) (rows : List (List Int)) (c i : Nat) (D : DataW Unit) : Prop where
  bel : Below w.heap.size w W
  hg : w.heap.size ≤ g
  blk : Blk W g 3 (numsV .i64 (mixN q part rows c i))
  nm : NmD W gm m D (colK q part rows c i)
  hm : w.heap.size ≤ gm
section
variable {w W W' : World} {g gm m : Nat} {q part : List Int} {rows : List (List Int)} {c i : Nat} {D : DataW Unit}
theorem RfL.ne (h : RfL w W g gm m q part rows c i D) : gm ≠ g := map_blk_ne h.nm.own h.blk
theorem RfL.alloc (h : RfL w W g gm m q part rows c i D) (o : Obj) : RfL w (W.alloc o) g gm m q part rows c i D :=
  ⟨h.bel.alloc h.bel.size o, h.hg, h.blk.alloc o, h.nm.but (but_alloc (fun _ => False) W o) (fun e => e), h.hm⟩
theorem RfL.setK (h : RfL w W g gm m q part rows c i D) {gk : Nat} {t : TypeId} {cur : List Value} (hk : Blk W gk t cur) (ht : t ≠ 3) (hb : w.heap.size ≤ gk) (j : Nat) (v : Value) : RfL w (W.setCell ⟨gk, j, none⟩ v) g gm m q part rows c i D :=
  have hb1 := but_setCell W gk j v
  ⟨h.bel.trans (hb1.below h.bel.size (fun k e => by rw [e]; exact hb)), h.hg, hb1.blk h.blk (fun e => blk_ne h.blk hk (Ne.symm ht) e), h.nm.but hb1 (fun e => map_blk_ne h.nm.own hk e), h.hm⟩
theorem RfL.put (hb : Below w.heap.size w W) (hg : w.heap.size ≤ g) (hblk : Blk W g 3 (numsV .i64 (mixN q part rows c i))) (hm : w.heap.size ≤ gm) (hi : i < q.length) {x : Int} (hx : x = if q.getD i 0 < 0 then q.getD i 0 else (plc (colK q part rows c i) (keyP q part rows c i) : Nat))
    {m' : Nat} {D' : DataW Unit} (hn : NmD W gm m' D' (colK q part rows c (i + 1))) : RfL w (W.setCell ⟨g, i, none⟩ (.int .i64 x)) g gm m' q part rows c (i + 1) D' :=
  have hb1 := but_setCell W g i (.int .i64 x)
  ⟨hb.trans (hb1.below hb.size (fun k e => by rw [e]; exact hg)), hg, by rw [← mixN_set hi hx, ← nums_set]; exact hblk.set i _, hn.but hb1 (fun e => map_blk_ne hn.own hblk e), hm⟩
theorem RfL.skip (h : RfL w W g gm m q part rows c i D) (hi : i < q.length) (h0 : q.getD i 0 < 0) : RfL w W g gm m q part rows c (i + 1) D :=
  ⟨h.bel, h.hg, by rw [← mixN_keep hi h0]; exact h.blk, by rw [colK_neg h0]; exact h.nm, h.hm⟩
end
set_option maxRecDepth 100000 in
set_option maxHeartbeats 8000000 in
theorem refined_any (A0 : Option Addr) (n c0 : Nat) (rows : List (List Int)) (RA : Nat → Option Addr) (rc : Nat → Nat) (A1 : Option Addr) (c1 : Nat) (part : List Int) (u : Nat) (w : World)
    (h0 : RowsIn w A0 n rows RA rc) (h1 : Arr w w.heap.size 1 A1 n (NumC .i64 part)) (hp : part.length = n) (hn1 : 1 ≤ n) (hn4 : n ≤ 400) (hu : ∀ i, i < n → (rows.getD i []).length = u) (hu2 : u ≤ 256)
    (hj : ∀ i c, i < n → c < u → -1 ≤ (rows.getD i []).getD c 0 ∧ (rows.getD i []).getD c 0 < n) (hs : ∀ i, -1 ≤ part.getD i 0 ∧ part.getD i 0 ≤ 1000) :
    Calls Try.prog 31 #[.slice A0 n c0, .slice A1 n c1] w fun e w' => ∃ v q, e = .returned v ∧ w'.ownsRow w.heap.size 3 1 v n (numsV .i64 q) ∧ q.length = n ∧ FineC n rows part q u ∧ (∀ i, -1 ≤ q.getD i 0 ∧ q.getD i 0 ≤ 1000) ∧ Below w.heap.size w w' := by
  have hmk := make_one 34 3 (.int .i64 0) 8 Try.underlying34 info3 rfl n (by omega) (by omega)
  have H0 := Lib.hid h0
  have H1 := Lib.hid h1
  have HJ := Lib.hid hj
  have HS := Lib.hid hs
  have HU := Lib.hid hu
  have HP := Lib.hid hp
  clear h0 h1 hj hs hu hp
  obtain ⟨X, hX⟩ : ∃ X, X = numsV .i64 part := ⟨_, rfl⟩
  have hXl : X.length = n := by rw [hX]; simp [numsV, HP.out]
  have hX1 : ∀ v ∈ X, v.oneCell' = true := by rw [hX]; intro v hv; simp only [numsV, List.mem_map] at hv; obtain ⟨_, _, rfl⟩ := hv; rfl
  have HX := Lib.hid hX
  have hsrc : ∃ ad, A1 = some ad ∧ ∀ j v, X[j]? = some v → w.cell? (ad.add j) = some v := by
    obtain ⟨b, o, rfl, _, hc⟩ := H1.out (by omega)
    refine ⟨_, rfl, fun j v hv => ?_⟩
    have hj : j < n := by rw [← hXl]; exact (List.getElem?_eq_some_iff.1 hv).1
    rw [add_plain']
    have := hc j 0 hj (by omega)
    rw [show o + (j * 1 + 0) = o + j by omega] at this
    rw [this]
    rw [hX, nums_get (by rw [HP.out]; exact hj)] at hv
    exact hv
  clear hX
  obtain ⟨b0, o0, hA0, hb0, hc0⟩ := H0.out.arr.one (k := 0) (by omega)
  have hw0 := HU.out 0 (by omega)
  unfold RowC at hc0
  rw [hw0, Nat.add_zero] at hc0
  subst hA0
  go_enter Try.func31, Try.ntmps31
  have hblk : (w.alloc (.cells (Array.replicate n (Value.int .i64 0)) 3)).heap[w.heap.size]? = some (.cells (List.replicate n (Value.int .i64 0)).toArray 3 (0, 0)) := by
    rw [show (List.replicate n (Value.int .i64 0)).toArray = Array.replicate n (Value.int .i64 0) by simp]
    exact heap_alloc_new w _
  obtain ⟨ad, rfl, hsrc⟩ := hsrc
  have hrun := run_copy_row (P := Try.prog) (w.alloc (.cells (Array.replicate n (Value.int .i64 0)) 3)) 34 34 3 3 w.heap.size 0 n n ad n c1 (List.replicate n (Value.int .i64 0)).toArray 3 X Try.underlying34 info3s hblk (by rw [hXl]; simp) (fun j v hv => cell_al (hsrc j v hv) _) (by simp [hXl]) hX1
  obtain ⟨w2, hw2⟩ : ∃ w2, w2 = (w.alloc (.cells (Array.replicate n (Value.int .i64 0)) 3)).setRow w.heap.size ((List.replicate n (Value.int .i64 0)).toArray.toList.take 0 ++ X ++ (List.replicate n (Value.int .i64 0)).toArray.toList.drop (0 + X.length)).toArray := ⟨_, rfl⟩
  have hb2 : Below w.heap.size w w2 := by rw [hw2]; exact below_setRow ((Below.refl w.heap.size w).alloc (Nat.le_refl _) _) (Nat.le_refl _) _
  have hg2 : Blk w2 w.heap.size 3 X := by
    have e : (List.replicate n (Value.int .i64 0)).toArray.toList.take 0 ++ X ++ (List.replicate n (Value.int .i64 0)).toArray.toList.drop (0 + X.length) = X := by simp [hXl]
    rw [hw2, e]
    exact setRow_heap _ w.heap.size _ _ 3 _ hblk
  rw [← hw2] at hrun
  have hc2 := (hb2.cell (p := ⟨b0, o0, none⟩) hb0).trans hc0
  have H2 := Lib.hid (And.intro hb2 hg2)
  clear hw2 hb2 hg2 hblk hsrc hX1
  go_wp2_with fail
  clear hrun hmk hc0 hc2
  obtain ⟨g, hg⟩ : ∃ g, g = w.heap.size := ⟨_, rfl⟩
  have hb3 : Blk w2 g 3 X := by rw [hg]; exact H2.out.2
  rw [← hg]
  have HG := Lib.hid hg
  rw [HX.out] at hb3
  have HB2 := Lib.hid (And.intro H2.out.1 hb3)
  clear hg hb3 H2
  go_loopw [24] (fun i wr => ∃ (k : Nat) (q : List Int), k ≤ u ∧ i = .int .i64 k ∧ Below w.heap.size w wr ∧ Blk wr g 3 (numsV .i64 q) ∧ q.length = n ∧ (∀ i, -1 ≤ q.getD i 0 ∧ q.getD i 0 ≤ 1000) ∧ FineC n rows part q k) (fun i _ => u - (intOf i).toNat)
  case atStart => exact ⟨0, part, by omega, rfl, HB2.out.1, HB2.out.2, HP.out, HS.out, FineC.start _ _ _⟩
  case round =>
    obtain ⟨k, q, hk, rfl, hbr, hbk, hql, hqs, hfc⟩ := hrel
    have HF := Lib.hid (And.intro hfc (And.intro hqs (And.intro hbr hbk)))
    have HQL := Lib.hid hql
    clear hfc hqs hbk HB2 hql
    by_cases hlt : k < u
    · have hmm := @run_makeMap Try.prog
      go_wp2_with fail
      clear hmm
      obtain ⟨gm, hgm⟩ : ∃ gm, gm = wr.heap.size := ⟨_, rfl⟩
      have hrf : RfL w (wr.alloc (.map #[] 0)) g gm 0 q part rows k 0 (.map []) := by
        refine ⟨HF.out.2.2.1.alloc HF.out.2.2.1.size _, by rw [HG.out]; exact Nat.le_refl _, ?_, ⟨?_, idx_empty _, rfl⟩, by rw [hgm]; exact HF.out.2.2.1.size⟩
        · have : mixN q part rows k 0 = q := by unfold mixN colN; simp
          rw [this]; exact HF.out.2.2.2.alloc _
        · rw [hgm]; exact World.ownsMap_made _ _ _ _
      rw [← hgm]
      have HR0 := Lib.hid hrf
      clear hgm hrf
      go_loopw [30] (fun i wx => ∃ (t m : Nat) (D : DataW Unit), t ≤ n ∧ i = .int .i64 t ∧ m ≤ t ∧ RfL w wx g gm m q part rows k t D) (fun i _ => n - (intOf i).toNat)
      case atStart => exact ⟨0, 0, _, by omega, rfl, Nat.le_refl _, HR0.out⟩
      case round =>
        obtain ⟨t, m, D, ht, rfl, hmt, hrf⟩ := hrel
        have HR := Lib.hid hrf
        clear hrf HR0
        by_cases htl : t < n
        · have hx := HR.out.blk.cell t
          rw [nums_get (by rw [mixN_len (by rw [HQL.out]; exact ht), HQL.out]; exact htl), mixN_get (by rw [HQL.out]; exact htl)] at hx
          have hfz := HR.out.blk.frozen t
          have hps := HF.out.2.1 t
          obtain ⟨p, hp⟩ : ∃ p, p = q.getD t 0 := ⟨_, rfl⟩
          rw [← hp] at hx hps
          have HPP := Lib.hid hp
          clear hp
          by_cases h0 : p < 0
          · have d1 : decide (p < 0) = true := by simpa using h0
            have HH := Lib.hid h0
            clear h0
            go_wp2_with fail
            go_roundw
            case rel => exact ⟨t + 1, m, D, by omega, by go_num, by omega, HR.out.skip (by rw [HQL.out]; exact htl) (by rw [← HPP.out]; exact HH.out)⟩
            case measure => simp [intOf]; omega
          · have d1 : decide (p < 0) = false := by simpa using h0
            have H9 := Lib.hid h0
            clear h0
            obtain ⟨b, o, e9, hbb, hcr⟩ := H0.out.arr.one htl
            injection e9 with e9
            injection e9 with e1 e2
            subst e1; subst e2
            obtain ⟨b1, o1, hra, hbb1, hcj⟩ := (H0.out.row t htl).one (k := k) (by rw [HU.out t htl]; exact hlt)
            unfold RowC at hcr
            rw [HU.out t htl, hra] at hcr
            unfold NumC at hcj
            have hjj := HJ.out t k htl hlt
            have htp : toP part rows t k = if 0 ≤ (rows.getD t []).getD k 0 then part.getD ((rows.getD t []).getD k 0).toNat 0 else -1 := rfl
            obtain ⟨j, hj⟩ : ∃ j, j = (rows.getD t []).getD k 0 := ⟨_, rfl⟩
            rw [← hj] at hcj hjj htp
            have HTP := Lib.hid htp
            obtain ⟨wk, hwk⟩ : ∃ wk, wk = wr.alloc (.cells #[.int .i64 p, .int .i64 (-1)] 71) := ⟨_, rfl⟩
            have hrk := HR.out.alloc (.cells #[.int .i64 p, .int .i64 (-1)] 71)
            have hbk := Blk.new wr 71 [.int .i64 p, .int .i64 (-1)]
            obtain ⟨gk, hgk⟩ : ∃ gk, gk = wr.heap.size := ⟨_, rfl⟩
            have hkb : w.heap.size ≤ gk := by rw [hgk]; exact HR.out.bel.size
            rw [← hgk] at hbk
            rw [show ([Value.int .i64 p, .int .i64 (-1)] : List Value).toArray = #[.int .i64 p, .int .i64 (-1)] from rfl, ← hwk] at hbk
            rw [← hwk] at hrk
            have hcr2 := (hrk.bel.cell (p := ⟨b0, o0 + t, none⟩) hbb).trans hcr
            have hcj2 := (hrk.bel.cell (p := ⟨b1, o1 + k, none⟩) hbb1).trans hcj
            have HK := Lib.hid (And.intro hrk (And.intro hbk hkb))
            clear hj htp hcr hcj hrk hra
            go_upto_region 12 with (fail)
            rw [← hgk, ← hwk]
            clear hwk hbk hkb hx hfz hgk
            go_upto_if 47 with (fail)
            obtain ⟨tv, hto⟩ : ∃ tv, tv = toP part rows t k := ⟨_, rfl⟩
            have HTO := Lib.hid hto
            have hts : -1 ≤ tv ∧ tv ≤ 1000 := by
              rw [hto, HTP.out]
              split
              · exact HS.out _
              · omega
            clear hto
            go_cut [] from 47 to 53 (fun wx => RfL w wx g gm m q part rows k t D ∧ Blk wx gk 71 [.int .i64 p, .int .i64 tv])
            case first =>
              by_cases hj0 : 0 ≤ j
              · have d2 : decide (0 ≤ j) = true := by simpa using hj0
                obtain ⟨b2, o2, e9, hbb2, hcp⟩ := H1.out.one (k := j.toNat) (by omega)
                injection e9 with e9
                subst e9
                unfold NumC at hcp
                have e9 : tv = part.getD j.toNat 0 := by rw [HTO.out, HTP.out, if_pos hj0]
                rw [← e9] at hcp
                clear e9
                have hcp2 := (HK.out.1.bel.cell (p := ⟨b2, o2 + j.toNat, none⟩) hbb2).trans hcp
                have hk1 := HK.out.2.1.cell 1
                have hf1 := HK.out.2.1.frozen 1
                simp only [List.getElem?_cons_zero, List.getElem?_cons_succ] at hk1
                have hl9 := hjj.2
                go_wp2_with fail
                go_meet
                exact ⟨HK.out.1.setK HK.out.2.1 (by decide) HK.out.2.2 1 _, HK.out.2.1.set 1 _⟩
              · have d2 : decide (0 ≤ j) = false := by simpa using hj0
                have e9 : tv = -1 := by rw [HTO.out, HTP.out, if_neg hj0]
                go_wp2_with fail
                go_meet
                exact ⟨HK.out.1, by rw [e9]; exact HK.out.2.1⟩
            case rest =>
              have hrc := Lib.hid hcut
              have k0 := hcut.2.cell 0
              have k1 := hcut.2.cell 1
              simp only [List.getElem?_cons_zero, List.getElem?_cons_succ] at k0 k1
              clear hcut hcr2 hcj2
              obtain ⟨is, his⟩ : ∃ is, is = decide ((p, tv) ∈ colK q part rows k t) := ⟨_, rfl⟩
              obtain ⟨iv, hiv⟩ : ∃ iv, iv = placeI (colK q part rows k t) (p, tv) := ⟨_, rfl⟩
              have hky : keyP q part rows k t = (p, tv) := by unfold keyP; rw [← HPP.out, ← HTO.out]
              have HKY := Lib.hid hky
              have hI1 : I64 p := i64_sm (by omega) (by omega)
              have hI2 : I64 tv := i64_sm (by omega) (by omega)
              clear hky
              cases is with
              | true =>
                have hmem : (p, tv) ∈ colK q part rows k t := of_decide_eq_true his.symm
                have HME := Lib.hid (And.intro hmem (And.intro his hiv))
                clear hmem his hiv
                have hfz := hrc.out.1.blk.frozen t
                have hce := hrc.out.1.blk.cell t
                rw [nums_get (by rw [mixN_len (by rw [HQL.out]; exact ht), HQL.out]; exact htl)] at hce
                go_wp2_with (first | (at_lookup; refine wpList_lookup_pair _ rfl _ _ rfl gm m D _ rfl hrc.out.1.nm p tv hI1 hI2 rfl iv true HME.out.2.2.symm HME.out.2.1.symm ?_))
                go_roundw
                case rel => exact ⟨t + 1, m, D, by omega, by go_num, by omega, by
                  refine RfL.put hrc.out.1.bel hrc.out.1.hg hrc.out.1.blk hrc.out.1.hm (by rw [HQL.out]; exact htl) ?_ (by rw [colK_old (by rw [HKY.out]; exact HME.out.1)]; exact hrc.out.1.nm)
                  rw [if_neg (by rw [← HPP.out]; exact H9.out), HKY.out, HME.out.2.2]
                  unfold placeI
                  rw [if_pos HME.out.1]⟩
                case measure => simp [intOf]; omega
              | false =>
                have hmem : (p, tv) ∉ colK q part rows k t := of_decide_eq_false his.symm
                have HME := Lib.hid (And.intro hmem (And.intro his hiv))
                clear hmem his hiv
                have hsz := hrc.out.1.nm.size
                have hkl := colK_len (now := q) (part := part) (rows := rows) (c := k) t
                obtain ⟨sz, hszd⟩ : ∃ sz, sz = (colK q part rows k t).length := ⟨_, rfl⟩
                rw [← hszd] at hsz hkl
                have HSZ := Lib.hid hszd
                clear hszd
                go_wp2_with (first | (at_lookup; refine wpList_lookup_pair _ rfl _ _ rfl gm m D _ rfl hrc.out.1.nm p tv hI1 hI2 rfl iv false HME.out.2.2.symm HME.out.2.1.symm ?_) | (at_len; refine wpList_len_own _ rfl _ 69 rfl 71 3 Try.underlying69 _ gm m D rfl hrc.out.1.nm.own ?_) | (at_mapUpdate; refine wpList_mapUpdate_own _ rfl _ _ _ 69 rfl 71 3 keyed71 Try.underlying69 (plainElem (H := Unit) Try.prog 3) gm m D rfl hrc.out.1.nm.own (by unfold maxLen; omega) _ _ _ rfl rfl (keyOf71 p tv hI1 hI2) _ [] (plainElem_int Try.underlying3 (i64_sm (a := (sz : Int)) (by omega) (by omega))) ?_; intro w1 hown1 hgrow1; have hbk1 := (But.of_grown hgrow1).blk hrc.out.1.blk (fun e => hrc.out.1.ne (by injection e)); have hfz1 := hbk1.frozen t; have hce1 := hbk1.cell t; rw [nums_get (by rw [mixN_len (by rw [HQL.out]; exact ht), HQL.out]; exact htl)] at hce1))
                have HB := Lib.hid (And.intro hown1 (And.intro hgrow1 hbk1))
                clear hown1 hgrow1 hbk1
                go_roundw
                case rel => exact ⟨t + 1, m + 1, _, by omega, by go_num, by omega, by
                  refine RfL.put (hrc.out.1.bel.grown HB.out.2.1 hrc.out.1.bel.size (fun j hj => by cases hj; exact hrc.out.1.hm)) hrc.out.1.hg HB.out.2.2 hrc.out.1.hm (by rw [HQL.out]; exact htl) ?_ ⟨HB.out.1, ?_, ?_⟩
                  · rw [if_neg (by rw [← HPP.out]; exact H9.out), HKY.out, plc_len HME.out.1, HSZ.out]
                  · rw [colK_new (by rw [← HPP.out]; have := H9.out; omega) (by rw [HKY.out]; exact HME.out.1), HKY.out, HSZ.out]
                    exact idx_snoc hrc.out.1.nm.idx (p, tv) ⟨hI1, hI2⟩ HME.out.1
                  · rw [colK_new (by rw [← HPP.out]; have := H9.out; omega) (by rw [HKY.out]; exact HME.out.1), HKY.out]
                    exact size_snoc hrc.out.1.nm.idx (hrc.out.1.nm.own.tidy keyed71) hrc.out.1.nm.size (p, tv) ⟨hI1, hI2⟩ HME.out.1 _⟩
                case measure => simp [intOf]; omega
        · obtain rfl : t = n := by omega
          go_wp2_with fail
          go_roundw
          case rel => exact ⟨k + 1, colN q part rows k t, by omega, by go_num, HR.out.bel, by
            have := HR.out.blk
            rw [show mixN q part rows k t = colN q part rows k t by unfold mixN; rw [List.drop_of_length_le (by rw [HQL.out]; exact Nat.le_refl _), List.append_nil]] at this
            exact this, by rw [colN_len], fun i => by
              have := colN_sm (now := q) (part := part) (rows := rows) (c := k) (fun i => (HF.out.2.1 i).1) hn4 t (Nat.le_refl _) i
              omega, HF.out.1.next⟩
          case measure => simp [intOf]; omega
    · obtain rfl : k = u := by omega
      go_wp2_with fail
      go_returns
      refine ⟨_, q, rfl, ⟨by simp [numsV, HQL.out], .inr ⟨g, n, (numsV .i64 q).toArray, rfl, by rw [HG.out]; exact Nat.le_refl _, HF.out.2.2.2, Nat.le_refl _, by simp [maxLen]; omega, by simp [numsV, HQL.out], by rw [List.toList_toArray, List.take_of_length_le (by simp [numsV, HQL.out])]⟩⟩, HQL.out, HF.out.1, HF.out.2.1, hbr⟩
end Go.Proofs.Ytiaigdedkdeeoaa
