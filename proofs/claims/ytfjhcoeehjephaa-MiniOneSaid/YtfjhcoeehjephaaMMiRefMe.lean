/- MMiRef, MMiParts, MMiRows of this seat, in one text. -/
import Derived.Test.YtfjhcoeehjephaaMMiKeyMe
import Derived.Laws.CopyOwn
import Derived.Deep.CutRange
import Derived.Deep.CutBlock
/- mini.refined. -/
namespace Go.Proofs.Ytfjhcoeehjephaa.M9
open Go.RowKit Go.Maps Go.WideMaps

theorem info3 : (Try.prog.info? 3).map (fun i => (i.zero, i.size, i.bytes)) = some (some (.int .i64 0), 1, 8) := by kernel_rfl
theorem info3s : (Try.prog.info? 3).map (·.size) = some 1 := by kernel_rfl
theorem nums_get {q : IntKind} {l : List Int} {k : Nat} (h : k < l.length) : (numsV q l)[k]? = some (.int q (l.getD k 0)) := by simp [numsV, h]
theorem nums_set (q : IntKind) (l : List Int) (k : Nat) (x : Int) : (numsV q l).set k (.int q x) = numsV q (l.set k x) := by simp [numsV, List.map_set]
/-- the column's numbers as far as they are new -/
def mixN (q part : List Int) (rows : List (List Int)) (c i : Nat) : List Int := colN q part rows c i ++ q.drop i
theorem mixN_len {q part : List Int} {rows : List (List Int)} {c i : Nat} (h : i ≤ q.length) : (mixN q part rows c i).length = q.length := by
  unfold mixN; rw [List.length_append, colN_len, List.length_drop]; omega
theorem mixN_get {q part : List Int} {rows : List (List Int)} {c i : Nat} (_h : i < q.length) : (mixN q part rows c i).getD i 0 = q.getD i 0 := by
  unfold mixN
  rw [List.getD_eq_getElem?_getD, List.getElem?_append_right (by rw [colN_len]; exact Nat.le_refl _), colN_len]
  simp
theorem mixN_set {q part : List Int} {rows : List (List Int)} {c i : Nat} (h : i < q.length) {x : Int} (hx : x = if q.getD i 0 < 0 then q.getD i 0 else (plc (colK q part rows c i) (keyP q part rows c i) : Nat)) : (mixN q part rows c i).set i x = mixN q part rows c (i + 1) := by
  unfold mixN
  rw [List.set_append_right _ _ (by rw [colN_len]; exact Nat.le_refl _), colN_len, Nat.sub_self, List.drop_eq_getElem_cons h, List.set_cons_zero, hx]
  show _ = (colN q part rows c i ++ [_]) ++ _
  rw [List.append_assoc]; rfl
theorem mixN_keep {q part : List Int} {rows : List (List Int)} {c i : Nat} (h : i < q.length) (h0 : q.getD i 0 < 0) : mixN q part rows c i = mixN q part rows c (i + 1) := by
  rw [← mixN_set h (x := q.getD i 0) (by rw [if_pos h0])]
  symm
  apply List.ext_getElem?
  intro j
  rw [List.getElem?_set]
  split
  · rename_i e
    subst e
    have hl := mixN_len (q := q) (part := part) (rows := rows) (c := c) (i := i) (by omega)
    rw [if_pos (by rw [hl]; exact h), List.getElem?_eq_getElem (by rw [hl]; exact h)]
    have := mixN_get (part := part) (rows := rows) (c := c) h
    rw [← this, List.getD_eq_getElem?_getD, List.getElem?_eq_getElem (by rw [hl]; exact h)]
    rfl
  · rfl
theorem colK_neg {q part : List Int} {rows : List (List Int)} {c i : Nat} (h0 : q.getD i 0 < 0) : colK q part rows c (i + 1) = colK q part rows c i := by rw [colK_succ, if_pos (.inl h0)]
theorem colK_old {q part : List Int} {rows : List (List Int)} {c i : Nat} (h0 : keyP q part rows c i ∈ colK q part rows c i) : colK q part rows c (i + 1) = colK q part rows c i := by rw [colK_succ, if_pos (.inr h0)]
theorem colK_new {q part : List Int} {rows : List (List Int)} {c i : Nat} (h0 : 0 ≤ q.getD i 0) (h : keyP q part rows c i ∉ colK q part rows c i) : colK q part rows c (i + 1) = colK q part rows c i ++ [keyP q part rows c i] := by
  rw [colK_succ, if_neg]
  rintro (h9 | h9)
  · omega
  · exact h h9
/-- the map of names -/
structure NmD (W : World) (gm m : Nat) (D : DataW Unit) (all : List (Int × Int)) : Prop where
  own : W.ownsMap Try.prog 135 (plainElem Try.prog 3) gm m D
  idx : IdxD pairK D all
  size : Maps.size D = all.length
theorem wpList_lookup_pair (w : World) {ops : Array Oper} {rest : List Oper} {o : Oper} {a : Act} {Q : Exit → Act → World → Prop}
    (hgd : o.guard = none) (m x : Operand) (hop : o.op = Op.lookup 133 m x true) (g n : Nat) (D : DataW Unit) (all : List (Int × Int)) (hm : a.eval m = .map (some g))
    (hown : NmD w g n D all) (p q : Int) (hp : I64 p) (hq : I64 q) (hx : a.eval x = .agg #[.int .i64 p, .int .i64 q])
    (iv : Int) (ok : Bool) (hiv : placeI all (p, q) = iv) (hok : decide ((p, q) ∈ all) = ok)
    (h : wpList Try.prog ops Q rest (a.put o.dst (.tuple #[.int .i64 iv, .bool ok])) w) :
    wpList Try.prog ops Q (o :: rest) a w := by
  refine wpList_plain hgd fun K' hK' => ?_
  have hrun : (Instr.lookup 133 (.map (some g)) (.agg #[.int .i64 p, .int .i64 q]) true).run Try.prog w = .ok (.tuple #[.int .i64 iv, .bool ok]) w := by
    rw [idx_lookup keyed71 Try.underlying133 hown.own hown.idx (p, q) ⟨hp, hq⟩ (keyOf71 p q hp hq), hiv, ← hok]; congr
  unfold Oper.wp
  simp [execOp, hop, hm, hx, hrun, Result.andThen]
  exact hK' _ _ h
theorem NmD.but {S : Nat → Prop} {w w1 : World} {gm m : Nat} {D : DataW Unit} {all : List (Int × Int)} (h : NmD w gm m D all) (hb : But S w w1) (hn : ¬ S gm) : NmD w1 gm m D all := ⟨hb.maps h.own hn, h.idx, h.size⟩
theorem but_alloc (S : Nat → Prop) (w : World) (o : Obj) : But S w (w.alloc o) :=
  ⟨rfl, rfl, rfl, by simp, fun k hk _ => Below.heap_alloc w o k hk⟩
theorem but_setCell (w : World) (g k : Nat) (v : Value) : But (fun j => j = g) w (w.setCell ⟨g, k, none⟩ v) := (But.of_grown (grownBy_setCell w g k v)).mono (fun _ _ e => (by injection e with e; exact e.symm))
/-- what one column's loop keeps -/
structure RfL (w W : World) (g gm m : Nat) (q part : List Int) (rows : List (List Int)) (c i : Nat) (D : DataW Unit) : Prop where
  bel : Below w.heap.size w W
  hg : w.heap.size ≤ g
  blk : Blk W g 3 (numsV .i64 (mixN q part rows c i))
  nm : NmD W gm m D (colK q part rows c i)
  hm : w.heap.size ≤ gm
section
variable {w W W' : World} {g gm m : Nat} {q part : List Int} {rows : List (List Int)} {c i : Nat} {D : DataW Unit}
theorem RfL.ne (h : RfL w W g gm m q part rows c i D) : gm ≠ g := map_blk_ne h.nm.own h.blk
theorem RfL.alloc (h : RfL w W g gm m q part rows c i D) (o : Obj) : RfL w (W.alloc o) g gm m q part rows c i D :=
  ⟨h.bel.alloc h.bel.size o, h.hg, h.blk.alloc o, h.nm.but (but_alloc (fun _ => False) W o) (fun e => e), h.hm⟩
theorem RfL.setK (h : RfL w W g gm m q part rows c i D) {gk : Nat} {t : TypeId} {cur : List Value} (hk : Blk W gk t cur) (ht : t ≠ 3) (hb : w.heap.size ≤ gk) (j : Nat) (v : Value) : RfL w (W.setCell ⟨gk, j, none⟩ v) g gm m q part rows c i D :=
  have hb1 := but_setCell W gk j v
  ⟨h.bel.trans (hb1.below h.bel.size (fun k e => by rw [e]; exact hb)), h.hg, hb1.blk h.blk (fun e => blk_ne h.blk hk (Ne.symm ht) e), h.nm.but hb1 (fun e => map_blk_ne h.nm.own hk e), h.hm⟩
theorem RfL.put (hb : Below w.heap.size w W) (hg : w.heap.size ≤ g) (hblk : Blk W g 3 (numsV .i64 (mixN q part rows c i))) (hm : w.heap.size ≤ gm) (hi : i < q.length) {x : Int} (hx : x = if q.getD i 0 < 0 then q.getD i 0 else (plc (colK q part rows c i) (keyP q part rows c i) : Nat))
    {m' : Nat} {D' : DataW Unit} (hn : NmD W gm m' D' (colK q part rows c (i + 1))) : RfL w (W.setCell ⟨g, i, none⟩ (.int .i64 x)) g gm m' q part rows c (i + 1) D' :=
  have hb1 := but_setCell W g i (.int .i64 x)
  ⟨hb.trans (hb1.below hb.size (fun k e => by rw [e]; exact hg)), hg, by rw [← mixN_set hi hx, ← nums_set]; exact hblk.set i _, hn.but hb1 (fun e => map_blk_ne hn.own hblk e), hm⟩
theorem RfL.skip (h : RfL w W g gm m q part rows c i D) (hi : i < q.length) (h0 : q.getD i 0 < 0) : RfL w W g gm m q part rows c (i + 1) D :=
  ⟨h.bel, h.hg, by rw [← mixN_keep hi h0]; exact h.blk, by rw [colK_neg h0]; exact h.nm, h.hm⟩
end
set_option maxRecDepth 100000 in
set_option maxHeartbeats 8000000 in
theorem refined_any (A0 : Option Addr) (n c0 : Nat) (rows : List (List Int)) (RA : Nat → Option Addr) (rc : Nat → Nat) (A1 : Option Addr) (c1 : Nat) (part : List Int) (u : Nat) (w : World)
    (h0 : RowsIn w A0 n rows RA rc) (h1 : Arr w w.heap.size 1 A1 n (NumC .i64 part)) (hp : part.length = n) (hn1 : 1 ≤ n) (hn4 : n ≤ 400) (hu : ∀ i, i < n → (rows.getD i []).length = u) (hu2 : u ≤ 256)
    (hj : ∀ i c, i < n → c < u → -1 ≤ (rows.getD i []).getD c 0 ∧ (rows.getD i []).getD c 0 < n) (hs : ∀ i, -1 ≤ part.getD i 0 ∧ part.getD i 0 ≤ 1000) :
    Calls Try.prog 77 #[.slice A0 n c0, .slice A1 n c1] w fun e w' => ∃ v q, e = .returned v ∧ w'.ownsRow w.heap.size 3 1 v n (numsV .i64 q) ∧ q.length = n ∧ FineC n rows part q u ∧ (∀ i, -1 ≤ q.getD i 0 ∧ q.getD i 0 ≤ 1000) ∧ Below w.heap.size w w' := by
  have hmk := make_one 36 3 (.int .i64 0) 8 Try.underlying36 info3 rfl n (by omega) (by omega)
  have H0 := Lib.hid h0
  have H1 := Lib.hid h1
  have HJ := Lib.hid hj
  have HS := Lib.hid hs
  have HU := Lib.hid hu
  have HP := Lib.hid hp
  clear h0 h1 hj hs hu hp
  obtain ⟨X, hX⟩ : ∃ X, X = numsV .i64 part := ⟨_, rfl⟩
  have hXl : X.length = n := by rw [hX]; simp [numsV, HP.out]
  have hX1 : ∀ v ∈ X, v.oneCell' = true := by rw [hX]; intro v hv; simp only [numsV, List.mem_map] at hv; obtain ⟨_, _, rfl⟩ := hv; rfl
  have HX := Lib.hid hX
  have hsrc : ∃ ad, A1 = some ad ∧ ∀ j v, X[j]? = some v → w.cell? (ad.add j) = some v := by
    obtain ⟨b, o, rfl, _, hc⟩ := H1.out (by omega)
    refine ⟨_, rfl, fun j v hv => ?_⟩
    have hj : j < n := by rw [← hXl]; exact (List.getElem?_eq_some_iff.1 hv).1
    rw [add_plain']
    have := hc j 0 hj (by omega)
    rw [show o + (j * 1 + 0) = o + j by omega] at this
    rw [this]
    rw [hX, nums_get (by rw [HP.out]; exact hj)] at hv
    exact hv
  clear hX
  obtain ⟨b0, o0, hA0, hb0, hc0⟩ := H0.out.arr.one (k := 0) (by omega)
  have hw0 := HU.out 0 (by omega)
  unfold RowC at hc0
  rw [hw0, Nat.add_zero] at hc0
  subst hA0
  go_enter Try.func77, Try.ntmps77
  have hblk : (w.alloc (.cells (Array.replicate n (Value.int .i64 0)) 3)).heap[w.heap.size]? = some (.cells (List.replicate n (Value.int .i64 0)).toArray 3 (0, 0)) := by
    rw [show (List.replicate n (Value.int .i64 0)).toArray = Array.replicate n (Value.int .i64 0) by simp]
    exact heap_alloc_new w _
  obtain ⟨ad, rfl, hsrc⟩ := hsrc
  have hrun := run_copy_row (P := Try.prog) (w.alloc (.cells (Array.replicate n (Value.int .i64 0)) 3)) 36 36 3 3 w.heap.size 0 n n ad n c1 (List.replicate n (Value.int .i64 0)).toArray 3 X Try.underlying36 info3s hblk (by rw [hXl]; simp) (fun j v hv => cell_al (hsrc j v hv) _) (by simp [hXl]) hX1
  obtain ⟨w2, hw2⟩ : ∃ w2, w2 = (w.alloc (.cells (Array.replicate n (Value.int .i64 0)) 3)).setRow w.heap.size ((List.replicate n (Value.int .i64 0)).toArray.toList.take 0 ++ X ++ (List.replicate n (Value.int .i64 0)).toArray.toList.drop (0 + X.length)).toArray := ⟨_, rfl⟩
  have hb2 : Below w.heap.size w w2 := by rw [hw2]; exact below_setRow ((Below.refl w.heap.size w).alloc (Nat.le_refl _) _) (Nat.le_refl _) _
  have hg2 : Blk w2 w.heap.size 3 X := by
    have e : (List.replicate n (Value.int .i64 0)).toArray.toList.take 0 ++ X ++ (List.replicate n (Value.int .i64 0)).toArray.toList.drop (0 + X.length) = X := by simp [hXl]
    rw [hw2, e]
    exact setRow_heap _ w.heap.size _ _ 3 _ hblk
  rw [← hw2] at hrun
  have hc2 := (hb2.cell (p := ⟨b0, o0, none⟩) hb0).trans hc0
  have H2 := Lib.hid (And.intro hb2 hg2)
  clear hw2 hb2 hg2 hblk hsrc hX1
  go_wp2_with fail
  clear hrun hmk hc0 hc2
  obtain ⟨g, hg⟩ : ∃ g, g = w.heap.size := ⟨_, rfl⟩
  have hb3 : Blk w2 g 3 X := by rw [hg]; exact H2.out.2
  rw [← hg]
  have HG := Lib.hid hg
  rw [HX.out] at hb3
  have HB2 := Lib.hid (And.intro H2.out.1 hb3)
  clear hg hb3 H2
  go_loopw [24] (fun i wr => ∃ (k : Nat) (q : List Int), k ≤ u ∧ i = .int .i64 k ∧ Below w.heap.size w wr ∧ Blk wr g 3 (numsV .i64 q) ∧ q.length = n ∧ (∀ i, -1 ≤ q.getD i 0 ∧ q.getD i 0 ≤ 1000) ∧ FineC n rows part q k) (fun i _ => u - (intOf i).toNat)
  case atStart => exact ⟨0, part, by omega, rfl, HB2.out.1, HB2.out.2, HP.out, HS.out, FineC.start _ _ _⟩
  case round =>
    obtain ⟨k, q, hk, rfl, hbr, hbk, hql, hqs, hfc⟩ := hrel
    have HF := Lib.hid (And.intro hfc (And.intro hqs (And.intro hbr hbk)))
    have HQL := Lib.hid hql
    clear hfc hqs hbk HB2 hql
    by_cases hlt : k < u
    · have hmm := @run_makeMap Try.prog
      go_wp2_with fail
      clear hmm
      obtain ⟨gm, hgm⟩ : ∃ gm, gm = wr.heap.size := ⟨_, rfl⟩
      have hrf : RfL w (wr.alloc (.map #[] 0)) g gm 0 q part rows k 0 (.map []) := by
        refine ⟨HF.out.2.2.1.alloc HF.out.2.2.1.size _, by rw [HG.out]; exact Nat.le_refl _, ?_, ⟨?_, idx_empty _, rfl⟩, by rw [hgm]; exact HF.out.2.2.1.size⟩
        · have : mixN q part rows k 0 = q := by unfold mixN colN; simp
          rw [this]; exact HF.out.2.2.2.alloc _
        · rw [hgm]; exact World.ownsMap_made _ _ _ _
      rw [← hgm]
      have HR0 := Lib.hid hrf
      clear hgm hrf
      go_loopw [30] (fun i wx => ∃ (t m : Nat) (D : DataW Unit), t ≤ n ∧ i = .int .i64 t ∧ m ≤ t ∧ RfL w wx g gm m q part rows k t D) (fun i _ => n - (intOf i).toNat)
      case atStart => exact ⟨0, 0, _, by omega, rfl, Nat.le_refl _, HR0.out⟩
      case round =>
        obtain ⟨t, m, D, ht, rfl, hmt, hrf⟩ := hrel
        have HR := Lib.hid hrf
        clear hrf HR0
        by_cases htl : t < n
        · have hx := HR.out.blk.cell t
          rw [nums_get (by rw [mixN_len (by rw [HQL.out]; exact ht), HQL.out]; exact htl), mixN_get (by rw [HQL.out]; exact htl)] at hx
          have hfz := HR.out.blk.frozen t
          have hps := HF.out.2.1 t
          obtain ⟨p, hp⟩ : ∃ p, p = q.getD t 0 := ⟨_, rfl⟩
          rw [← hp] at hx hps
          have HPP := Lib.hid hp
          clear hp
          by_cases h0 : p < 0
          · have d1 : decide (p < 0) = true := by simpa using h0
            have HH := Lib.hid h0
            clear h0
            go_wp2_with fail
            go_roundw
            case rel => exact ⟨t + 1, m, D, by omega, by go_num, by omega, HR.out.skip (by rw [HQL.out]; exact htl) (by rw [← HPP.out]; exact HH.out)⟩
            case measure => simp [intOf]; omega
          · have d1 : decide (p < 0) = false := by simpa using h0
            have H9 := Lib.hid h0
            clear h0
            obtain ⟨b, o, e9, hbb, hcr⟩ := H0.out.arr.one htl
            injection e9 with e9
            injection e9 with e1 e2
            subst e1; subst e2
            obtain ⟨b1, o1, hra, hbb1, hcj⟩ := (H0.out.row t htl).one (k := k) (by rw [HU.out t htl]; exact hlt)
            unfold RowC at hcr
            rw [HU.out t htl, hra] at hcr
            unfold NumC at hcj
            have hjj := HJ.out t k htl hlt
            have htp : toP part rows t k = if 0 ≤ (rows.getD t []).getD k 0 then part.getD ((rows.getD t []).getD k 0).toNat 0 else -1 := rfl
            obtain ⟨j, hj⟩ : ∃ j, j = (rows.getD t []).getD k 0 := ⟨_, rfl⟩
            rw [← hj] at hcj hjj htp
            have HTP := Lib.hid htp
            obtain ⟨wk, hwk⟩ : ∃ wk, wk = wr.alloc (.cells #[.int .i64 p, .int .i64 (-1)] 135) := ⟨_, rfl⟩
            have hrk := HR.out.alloc (.cells #[.int .i64 p, .int .i64 (-1)] 135)
            have hbk := Blk.new wr 135 [.int .i64 p, .int .i64 (-1)]
            obtain ⟨gk, hgk⟩ : ∃ gk, gk = wr.heap.size := ⟨_, rfl⟩
            have hkb : w.heap.size ≤ gk := by rw [hgk]; exact HR.out.bel.size
            rw [← hgk] at hbk
            rw [show ([Value.int .i64 p, .int .i64 (-1)] : List Value).toArray = #[.int .i64 p, .int .i64 (-1)] from rfl, ← hwk] at hbk
            rw [← hwk] at hrk
            have hcr2 := (hrk.bel.cell (p := ⟨b0, o0 + t, none⟩) hbb).trans hcr
            have hcj2 := (hrk.bel.cell (p := ⟨b1, o1 + k, none⟩) hbb1).trans hcj
            have HK := Lib.hid (And.intro hrk (And.intro hbk hkb))
            clear hj htp hcr hcj hrk hra
            go_upto_region 12 with (fail)
            rw [← hgk, ← hwk]
            clear hwk hbk hkb hx hfz hgk
            go_upto_if 47 with (fail)
            obtain ⟨tv, hto⟩ : ∃ tv, tv = toP part rows t k := ⟨_, rfl⟩
            have HTO := Lib.hid hto
            have hts : -1 ≤ tv ∧ tv ≤ 1000 := by
              rw [hto, HTP.out]
              split
              · exact HS.out _
              · omega
            clear hto
            go_cut [] from 47 to 53 (fun wx => RfL w wx g gm m q part rows k t D ∧ Blk wx gk 135 [.int .i64 p, .int .i64 tv])
            case first =>
              by_cases hj0 : 0 ≤ j
              · have d2 : decide (0 ≤ j) = true := by simpa using hj0
                obtain ⟨b2, o2, e9, hbb2, hcp⟩ := H1.out.one (k := j.toNat) (by omega)
                injection e9 with e9
                subst e9
                unfold NumC at hcp
                have e9 : tv = part.getD j.toNat 0 := by rw [HTO.out, HTP.out, if_pos hj0]
                rw [← e9] at hcp
                clear e9
                have hcp2 := (HK.out.1.bel.cell (p := ⟨b2, o2 + j.toNat, none⟩) hbb2).trans hcp
                have hk1 := HK.out.2.1.cell 1
                have hf1 := HK.out.2.1.frozen 1
                simp only [List.getElem?_cons_zero, List.getElem?_cons_succ] at hk1
                have hl9 := hjj.2
                go_wp2_with fail
                go_meet
                exact ⟨HK.out.1.setK HK.out.2.1 (by decide) HK.out.2.2 1 _, HK.out.2.1.set 1 _⟩
              · have d2 : decide (0 ≤ j) = false := by simpa using hj0
                have e9 : tv = -1 := by rw [HTO.out, HTP.out, if_neg hj0]
                go_wp2_with fail
                go_meet
                exact ⟨HK.out.1, by rw [e9]; exact HK.out.2.1⟩
            case rest =>
              have hrc := Lib.hid hcut
              have k0 := hcut.2.cell 0
              have k1 := hcut.2.cell 1
              simp only [List.getElem?_cons_zero, List.getElem?_cons_succ] at k0 k1
              clear hcut hcr2 hcj2
              obtain ⟨is, his⟩ : ∃ is, is = decide ((p, tv) ∈ colK q part rows k t) := ⟨_, rfl⟩
              obtain ⟨iv, hiv⟩ : ∃ iv, iv = placeI (colK q part rows k t) (p, tv) := ⟨_, rfl⟩
              have hky : keyP q part rows k t = (p, tv) := by unfold keyP; rw [← HPP.out, ← HTO.out]
              have HKY := Lib.hid hky
              have hI1 : I64 p := i64_sm (by omega) (by omega)
              have hI2 : I64 tv := i64_sm (by omega) (by omega)
              clear hky
              cases is with
              | true =>
                have hmem : (p, tv) ∈ colK q part rows k t := of_decide_eq_true his.symm
                have HME := Lib.hid (And.intro hmem (And.intro his hiv))
                clear hmem his hiv
                have hfz := hrc.out.1.blk.frozen t
                have hce := hrc.out.1.blk.cell t
                rw [nums_get (by rw [mixN_len (by rw [HQL.out]; exact ht), HQL.out]; exact htl)] at hce
                go_wp2_with (first | (at_lookup; refine wpList_lookup_pair _ rfl _ _ rfl gm m D _ rfl hrc.out.1.nm p tv hI1 hI2 rfl iv true HME.out.2.2.symm HME.out.2.1.symm ?_))
                go_roundw
                case rel => exact ⟨t + 1, m, D, by omega, by go_num, by omega, by
                  refine RfL.put hrc.out.1.bel hrc.out.1.hg hrc.out.1.blk hrc.out.1.hm (by rw [HQL.out]; exact htl) ?_ (by rw [colK_old (by rw [HKY.out]; exact HME.out.1)]; exact hrc.out.1.nm)
                  rw [if_neg (by rw [← HPP.out]; exact H9.out), HKY.out, HME.out.2.2]
                  unfold placeI
                  rw [if_pos HME.out.1]⟩
                case measure => simp [intOf]; omega
              | false =>
                have hmem : (p, tv) ∉ colK q part rows k t := of_decide_eq_false his.symm
                have HME := Lib.hid (And.intro hmem (And.intro his hiv))
                clear hmem his hiv
                have hsz := hrc.out.1.nm.size
                have hkl := colK_len (now := q) (part := part) (rows := rows) (c := k) t
                obtain ⟨sz, hszd⟩ : ∃ sz, sz = (colK q part rows k t).length := ⟨_, rfl⟩
                rw [← hszd] at hsz hkl
                have HSZ := Lib.hid hszd
                clear hszd
                go_wp2_with (first | (at_lookup; refine wpList_lookup_pair _ rfl _ _ rfl gm m D _ rfl hrc.out.1.nm p tv hI1 hI2 rfl iv false HME.out.2.2.symm HME.out.2.1.symm ?_) | (at_len; refine wpList_len_own _ rfl _ 133 rfl 135 3 Try.underlying133 _ gm m D rfl hrc.out.1.nm.own ?_) | (at_mapUpdate; refine wpList_mapUpdate_own _ rfl _ _ _ 133 rfl 135 3 keyed71 Try.underlying133 (plainElem (H := Unit) Try.prog 3) gm m D rfl hrc.out.1.nm.own (by unfold maxLen; omega) _ _ _ rfl rfl (keyOf71 p tv hI1 hI2) _ [] (plainElem_int Try.underlying3 (i64_sm (a := (sz : Int)) (by omega) (by omega))) ?_; intro w1 hown1 hgrow1; have hbk1 := (But.of_grown hgrow1).blk hrc.out.1.blk (fun e => hrc.out.1.ne (by injection e)); have hfz1 := hbk1.frozen t; have hce1 := hbk1.cell t; rw [nums_get (by rw [mixN_len (by rw [HQL.out]; exact ht), HQL.out]; exact htl)] at hce1))
                have HB := Lib.hid (And.intro hown1 (And.intro hgrow1 hbk1))
                clear hown1 hgrow1 hbk1
                go_roundw
                case rel => exact ⟨t + 1, m + 1, _, by omega, by go_num, by omega, by
                  refine RfL.put (hrc.out.1.bel.grown HB.out.2.1 hrc.out.1.bel.size (fun j hj => by cases hj; exact hrc.out.1.hm)) hrc.out.1.hg HB.out.2.2 hrc.out.1.hm (by rw [HQL.out]; exact htl) ?_ ⟨HB.out.1, ?_, ?_⟩
                  · rw [if_neg (by rw [← HPP.out]; exact H9.out), HKY.out, plc_len HME.out.1, HSZ.out]
                  · rw [colK_new (by rw [← HPP.out]; have := H9.out; omega) (by rw [HKY.out]; exact HME.out.1), HKY.out, HSZ.out]
                    exact idx_snoc hrc.out.1.nm.idx (p, tv) ⟨hI1, hI2⟩ HME.out.1
                  · rw [colK_new (by rw [← HPP.out]; have := H9.out; omega) (by rw [HKY.out]; exact HME.out.1), HKY.out]
                    exact size_snoc hrc.out.1.nm.idx (hrc.out.1.nm.own.tidy keyed71) hrc.out.1.nm.size (p, tv) ⟨hI1, hI2⟩ HME.out.1 _⟩
                case measure => simp [intOf]; omega
        · obtain rfl : t = n := by omega
          go_wp2_with fail
          go_roundw
          case rel => exact ⟨k + 1, colN q part rows k t, by omega, by go_num, HR.out.bel, by
            have := HR.out.blk
            rw [show mixN q part rows k t = colN q part rows k t by unfold mixN; rw [List.drop_of_length_le (by rw [HQL.out]; exact Nat.le_refl _), List.append_nil]] at this
            exact this, by rw [colN_len], fun i => by
              have := colN_sm (now := q) (part := part) (rows := rows) (c := k) (fun i => (HF.out.2.1 i).1) hn4 t (Nat.le_refl _) i
              omega, HF.out.1.next⟩
          case measure => simp [intOf]; omega
    · obtain rfl : k = u := by omega
      go_wp2_with fail
      go_returns
      refine ⟨_, q, rfl, ⟨by simp [numsV, HQL.out], .inr ⟨g, n, (numsV .i64 q).toArray, rfl, by rw [HG.out]; exact Nat.le_refl _, HF.out.2.2.2, Nat.le_refl _, by simp [maxLen]; omega, by simp [numsV, HQL.out], by rw [List.toList_toArray, List.take_of_length_le (by simp [numsV, HQL.out])]⟩⟩, HQL.out, HF.out.1, HF.out.2.1, hbr⟩
end Go.Proofs.Ytfjhcoeehjephaa.M9
/- mini.parts. -/
namespace Go.Proofs.Ytfjhcoeehjephaa.M9
open Go.RowKit Go.Maps Go.WideMaps

theorem distL_le (l : List Int) : (distL l).length ≤ l.length := nodup_subI l (distL l) (distL_nodup l) (fun _ hx => (distL_mem.1 hx).1)
theorem range_get (l : List Int) {n : Nat} (h : l.length = n) : (List.range n).map (fun i => l.getD i 0) = l := by
  apply List.ext_getElem (by simp [h])
  intro i h1 h2
  simp [h2]
open Classical in
/-- finer parts are as many or more -/
theorem more_parts {n : Nat} {P Q : Nat → Int} (hd : ∀ i, i < n → (0 ≤ P i ↔ 0 ≤ Q i)) (hf : ∀ i j, i < n → j < n → 0 ≤ P i → Q i = Q j → P i = P j) : (distL ((List.range n).map P)).length ≤ (distL ((List.range n).map Q)).length := by
  let f : Int → Int := fun q => if h : ∃ k, k < n ∧ 0 ≤ P k ∧ Q k = q then P (Classical.choose h) else 0
  have hfq : ∀ k, k < n → 0 ≤ P k → f (Q k) = P k := fun k hk h => by
    have hh : ∃ k', k' < n ∧ 0 ≤ P k' ∧ Q k' = Q k := ⟨k, hk, h, rfl⟩
    show (if h : ∃ k', k' < n ∧ 0 ≤ P k' ∧ Q k' = Q k then P (Classical.choose h) else 0) = P k
    rw [dif_pos hh]
    have hs := Classical.choose_spec hh
    exact hf _ _ hs.1 hk hs.2.1 hs.2.2
  have h1 := nodup_subI ((distL ((List.range n).map Q)).map f) (distL ((List.range n).map P)) (distL_nodup _) (fun x hx => by
    rw [distL_mem] at hx
    obtain ⟨k, hk, rfl⟩ := List.mem_map.1 hx.1
    have hk := List.mem_range.1 hk
    refine List.mem_map.2 ⟨Q k, ?_, hfq k hk hx.2⟩
    rw [distL_mem]
    exact ⟨List.mem_map.2 ⟨k, List.mem_range.2 hk, rfl⟩, (hd k hk).1 hx.2⟩)
  rwa [List.length_map] at h1
def nP (q : List Int) : Nat → Int := fun i => q.getD i 0
/-- the first parts: dead ones, those that accept, the others -/
def part0 (lv acc : List Bool) (i : Nat) : Int := if lv.getD i false = true then (if acc.getD i false = true then 1 else 0) else -1
theorem part0_ok {A : Aut} {lv acc : List Bool} (hl : ∀ i, i < A.n → (lv.getD i false = true ↔ Live A i)) (ha : ∀ i, i < A.n → A.acc i = acc.getD i false) {q : List Int} (hq : ∀ i, i < A.n → q.getD i 0 = part0 lv acc i) : PartOk A (nP q) := by
  refine ⟨fun i hi hd => ?_, fun i hi hv => ?_, fun i j hi hj he => ?_, fun i j hi hj hv he => ?_⟩
  · show q.getD i 0 = -1
    rw [hq i hi]; unfold part0
    rw [if_neg (fun h9 => hd ((hl i hi).1 h9))]
  · show 0 ≤ q.getD i 0
    rw [hq i hi]; unfold part0
    rw [if_pos ((hl i hi).2 hv)]
    split <;> omega
  · show q.getD i 0 = q.getD j 0
    have h1 := he.acc
    rw [ha i hi, ha j hj] at h1
    rw [hq i hi, hq j hj]; unfold part0
    by_cases hv : Live A i
    · rw [if_pos ((hl i hi).2 hv), if_pos ((hl j hj).2 (he.live.1 hv)), h1]
    · rw [if_neg (fun h9 => hv ((hl i hi).1 h9)), if_neg (fun h9 => hv (he.live.2 ((hl j hj).1 h9)))]
  · have he : q.getD i 0 = q.getD j 0 := he
    rw [hq i hi, hq j hj] at he
    rw [ha i hi, ha j hj]
    unfold part0 at he
    rw [if_pos ((hl i hi).2 hv)] at he
    by_cases hj9 : lv.getD j false = true
    · rw [if_pos hj9] at he
      cases hi2 : acc.getD i false <;> cases hj2 : acc.getD j false <;> rw [hi2, hj2] at he <;> first | rfl | (simp at he)
    · rw [if_neg hj9] at he
      split at he <;> omega
/-- what parts tell in the end -/
structure Parted (A : Aut) (q : List Int) : Prop where
  ok : PartOk A (nP q)
  iff : ∀ i j, i < A.n → j < A.n → Live A i → (q.getD i 0 = q.getD j 0 ↔ LE A A i j)
theorem parted_of {A : Aut} (hok : A.Ok) {p q : List Int} (hp : p.length = A.n) (hq : q.length = A.n) (h : PartOk A (nP p)) (hf : Fine A (nP p) (nP q)) (hc : (distL q).length ≤ (distL p).length) : Parted A q := by
  have hd : ∀ i, i < A.n → (0 ≤ nP p i ↔ 0 ≤ nP q i) := fun i hi => ⟨hf.live i hi, fun h9 => by
    apply Classical.byContradiction
    intro h8
    have := hf.dead i hi (by omega)
    omega⟩
  have hff : ∀ i j, i < A.n → j < A.n → 0 ≤ nP p i → nP q i = nP q j → nP p i = nP p j := fun i j hi hj h0 he => by
    have h1 : 0 ≤ nP p j := (hd j hj).2 (by rw [← he]; exact (hd i hi).1 h0)
    exact ((hf.iff i j hi hj h0 h1).1 he).1
  have hc' : (distL ((List.range A.n).map (nP q))).length ≤ (distL ((List.range A.n).map (nP p))).length := by
    rw [show (List.range A.n).map (nP q) = q from range_get q hq, show (List.range A.n).map (nP p) = p from range_get p hp]; exact hc
  have hs : ∀ i j, i < A.n → j < A.n → 0 ≤ nP p i → nP p i = nP p j → nP q i = nP q j := fun i j hi hj h0 he => same_parts hd hff hc' hi hj h0 he
  refine ⟨h.fine hok hf, fun i j hi hj hl => ?_⟩
  rw [← h.done hok hf hs hi hj hl]
  exact ⟨fun he => hff i j hi hj (h.live i hi hl) he, fun he => hs i j hi hj (h.live i hi hl) he⟩
theorem parts_more {A : Aut} {p q : List Int} (hp : p.length = A.n) (hq : q.length = A.n) (hf : Fine A (nP p) (nP q)) : (distL p).length ≤ (distL q).length := by
  have hd : ∀ i, i < A.n → (0 ≤ nP p i ↔ 0 ≤ nP q i) := fun i hi => ⟨hf.live i hi, fun h9 => by
    apply Classical.byContradiction
    intro h8
    have := hf.dead i hi (by omega)
    omega⟩
  have := more_parts hd (fun i j hi hj h0 he => by
    have h1 : 0 ≤ nP p j := (hd j hj).2 (by rw [← he]; exact (hd i hi).1 h0)
    exact ((hf.iff i j hi hj h0 h1).1 he).1)
  rwa [show (List.range A.n).map (nP q) = q from range_get q hq, show (List.range A.n).map (nP p) = p from range_get p hp] at this
theorem own_less {w : World} {base base' size n : Nat} {e : TypeId} {v : Value} {xs : List Value} (h : w.ownsRow base e size v n xs) (hb : base' ≤ base) : w.ownsRow base' e size v n xs := by
  refine ⟨h.1, ?_⟩
  rcases h.2 with h2 | ⟨g, cap, cur, hv, hg, r⟩
  · exact .inl h2
  · exact .inr ⟨g, cap, cur, hv, by omega, r⟩
theorem own_kept {w w' : World} {base size n : Nat} {e : TypeId} {v : Value} {xs : List Value} (h : w.ownsRow base e size v n xs) (hb : Below w.heap.size w w') : w'.ownsRow base e size v n xs := own_move h (fun b _ h9 ho _ => (hb.block b (h.lt b h9).2).trans ho)
theorem sm_of {q : List Int} (h : ∀ i, -1 ≤ q.getD i 0 ∧ q.getD i 0 ≤ 1000) : Sm q := fun k => by have := h k; omega
set_option maxRecDepth 100000 in
set_option maxHeartbeats 8000000 in
theorem parts_any (A : Aut) (hok : A.Ok) (A0 : Option Addr) (n c0 : Nat) (rows : List (List Int)) (RA : Nat → Option Addr) (rc : Nat → Nat) (A1 : Option Addr) (c1 : Nat) (acc : List Bool) (A2 : Option Addr) (c2 : Nat) (lv : List Bool) (u : Nat) (w : World)
    (hAn : A.n = n) (h0 : RowsIn w A0 n rows RA rc) (h1 : Arr w w.heap.size 1 A1 n (BoolC acc)) (h2 : Arr w w.heap.size 1 A2 n (BoolC lv)) (hn4 : n ≤ 400) (hu2 : u ≤ 256) (hg : Going A rows u)
    (hl : ∀ i, i < A.n → (lv.getD i false = true ↔ Live A i)) (ha : ∀ i, i < A.n → A.acc i = acc.getD i false) :
    Calls Try.prog 55 #[.slice A0 n c0, .slice A1 n c1, .slice A2 n c2] w fun e w' => ∃ v q, e = .returned v ∧ w'.ownsRow w.heap.size 3 1 v n (numsV .i64 q) ∧ q.length = n ∧ (∀ i, -1 ≤ q.getD i 0 ∧ q.getD i 0 ≤ 1000) ∧ Parted A q ∧ Below w.heap.size w w' := by
  have hmk := make_one 36 3 (.int .i64 0) 8 Try.underlying36 info3 rfl n (by omega) (by omega)
  have hn1 : 1 ≤ n := by have := hok.pos; omega
  have HC := Lib.hid (And.intro hok (And.intro hAn (And.intro hg (And.intro hl ha))))
  have H0 := Lib.hid h0
  have H1 := Lib.hid h1
  have H2 := Lib.hid h2
  clear h0 h1 h2 hok hAn hg hl ha
  go_enter Try.func55, Try.ntmps55
  go_wp2_with fail
  clear hmk
  obtain ⟨g, hg⟩ : ∃ g, g = w.heap.size := ⟨_, rfl⟩
  have hb3 : Blk (w.alloc (.cells (Array.replicate n (Value.int .i64 0)) 3)) g 3 (numsV .i64 (List.replicate n 0)) := by
    rw [hg, show numsV .i64 (List.replicate n 0) = List.replicate n (Value.int .i64 0) by simp [numsV]]
    have := Blk.new w 3 (List.replicate n (Value.int .i64 0))
    simpa using this
  rw [← hg]
  have HG := Lib.hid hg
  have HB := Lib.hid hb3
  clear hg hb3
  go_loopw [16] (fun i wr => ∃ (k : Nat) (q : List Int), k ≤ n ∧ i = .int .i64 k ∧ Below w.heap.size w wr ∧ Blk wr g 3 (numsV .i64 q) ∧ q.length = n ∧ (∀ i, i < k → q.getD i 0 = part0 lv acc i) ∧ ∀ i, k ≤ i → q.getD i 0 = 0) (fun i _ => n - (intOf i).toNat)
  case atStart => exact ⟨0, _, by omega, rfl, (Below.refl _ _).alloc (Nat.le_refl _) _, HB.out, by simp, fun i hi => by omega, fun i _ => by rw [List.getD_eq_getElem?_getD, List.getElem?_replicate]; split <;> rfl⟩
  case round =>
    obtain ⟨k, q, hk, rfl, hbr, hbk, hql, hq1, hq2⟩ := hrel
    have HF := Lib.hid (And.intro hbr (And.intro hbk (And.intro hq1 hq2)))
    have HQL := Lib.hid hql
    clear hbr hbk hq1 hq2 hql HB
    by_cases hlt : k < n
    · obtain ⟨b1, o1, rfl, hbb1, hcell1⟩ := H1.out.one hlt
      obtain ⟨b2, o2, rfl, hbb2, hcell2⟩ := H2.out.one hlt
      unfold BoolC at hcell1 hcell2
      have hcell1 := (HF.out.1.cell (p := ⟨b1, o1 + k, none⟩) hbb1).trans hcell1
      have hcell2 := (HF.out.1.cell (p := ⟨b2, o2 + k, none⟩) hbb2).trans hcell2
      have hfz := HF.out.2.1.frozen k
      have hce := HF.out.2.1.cell k
      rw [nums_get (by rw [HQL.out]; exact hlt)] at hce
      have hnx : ∀ x, x = part0 lv acc k → Below w.heap.size w (wr.setCell ⟨g, k, none⟩ (.int .i64 x)) ∧ Blk (wr.setCell ⟨g, k, none⟩ (.int .i64 x)) g 3 (numsV .i64 (q.set k x)) ∧ (q.set k x).length = n ∧ (∀ i, i < k + 1 → (q.set k x).getD i 0 = part0 lv acc i) ∧ ∀ i, k + 1 ≤ i → (q.set k x).getD i 0 = 0 := fun x hx => by
        refine ⟨HF.out.1.setCell (p := ⟨g, k, none⟩) (by rw [HG.out]; exact Nat.le_refl _) _, by rw [← nums_set]; exact HF.out.2.1.set k _, by simp [HQL.out], fun i hi => ?_, fun i hi => ?_⟩
        · rw [List.getD_eq_getElem?_getD, List.getElem?_set]
          by_cases e : k = i
          · subst e; rw [if_pos rfl, if_pos (by rw [HQL.out]; exact hlt)]; exact hx
          · rw [if_neg e, ← List.getD_eq_getElem?_getD]; exact HF.out.2.2.1 i (by omega)
        · rw [List.getD_eq_getElem?_getD, List.getElem?_set, if_neg (by omega), ← List.getD_eq_getElem?_getD]; exact HF.out.2.2.2 i (by omega)
      have hnz : part0 lv acc k = 0 → (∀ i, i < k + 1 → q.getD i 0 = part0 lv acc i) ∧ ∀ i, k + 1 ≤ i → q.getD i 0 = 0 := fun hz => ⟨fun i hi => by
        by_cases e : i = k
        · subst e; rw [hz]; exact HF.out.2.2.2 i (Nat.le_refl _)
        · exact HF.out.2.2.1 i (by omega), fun i hi => HF.out.2.2.2 i (by omega)⟩
      have HN := Lib.hid (And.intro hnx hnz)
      have hp0 : part0 lv acc k = if lv.getD k false = true then (if acc.getD k false = true then 1 else 0) else -1 := rfl
      clear hnx hnz
      obtain ⟨bl, hbl⟩ : ∃ bl, bl = lv.getD k false := ⟨_, rfl⟩
      obtain ⟨ba, hba⟩ : ∃ ba, ba = acc.getD k false := ⟨_, rfl⟩
      rw [← hbl, ← hba] at hp0
      rw [← hbl] at hcell2
      rw [← hba] at hcell1
      clear hbl hba
      cases bl with
      | false =>
        have HP := Lib.hid hp0
        clear hp0
        go_wp2_with fail
        go_roundw
        case rel => exact ⟨k + 1, q.set k (-1), by omega, by go_num, (HN.out.1 (-1) (by rw [HP.out]; rfl))⟩
        case measure => simp [intOf]; omega
      | true =>
        cases ba with
        | true =>
          have HP := Lib.hid hp0
          clear hp0
          go_wp2_with fail
          go_roundw
          case rel => exact ⟨k + 1, q.set k 1, by omega, by go_num, (HN.out.1 1 (by rw [HP.out]; rfl))⟩
          case measure => simp [intOf]; omega
        | false =>
          have HP := Lib.hid hp0
          clear hp0
          go_wp2_with fail
          go_roundw
          case rel => exact ⟨k + 1, q, by omega, by go_num, HF.out.1, HF.out.2.1, HQL.out, HN.out.2 (by rw [HP.out]; rfl)⟩
          case measure => simp [intOf]; omega
    · obtain rfl : n = k := by omega
      have hpo : PartOk A (nP q) := part0_ok HC.out.2.2.2.1 HC.out.2.2.2.2 (fun i hi => HF.out.2.2.1 i (by rw [← HC.out.2.1]; exact hi))
      have hqs : ∀ i, -1 ≤ q.getD i 0 ∧ q.getD i 0 ≤ 1000 := fun i => by
        by_cases e : i < n
        · rw [HF.out.2.2.1 i e]
          unfold part0
          split
          · split <;> omega
          · omega
        · rw [HF.out.2.2.2 i (by omega)]; omega
      have hown : wr.ownsRow w.heap.size 3 1 (.slice (some ⟨g, 0, none⟩) n n) n (numsV .i64 q) := ⟨by simp [numsV, HQL.out], .inr ⟨g, n, (numsV .i64 q).toArray, rfl, by rw [HG.out]; exact Nat.le_refl _, HF.out.2.1, Nat.le_refl _, by simp [maxLen]; omega, by simp [numsV, HQL.out], by rw [List.toList_toArray, List.take_of_length_le (by simp [numsV, HQL.out])]⟩⟩
      have hcl := count_any (some ⟨g, 0, none⟩) n n q wr HQL.out (by omega) (sm_of hqs) (own_ints hown)
      have HK := Lib.hid (And.intro hpo (And.intro hqs (And.intro hown hcl)))
      clear hpo hqs hown hcl
      go_wp2_with fail
      refine HK.out.2.2.2.mono ?_
      rintro e w1 ⟨rfl, hb1⟩
      have hown1 := own_kept HK.out.2.2.1 hb1
      have hbel1 := HF.out.1.trans (hb1.mono HF.out.1.size)
      have HL := Lib.hid (And.intro hown1 hbel1)
      clear hown1 hb1 hbel1
      go_wp2_with fail
      go_loopw [7, 9] (fun a b wr => ∃ (A' : Option Addr) (c' : Nat) (p : List Int), a = .slice A' n c' ∧ b = .int .i64 ((distL p).length : Nat) ∧ p.length = n ∧ PartOk A (nP p) ∧ (∀ i, -1 ≤ p.getD i 0 ∧ p.getD i 0 ≤ 1000) ∧ wr.ownsRow w.heap.size 3 1 (.slice A' n c') n (numsV .i64 p) ∧ Below w.heap.size w wr) (fun _ b _ => n - (intOf b).toNat)
      case atStart => exact ⟨_, _, q, rfl, rfl, HQL.out, HK.out.1, HK.out.2.1, HL.out.1, HL.out.2⟩
      case round =>
        obtain ⟨A', c', p, rfl, rfl, hpl, hpo, hps, hown, hbel⟩ := hrel
        have HP := Lib.hid (And.intro hpo (And.intro hps (And.intro hown (And.intro hbel hpl))))
        have hrf := refined_any A0 n c0 rows RA rc A' c' p u wr (H0.out.keep (hbel.mono (Nat.le_refl _))) (own_ints hown) hpl hn1 hn4 (fun i hi => HC.out.2.2.1.wid i (by rw [HC.out.2.1]; exact hi)) hu2 (fun i c hi hc => by
          obtain ⟨b, hb, hall⟩ := HC.out.2.2.1.bwd c hc
          rw [hall i (by rw [HC.out.2.1]; exact hi)]
          have h1 := HC.out.1.lo i b (by rw [HC.out.2.1]; exact hi) hb
          have h2 := HC.out.1.hi i b (by rw [HC.out.2.1]; exact hi) hb
          rw [HC.out.2.1] at h2
          exact ⟨h1, h2⟩) hps
        have HR := Lib.hid hrf
        clear hrf HL HK hpo hps hown hbel hpl
        obtain ⟨z, hz⟩ : ∃ z : Nat, z = (distL p).length := ⟨_, rfl⟩
        rw [← hz]
        have HZ := Lib.hid hz
        clear hz
        go_wp2_with fail
        refine HR.out.mono ?_
        rintro e w1 ⟨v, r, rfl, hown1, hrl, hfc, hrs, hb1⟩
        obtain ⟨A2', c2', rfl⟩ := own_sl hown1
        have hcl := count_any A2' n c2' r w1 hrl (by omega) (sm_of hrs) (own_ints hown1)
        have hbel1 := HP.out.2.2.2.1.trans (hb1.mono HP.out.2.2.2.1.size)
        have HQ := Lib.hid (And.intro (own_less hown1 HP.out.2.2.2.1.size) (And.intro hrl (And.intro hfc (And.intro hrs (And.intro hbel1 hcl)))))
        clear hown1 hrl hfc hrs hbel1 hcl hb1 HR
        go_wp2_with fail
        refine HQ.out.2.2.2.2.2.mono ?_
        rintro e w2 ⟨rfl, hb2⟩
        obtain ⟨y, hy⟩ : ∃ y : Nat, y = (distL r).length := ⟨_, rfl⟩
        rw [← hy]
        have HY := Lib.hid hy
        clear hy
        have hown2 := own_kept HQ.out.1 hb2
        have hbel2 := HQ.out.2.2.2.2.1.trans (hb2.mono HQ.out.2.2.2.2.1.size)
        have hfi : Fine A (nP p) (nP r) := FineC.fine (by rw [HC.out.2.1]; exact HQ.out.2.2.1) HC.out.2.2.1
        have hmo := parts_more (by rw [HC.out.2.1]; exact HP.out.2.2.2.2) (by rw [HC.out.2.1]; exact HQ.out.2.1) hfi
        have hle := distL_le r
        rw [HQ.out.2.1] at hle
        rw [← HZ.out, ← HY.out] at hmo
        rw [← HY.out] at hle
        have HW := Lib.hid (And.intro hown2 (And.intro hbel2 hfi))
        clear hown2 hbel2 hfi hb2
        by_cases he : y = z
        · have d1 : ((y : Int) == (z : Int)) = true := by simp [he]
          have HE := Lib.hid he
          clear he
          go_wp2_with fail
          go_returns
          exact ⟨_, r, rfl, HW.out.1, HQ.out.2.1, HQ.out.2.2.2.1, parted_of HC.out.1 (by rw [HC.out.2.1]; exact HP.out.2.2.2.2) (by rw [HC.out.2.1]; exact HQ.out.2.1) HP.out.1 HW.out.2.2 (by rw [← HY.out, ← HZ.out, HE.out]; exact Nat.le_refl _), HW.out.2.1⟩
        · have d1 : ((y : Int) == (z : Int)) = false := by simp; omega
          have HE := Lib.hid he
          clear he
          go_wp2_with fail
          go_roundw
          case rel => exact ⟨A2', c2', r, rfl, by rw [HY.out], HQ.out.2.1, HP.out.1.fine HC.out.1 HW.out.2.2, HQ.out.2.2.2.1, HW.out.1, HW.out.2.1⟩
          case measure => have := HE.out; simp [intOf]; omega
end Go.Proofs.Ytfjhcoeehjephaa.M9
/- Rows of the call's own in a block of slices: one of them grows. -/
namespace Go.Proofs.Ytfjhcoeehjephaa.M9
open Go.RowKit Go.Maps Go.WideMaps

/-- n slices in block gb; slice j is a row of the call's own, that holds ls[j]; no two share a block -/
structure RowsW (W : World) (base gb n : Nat) (V : Nat → Value) (ls : List (List Int)) : Prop where
  blk : Blk W gb 36 ((List.range n).map V)
  len : ls.length = n
  own : ∀ j, j < n → W.ownsRow base 3 1 (V j) (ls.getD j []).length (numsV .i64 (ls.getD j []))
  ne : ∀ i j, i < n → j < n → i ≠ j → ∀ k, (V i).ownBlock = some k → (V j).ownBlock ≠ some k
def updV (V : Nat → Value) (j : Nat) (v : Value) : Nat → Value := fun i => if i = j then v else V i
theorem range_set (V : Nat → Value) (n j : Nat) (v : Value) : ((List.range n).map V).set j v = (List.range n).map (updV V j v) := by
  apply List.ext_getElem?
  intro i
  rw [List.getElem?_set]
  by_cases e : j = i
  · subst e
    rw [if_pos rfl, List.getElem?_map]
    by_cases h : j < n
    · rw [if_pos (by simpa using h), List.getElem?_range h]; simp [updV]
    · rw [if_neg (by simpa using h), List.getElem?_eq_none (by simp; omega)]; rfl
  · rw [if_neg e, List.getElem?_map, List.getElem?_map]
    by_cases h : i < n
    · rw [List.getElem?_range h]; simp [updV, Ne.symm e]
    · rw [List.getElem?_eq_none (by simp; omega)]; rfl
section
variable {W W' : World} {base gb n : Nat} {V : Nat → Value} {ls : List (List Int)} {S : Nat → Prop}
theorem RowsW.nb (h : RowsW W base gb n V ls) {j : Nat} (hj : j < n) : (V j).ownBlock ≠ some gb := blk_own_ne h.blk (h.own j hj) (by decide)
theorem RowsW.but (h : RowsW W base gb n V ls) (hb : But S W W') (h1 : ¬ S gb) (h2 : ∀ j, j < n → ∀ k, (V j).ownBlock = some k → ¬ S k) : RowsW W' base gb n V ls :=
  ⟨hb.blk h.blk h1, h.len, fun j hj => hb.own (h.own j hj) (h2 j hj), h.ne⟩
theorem RowsW.go (h : RowsW W base gb n V ls) (hb : Below W.heap.size W W') : RowsW W' base gb n V ls :=
  h.but (But.of_below hb) (by have := h.blk.lt; omega) (fun j hj k hk => by have := ((h.own j hj).lt k hk).2; omega)
theorem RowsW.cell (h : RowsW W base gb n V ls) {j : Nat} (hj : j < n) : W.cell? ⟨gb, j, none⟩ = some (V j) := by
  rw [h.blk.cell, List.getElem?_map, List.getElem?_range hj]; rfl
theorem getD_set1 {l : List (List Int)} {i j : Nat} (x : List Int) (hj : j < l.length) : (l.set j x).getD i [] = if i = j then x else l.getD i [] := by
  by_cases e : i = j
  · subst e; simp [hj]
  · rw [if_neg e, List.getD_eq_getElem?_getD, List.getElem?_set, if_neg (Ne.symm e), ← List.getD_eq_getElem?_getD]
/-- a row has grown and is stored again -/
theorem RowsW.app (h : RowsW W base gb n V ls) {j : Nat} (hj : j < n) {g : Nat} {v : Value} {l : List Int} (hown : W'.ownsRow base 3 1 v l.length (numsV .i64 l)) (hv : v.ownBlock = some g) (hg : W.grownBy W' (V j).ownBlock) (hat : (V j).ownBlock = some g ∨ W.heap.size ≤ g) :
    RowsW (W'.setCell ⟨gb, j, none⟩ v) base gb n (updV V j v) (ls.set j l) := by
  have hb := But.of_grown hg
  have hblk' : Blk W' gb 36 ((List.range n).map V) := hb.blk h.blk (fun e => h.nb hj e)
  have hs := but_setCell W' gb j v
  have hgb : g ≠ gb := fun e => blk_own_ne hblk' hown (by decide) (by rw [hv, e])
  refine ⟨by rw [← range_set]; exact hblk'.set j v, by simp [h.len], fun i hi => ?_, fun i i' hi hi' hne k hk => ?_⟩
  · rw [getD_set1 _ (by rw [h.len]; exact hj)]
    unfold updV
    by_cases e : i = j
    · rw [if_pos e, if_pos e]
      exact hs.own hown (fun k hk e9 => hgb (by rw [hv] at hk; injection hk with hk; rw [hk, e9]))
    · rw [if_neg e, if_neg e]
      refine hs.own (hb.own (h.own i hi) (fun k hk => h.ne i j hi hj e k hk)) (fun k hk e9 => h.nb hi (by rw [hk, e9]))
  · unfold updV at hk ⊢
    by_cases e : i = j
    · rw [if_pos e] at hk
      rw [if_neg (fun e9 => hne (by rw [e, e9]))]
      have hkg : k = g := by rw [hv] at hk; injection hk with hk; exact hk.symm
      subst hkg
      rcases hat with h9 | h9
      · exact h.ne j i' hj hi' (fun e9 => hne (by rw [e, e9])) _ h9
      · intro h8
        have := ((h.own i' hi').lt _ h8).2
        omega
    · rw [if_neg e] at hk
      by_cases e2 : i' = j
      · rw [if_pos e2]
        intro h8
        have hkg : k = g := by rw [hv] at h8; injection h8 with h8; exact h8.symm
        subst hkg
        rcases hat with h9 | h9
        · exact h.ne i j hi hj e _ hk h9
        · have := ((h.own i hi).lt _ hk).2
          omega
      · rw [if_neg e2]
        exact h.ne i i' hi hi' hne k hk
end
theorem info34 : (Try.prog.info? 36).map (fun i => (i.zero, i.size, i.bytes)) = some (some (.slice none 0 0), 1, 24) := by kernel_rfl
theorem info4 : (Try.prog.info? 4).map (fun i => (i.zero, i.size, i.bytes)) = some (some (.bool false), 1, 1) := by kernel_rfl
theorem RowsW.start (W : World) (base n : Nat) : RowsW (W.alloc (.cells (Array.replicate n (.slice none 0 0)) 36)) base W.heap.size n (fun _ => .slice none 0 0) (List.replicate n []) := by
  have e : (List.range n).map (fun _ => Value.slice none 0 0) = List.replicate n (Value.slice none 0 0) := by
    apply List.ext_getElem (by simp)
    intro i h1 h2; simp
  refine ⟨?_, by simp, fun j hj => ?_, fun i j _ _ _ k hk => by cases hk⟩
  · rw [e]
    have := Blk.new W 36 (List.replicate n (Value.slice none 0 0))
    simpa using this
  · rw [show (List.replicate n ([] : List Int)).getD j [] = [] by simp [hj]]
    exact World.ownsRow_nil _ _ _ _
/-- where rows grow, a slice that the prover knows may be read -/
theorem RowsW.arr {W : World} {base gb n : Nat} {V : Nat → Value} {ls : List (List Int)} (h : RowsW W base gb n V ls) {j : Nat} (hj : j < n) {A : Option Addr} {m c : Nat} (hv : V j = .slice A m c) : m = (ls.getD j []).length ∧ Arr W W.heap.size 1 A m (NumC .i64 (ls.getD j [])) := by
  have ho := h.own j hj
  obtain ⟨A', c', e⟩ := own_sl ho
  rw [hv] at e
  injection e with e1 e2 e3
  rw [hv, ← e2] at ho
  exact ⟨e2, own_ints ho⟩
end Go.Proofs.Ytfjhcoeehjephaa.M9
