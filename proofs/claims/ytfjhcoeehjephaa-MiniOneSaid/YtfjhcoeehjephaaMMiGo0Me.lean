/- MMiGo0, MMiGo, MMiLive0, MMiLive, MMiBox, MMiNar0, MMiNar1 of this seat, in one text. -/
import Derived.Test.YtfjhcoeehjephaaMMiRefMe
import Derived.Test.YtfjhcoeehjephaaDfaMe
import Derived.Deep.AppendLies
import Derived.Laws.Tables
import Derived.Laws.ResultCell
/- Rows cut down to the classes that some byte has: plain. -/
namespace Go.Proofs.Ytfjhcoeehjephaa.M9
def cntU (us : List Bool) : Nat → Nat
  | 0 => 0
  | k + 1 => if us.getD k false = true then cntU us k + 1 else cntU us k
def pick (us : List Bool) (r : List Int) : Nat → List Int
  | 0 => []
  | k + 1 => if us.getD k false = true then pick us r k ++ [r.getD k 0] else pick us r k
theorem cntU_succ (us : List Bool) (k : Nat) : cntU us (k + 1) = if us.getD k false = true then cntU us k + 1 else cntU us k := rfl
theorem pick_succ (us : List Bool) (r : List Int) (k : Nat) : pick us r (k + 1) = if us.getD k false = true then pick us r k ++ [r.getD k 0] else pick us r k := rfl
section
variable {us : List Bool} {r : List Int}
theorem pick_len : ∀ k, (pick us r k).length = cntU us k
  | 0 => rfl
  | k + 1 => by
    have := pick_len k
    rw [cntU_succ, pick_succ]
    split
    · rw [List.length_append, this]; rfl
    · exact this
theorem cntU_mono : ∀ {a b : Nat}, a ≤ b → cntU us a ≤ cntU us b := fun {a b} h => by
  induction h with
  | refl => exact Nat.le_refl _
  | @step b h ih =>
    rw [cntU_succ]
    split <;> omega
theorem cntU_le : ∀ k, cntU us k ≤ k
  | 0 => Nat.le_refl _
  | k + 1 => by
    have := cntU_le k
    rw [cntU_succ]
    split <;> omega
theorem pick_at {c : Nat} (hc : us.getD c false = true) : ∀ {k : Nat}, c < k → cntU us c < cntU us k ∧ (pick us r k).getD (cntU us c) 0 = r.getD c 0 := fun {k} h => by
  induction h with
  | refl =>
    have e1 : cntU us (c + 1) = cntU us c + 1 := if_pos hc
    have e2 : pick us r (c + 1) = pick us r c ++ [r.getD c 0] := if_pos hc
    refine ⟨by show cntU us c < cntU us (c + 1); omega, ?_⟩
    show (pick us r (c + 1)).getD _ 0 = _
    have := getD_app2 (l := pick us r c) (x := r.getD c 0) (d := 0)
    rw [pick_len] at this
    rw [e2]; exact this
  | @step k h ih =>
    have h1 : cntU us k ≤ cntU us (k + 1) := cntU_mono (Nat.le_succ k)
    refine ⟨Nat.lt_of_lt_of_le ih.1 h1, ?_⟩
    show (pick us r (k + 1)).getD _ 0 = _
    rw [pick_succ]
    split
    · rw [getD_app1 (by rw [pick_len]; exact ih.1)]; exact ih.2
    · exact ih.2
theorem pick_inv : ∀ {k p : Nat}, p < cntU us k → ∃ c, c < k ∧ us.getD c false = true ∧ cntU us c = p
  | 0, p, h => by cases h
  | k + 1, p, h => by
    have h : p < if us.getD k false = true then cntU us k + 1 else cntU us k := h
    by_cases hu : us.getD k false = true
    · rw [if_pos hu] at h
      by_cases e : p = cntU us k
      · exact ⟨k, by omega, hu, e.symm⟩
      · obtain ⟨c, h1, h2, h3⟩ := pick_inv (k := k) (p := p) (by omega)
        exact ⟨c, by omega, h2, h3⟩
    · rw [if_neg hu] at h
      obtain ⟨c, h1, h2, h3⟩ := pick_inv (k := k) (p := p) h
      exact ⟨c, by omega, h2, h3⟩
end
def autOf (D : Dfa) : Aut := ⟨D.next.length, fun i => D.acc.getD i false, fun i b => (D.next.getD i []).getD (D.cls b) 0⟩
theorem _root_.Go.Proofs.Ytfjhcoeehjephaa.RightD.row {D : Dfa} (h : RightD D) {i : Nat} (hi : i < D.next.length) : (D.next.getD i []).length = D.many ∧ ∀ c, c < D.many → -1 ≤ (D.next.getD i []).getD c 0 ∧ (D.next.getD i []).getD c 0 < (D.next.length : Int) := by
  have h1 : ¬ RowOff D i := fun h9 => h.rows ⟨i, hi, h9⟩
  have h2 : (D.next.getD i []).length = D.many := Classical.byContradiction fun h9 => h1 (.inl h9)
  refine ⟨h2, fun c hc => ?_⟩
  have h3 : ¬ ((D.next.getD i []).getD c 0 < -1 ∨ (D.next.length : Int) ≤ (D.next.getD i []).getD c 0) := fun h9 => h1 (.inr ⟨c, by omega, h9⟩)
  omega
theorem _root_.Go.Proofs.Ytfjhcoeehjephaa.RightD.cl {D : Dfa} (h : RightD D) {b : Nat} (hb : b < 256) : D.cls b < D.many := Nat.lt_of_not_le fun h9 => h.cls ⟨b, hb, h9⟩
theorem _root_.Go.Proofs.Ytfjhcoeehjephaa.RightD.aut {D : Dfa} (h : RightD D) : (autOf D).Ok :=
  ⟨h.lo, fun _ _ hi hb => ((h.row hi).2 _ (h.cl hb)).1, fun _ _ hi hb => ((h.row hi).2 _ (h.cl hb)).2⟩
/-- which classes some byte below k has -/
def UsOk (us : List Bool) (cls : Nat → Nat) (k : Nat) : Prop := us.length = 256 ∧ ∀ c, us.getD c false = true ↔ ∃ b, b < k ∧ cls b = c
theorem usOk_zero (cls : Nat → Nat) : UsOk (List.replicate 256 false) cls 0 := ⟨List.length_replicate, fun c => by
  constructor
  · intro h
    rw [List.getD_eq_getElem?_getD, List.getElem?_replicate] at h
    split at h <;> simp at h
  · rintro ⟨b, hb, _⟩; omega⟩
theorem usOk_step {us : List Bool} {cls : Nat → Nat} {k : Nat} (h : UsOk us cls k) (hc : cls k < 256) : UsOk (us.set (cls k) true) cls (k + 1) := ⟨by simp [h.1], fun c => by
  have key : (us.set (cls k) true).getD c false = true ↔ (c = cls k ∨ us.getD c false = true) := by
    rw [List.getD_eq_getElem?_getD, List.getElem?_set]
    by_cases e : cls k = c
    · subst e
      rw [if_pos rfl, if_pos (by rw [h.1]; exact hc)]; simp
    · rw [if_neg e, ← List.getD_eq_getElem?_getD]
      constructor
      · exact .inr
      · rintro (h9 | h9)
        · exact (e h9.symm).elim
        · exact h9
  rw [key, h.2 c]
  constructor
  · rintro (rfl | ⟨b, hb, e⟩)
    · exact ⟨k, by omega, rfl⟩
    · exact ⟨b, by omega, e⟩
  · rintro ⟨b, hb, e⟩
    by_cases e2 : b = k
    · subst e2; exact .inl e.symm
    · exact .inr ⟨b, by omega, e⟩⟩
theorem going_of {D : Dfa} (h : RightD D) {us : List Bool} (hu : UsOk us D.cls 256) {ls : List (List Int)} (hl : ls.length = D.next.length) (hr : ∀ i, i < D.next.length → ls.getD i [] = pick us (D.next.getD i []) D.many) : Going (autOf D) ls (cntU us D.many) := by
  refine ⟨hl, fun i hi => by rw [hr i hi, pick_len], fun b hb => ?_, fun p hp => ?_⟩
  · have h1 : us.getD (D.cls b) false = true := (hu.2 _).2 ⟨b, hb, rfl⟩
    refine ⟨cntU us (D.cls b), (pick_at (r := []) h1 (h.cl hb)).1, fun i hi => ?_⟩
    rw [hr i hi, (pick_at h1 (h.cl hb)).2]; rfl
  · obtain ⟨c, hc, h1, rfl⟩ := pick_inv hp
    obtain ⟨b, hb, rfl⟩ := (hu.2 c).1 h1
    refine ⟨b, hb, fun i hi => ?_⟩
    rw [hr i hi, (pick_at h1 hc).2]; rfl
end Go.Proofs.Ytfjhcoeehjephaa.M9
/- mini.going. -/
namespace Go.Proofs.Ytfjhcoeehjephaa.M9
open Go.RowKit Go.Maps Go.WideMaps

def zs58 : Array Value := (List.replicate 256 (Value.bool false)).toArray
theorem zeros58 : zs58 = (List.replicate 256 (Value.bool false)).toArray := rfl
set_option maxRecDepth 100000 in
theorem zeroV58 (W : World) : (zeroValue 122).run Try.prog W = .ok (.agg zs58) W := by kernel_rfl
/-- what stays while rows are cut down -/
structure GoW (w W : World) (ds : Array Value) (us : List Bool) : Prop where
  bel : Below w.heap.size w W
  box : Blk W w.heap.size 30 ds.toList
  ub : Blk W (w.heap.size + 1) 122 (us.map Value.bool)
section
variable {w W W' : World} {ds : Array Value} {us : List Bool}
theorem GoW.lt (h : GoW w W ds us) : w.heap.size + 1 < W.heap.size := h.ub.lt
theorem GoW.goB (h : GoW w W ds us) {B : Nat} (hB : w.heap.size + 1 < B) (hb : Below B W W') : GoW w W' ds us :=
  ⟨h.bel.trans (hb.mono (by omega)), h.box.below hb (by omega), h.ub.below hb hB⟩
theorem GoW.start (w : World) (ds : Array Value) : GoW w ((w.alloc (.cells ds 30)).alloc (.cells zs58 122)) ds (List.replicate 256 false) := by
  refine ⟨((Below.refl _ _).alloc (Nat.le_refl _) _).alloc (by simp) _, ?_, ?_⟩
  · have := (Blk.new w 30 ds.toList).alloc (.cells zs58 122)
    simpa using this
  · have h := Blk.new (w.alloc (.cells ds 30)) 122 ((List.replicate 256 false).map Value.bool)
    rw [World.size_alloc, List.map_replicate, ← zeros58] at h
    rw [List.map_replicate]; exact h
theorem GoW.set (h : GoW w W ds us) (c : Nat) : GoW w (W.setCell ⟨w.heap.size + 1, c, none⟩ (.bool true)) ds (us.set c true) :=
  have hb := but_setCell W (w.heap.size + 1) c (.bool true)
  ⟨h.bel.setCell (p := ⟨w.heap.size + 1, c, none⟩) (Nat.le_succ _) _, hb.blk h.box (by omega), by rw [List.map_set]; exact h.ub.set c _⟩
theorem GoW.alloc (h : GoW w W ds us) (o : Obj) : GoW w (W.alloc o) ds us := h.goB h.lt ((Below.refl _ _).alloc (Nat.le_refl _) _)
/-- a row has grown and is stored again -/
theorem GoW.row {gb n : Nat} {V : Nat → Value} {ls : List (List Int)} (h : GoW w W ds us) (hr : RowsW W w.heap.size gb n V ls) (hgb : w.heap.size ≤ gb) {j : Nat} (hj : j < n) (hg : W.grownBy W' (V j).ownBlock) (v : Value) : GoW w (W'.setCell ⟨gb, j, none⟩ v) ds us := by
  have hb := But.of_grown hg
  have hs := but_setCell W' gb j v
  have hbl := h.bel.trans (hb.below h.bel.size (fun k e => ((hr.own j hj).lt k e).1))
  have hg2 : Blk W' gb 36 _ := hb.blk hr.blk (fun e => hr.nb hj e)
  have b1 := hb.blk h.box (fun e => blk_own_ne h.box (hr.own j hj) (by decide) e)
  have b2 := hb.blk h.ub (fun e => blk_own_ne h.ub (hr.own j hj) (by decide) e)
  exact ⟨hbl.setCell (p := ⟨gb, j, none⟩) hgb v, hs.blk b1 (fun e => blk_ne b1 hg2 (by decide) e), hs.blk b2 (fun e => blk_ne b2 hg2 (by decide) e)⟩
end
/-- an append of one number to a row -/
theorem app_facts {W W2 : World} {base gb n : Nat} {V : Nat → Value} {ls : List (List Int)} (hr : RowsW W base gb n V ls) {j : Nat} (hj : j < n) (hg : W.grownBy W2 (V j).ownBlock) : Blk W2 gb 36 ((List.range n).map V) := (But.of_grown hg).blk hr.blk (fun e => hr.nb hj e)
set_option maxRecDepth 100000 in
set_option maxHeartbeats 8000000 in
theorem going_any (ds : Array Value) (A1 A2 : Option Addr) (n n2 c1 c2 : Nat) (D : Dfa) (RA : Nat → Option Addr) (rc : Nat → Nat) (w : World) (h : DfaIn w ds A1 A2 n n2 c1 c2 D RA rc) (hr : RightD D) :
    Calls Try.prog 53 #[.agg ds] w fun e w' => ∃ gb V ls u, e = .returned (.slice (some ⟨gb, 0, none⟩) n n) ∧ RowsW w' w.heap.size gb n V ls ∧ w.heap.size ≤ gb ∧ Going (autOf D) ls u ∧ u ≤ 256 ∧ Below w.heap.size w w' := by
  have hln := h.next.len
  have hn4 := hr.hi
  have hn1 := hr.lo
  rw [hln] at hn4 hn1
  have hmk := make_one 27 36 (.slice none 0 0) 24 Try.underlying27 info34 rfl n (by omega) (by omega)
  obtain ⟨i3, hi3, hz3, hsz3, hbt3⟩ := info_parts info3
  have hclt := h.cells.lt
  have HI := Lib.hid (fun k hk W => index_cls h.cells k hk W)
  have H := Lib.hid h
  have HR := Lib.hid hr
  have hds := h.cells.size
  clear h hr
  go_enter Try.func53, Try.ntmps53
  have hl256 : (ds.toList.take 256).length = 256 := by simp [hds]
  have G0 := Lib.hid (GoW.start w ds)
  obtain ⟨ls, hls⟩ : ∃ ls, ls = ds.toList.take 256 := ⟨_, rfl⟩
  have q32 : ((w.alloc (.cells ds 30)).alloc (.cells zs58 122)).rangeAt w.heap.size 0 (ds.toList.take 256) := fun j v hv => by
    rw [Nat.zero_add, G0.out.box.cell]
    rw [List.getElem?_take] at hv
    split at hv
    · rw [← hv]
    · cases hv
  rw [← hls] at HI q32 hl256
  have hinf : (Try.prog.info? 26).map (·.size) = some ls.length := by rw [hl256]; exact info22
  have HINF := Lib.hid hinf
  have HR32 := Lib.hid q32
  clear hls hinf q32 hl256
  have hz58 := zeroV58
  go_wp2_with (first | (refine wpList_load_mid rfl 26 (.tmp 11) rfl w.heap.size 0 rfl ls _ HR32.out Try.underlying26 rfl HINF.out ?_))
  clear hz58
  generalize (w.alloc (.cells ds 30)).alloc (.cells zs58 122) = w1 at G0 ⊢
  clear HR32 HINF
  go_loopw [13] (fun i wr => ∃ (k : Nat) (us : List Bool), k ≤ 256 ∧ i = .int .i64 k ∧ GoW w wr ds us ∧ UsOk us D.cls k) (fun i _ => 256 - (intOf i).toNat)
  case atStart => exact ⟨0, _, by omega, rfl, G0.out, usOk_zero _⟩
  case round =>
    obtain ⟨k, us, hk, rfl, hg, hu⟩ := hrel
    have G := Lib.hid (And.intro hg hu)
    clear hg hu G0
    by_cases hlt : k < 256
    · have hix := HI.out k hlt
      have hcl := hclt k hlt
      have hst := G.out.1.set (D.cls k)
      have hus := usOk_step G.out.2 hcl
      have hfz := G.out.1.ub.frozen (D.cls k)
      have hul := G.out.2.1
      have hce := bools_cell G.out.1.ub (j := D.cls k) (by rw [hul]; exact hcl)
      obtain ⟨cc, hcc⟩ : ∃ cc, cc = D.cls k := ⟨_, rfl⟩
      rw [← hcc] at hix hcl hst hus hfz hce
      have HS := Lib.hid (And.intro hst hus)
      clear hcc hst hus
      go_wp2_with fail
      go_roundw
      case rel => exact ⟨k + 1, _, by omega, by go_num, HS.out.1, HS.out.2⟩
      case measure => simp [intOf]; omega
    · have hk256 : k = 256 := by omega
      have hus := G.out.2
      rw [hk256] at hus
      have HK := Lib.hid (And.intro hk256 hus)
      have q256 := G.out.1.box.cell 256
      rw [show ds.toList[256]? = ds[256]? by simp, H.out.cells.nx] at q256
      have q256' := cell_al q256 (.cells (Array.replicate n (.slice none 0 0)) 36)
      have hg0 := G.out.1.alloc (.cells (Array.replicate n (.slice none 0 0)) 36)
      have hr0 := RowsW.start wr w.heap.size n
      have hgb := G.out.1.bel.size
      obtain ⟨gb, hgbd⟩ : ∃ gb, gb = wr.heap.size := ⟨_, rfl⟩
      have HB := Lib.hid (And.intro hg0 hr0)
      have HGB := Lib.hid hgbd
      clear hk256 hus hg0 hr0
      go_wp2_with fail
      rw [← hgbd] at HB hgb ⊢
      clear hgbd q256 q256' hmk
      generalize wr.alloc (.cells (Array.replicate n (.slice none 0 0)) 36) = w2 at HB ⊢
      have hmw := Lib.hid (fun i hi => HR.out.row (i := i) hi)
      have hmany := HR.out.mhi
      obtain ⟨mm, hmm⟩ : ∃ mm, mm = D.many := ⟨_, rfl⟩
      rw [← hmm] at hmw hmany
      have HM := Lib.hid hmm
      clear hmm
      go_loopw [26] (fun i wr => ∃ (t : Nat) (V : Nat → Value) (ls : List (List Int)), t ≤ n ∧ i = .int .i64 t ∧ GoW w wr ds us ∧ RowsW wr w.heap.size gb n V ls ∧ (∀ i, i < t → ls.getD i [] = pick us (D.next.getD i []) mm) ∧ ∀ i, t ≤ i → ls.getD i [] = []) (fun i _ => n - (intOf i).toNat)
      case atStart => exact ⟨0, _, _, by omega, rfl, HB.out.1, HB.out.2, fun i hi => by omega, fun i _ => by rw [List.getD_eq_getElem?_getD, List.getElem?_replicate]; split <;> rfl⟩
      case round =>
        obtain ⟨t, V, ls', ht, rfl, hgo, hrw, hl1, hl2⟩ := hrel
        have HX := Lib.hid (And.intro hgo (And.intro hrw (And.intro hl1 hl2)))
        clear hgo hrw hl1 hl2 HB
        by_cases htl : t < n
        · obtain ⟨b0, o0, e9, hb0, hc0⟩ := H.out.next.arr.one htl
          obtain ⟨hw0, hwv⟩ := hmw.out t (by rw [hln]; exact htl)
          unfold RowC at hc0
          rw [hw0] at hc0
          subst e9
          have hc0 := (HX.out.1.bel.cell (p := ⟨b0, o0 + t, none⟩) hb0).trans hc0
          have HWV := Lib.hid hwv
          have HW0 := Lib.hid hw0
          clear hwv hw0
          go_wp2_with fail
          go_loopw [33] (fun i wr => ∃ (c : Nat) (V : Nat → Value) (ls : List (List Int)), c ≤ mm ∧ i = .int .i64 c ∧ GoW w wr ds us ∧ RowsW wr w.heap.size gb n V ls ∧ (∀ i, i < t → ls.getD i [] = pick us (D.next.getD i []) mm) ∧ (∀ i, t + 1 ≤ i → ls.getD i [] = []) ∧ ls.getD t [] = pick us (D.next.getD t []) c) (fun i _ => mm - (intOf i).toNat)
          case atStart => exact ⟨0, V, ls', by omega, rfl, HX.out.1, HX.out.2.1, HX.out.2.2.1, fun i hi => HX.out.2.2.2 i (by omega), HX.out.2.2.2 t (Nat.le_refl _)⟩
          case round =>
            obtain ⟨c, V', ls2, hc, rfl, hgo, hrw, hl1, hl2, hl3⟩ := hrel
            have HY := Lib.hid (And.intro hgo (And.intro hrw (And.intro hl1 (And.intro hl2 hl3))))
            clear hgo hrw hl1 hl2 hl3 HX
            by_cases hcl : c < mm
            · obtain ⟨b1, o1, hra, hb1, hc1⟩ := (H.out.next.row t htl).one (k := c) (by rw [HW0.out]; exact hcl)
              unfold NumC at hc1
              have hc1 := (HY.out.1.bel.cell (p := ⟨b1, o1 + c, none⟩) hb1).trans hc1
              have hub := bools_cell HY.out.1.ub (j := c) (by rw [HK.out.2.1]; omega)
              have hps := pick_succ us (D.next.getD t []) c
              obtain ⟨x, hx⟩ : ∃ x, x = (D.next.getD t []).getD c 0 := ⟨_, rfl⟩
              obtain ⟨bu, hbu⟩ : ∃ bu, bu = us.getD c false := ⟨_, rfl⟩
              rw [← hx] at hc1 hps
              rw [← hbu] at hub hps
              rw [← HY.out.2.2.2.2] at hps
              have HPS := Lib.hid hps
              clear hx hbu hps
              rw [hra]
              cases bu with
              | false =>
                go_wp2_with fail
                go_roundw
                case rel => exact ⟨c + 1, V', ls2, by omega, by go_num, HY.out.1, HY.out.2.1, HY.out.2.2.1, HY.out.2.2.2.1, by rw [HPS.out]; rfl⟩
                case measure => simp [intOf]; omega
              | true =>
                obtain ⟨A', c', hv⟩ := own_sl (HY.out.2.1.own t htl)
                have hlen : (ls2.getD t []).length ≤ 256 := by
                  rw [HY.out.2.2.2.2, pick_len]
                  have := cntU_le (us := us) c
                  omega
                have hvc := HY.out.2.1.cell htl
                have hown := HY.out.2.1.own t htl
                obtain ⟨li, hli⟩ : ∃ li, li = ls2.getD t [] := ⟨_, rfl⟩
                rw [← hli] at hv hlen hown HPS
                obtain ⟨m, hm⟩ : ∃ m, m = li.length := ⟨_, rfl⟩
                rw [← hm] at hv hlen hown
                rw [hv] at hvc hown
                have hw3 := HY.out.2.1.go ((Below.refl _ _).alloc (Nat.le_refl _) (.cells #[.int .i64 x] 3))
                have hg3 := HY.out.1.alloc (.cells #[.int .i64 x] 3)
                have hz9 : ∀ W : World, W.heap.size = W.heap.size := fun _ => rfl
                have HZ := Lib.hid (And.intro hw3 (And.intro hg3 (And.intro hv (And.intro hli hm))))
                have hown3 := own_kept hown ((Below.refl _ _).alloc (Nat.le_refl _) (.cells #[.int .i64 x] 3))
                have y1 : (m + 1) * 8 ≤ 140737488355328 := by omega
                have y2 : m + 1 ≤ maxLen := by unfold maxLen; omega
                have y3 : ∀ v ∈ [Value.int .i64 x], v.oneCell' = true := by intro v hv9; simp at hv9; rw [hv9]; rfl
                have y4 : w.heap.size ≤ (wr.alloc (.cells #[.int .i64 x] 3)).heap.size := hg3.bel.size
                clear hw3 hg3 hv hli hm hz9 hown
                go_wp2_with (first | (at_builtin; refine wpList_append_lies _ rfl (.tmp 46) (.tmp 48) 36 rfl w.heap.size 3 i3 (.int .i64 0) 1 8 Try.underlying36 hi3 hz3 hsz3 hbt3 rfl (by decide) (.slice A' m c') m (numsV .i64 li) rfl hown3 ⟨_, 0, none⟩ 1 1 [.int .i64 x] rfl rfl (World.news_of_block (heap_alloc_new _ _)) y3 (by decide) y2 y1 y4 _ rfl ?_; intro g2 cap2 w3 hown4 hg4 hat4 hlt4; have hbk4 := app_facts HZ.out.1 htl (by rw [HZ.out.2.2.1]; exact hg4); have hfz4 := hbk4.frozen t; have hce4 := hbk4.cell t; rw [List.getElem?_map, List.getElem?_range htl] at hce4))
                have H4 := Lib.hid (And.intro hown4 (And.intro hg4 hat4))
                clear hown4 hg4 hat4 hbk4 hlt4
                go_roundw
                case rel =>
                  have hl9 : (li ++ [x]).length = m + 1 := by rw [List.length_append, ← HZ.out.2.2.2.2]; rfl
                  have hr9 := HZ.out.1.app htl (l := li ++ [x]) (v := .slice (some ⟨g2, 0, none⟩) (m + 1) cap2) (g := g2) (W' := w3) (by rw [hl9, numsV_snoc]; exact H4.out.1) rfl (by rw [HZ.out.2.2.1]; exact H4.out.2.1) (by
                    rw [HZ.out.2.2.1]
                    rcases H4.out.2.2 with h9 | h9
                    · exact .inl h9
                    · exact .inr (by rw [h9]; exact Nat.le_refl _))
                  refine ⟨c + 1, _, _, by omega, by go_num, HZ.out.2.1.row HZ.out.1 hgb htl (by rw [HZ.out.2.2.1]; exact H4.out.2.1) _, hr9, fun i hi => ?_, fun i hi => ?_, ?_⟩
                  · rw [getD_set1 _ (by rw [HY.out.2.1.len]; exact htl), if_neg (by omega)]; exact HY.out.2.2.1 i hi
                  · rw [getD_set1 _ (by rw [HY.out.2.1.len]; exact htl), if_neg (by omega)]; exact HY.out.2.2.2.1 i hi
                  · rw [getD_set1 _ (by rw [HY.out.2.1.len]; exact htl), if_pos rfl, HPS.out]; rfl
                case measure => simp [intOf]; omega
            · obtain rfl : c = mm := by omega
              go_wp2_with fail
              go_roundw
              case rel => exact ⟨t + 1, V', ls2, by omega, by go_num, HY.out.1, HY.out.2.1, fun i hi => by
                  by_cases e : i = t
                  · subst e; exact HY.out.2.2.2.2
                  · exact HY.out.2.2.1 i (by omega), HY.out.2.2.2.1⟩
              case measure => simp [intOf]; omega
        · obtain rfl : t = n := by omega
          go_wp2_with fail
          go_returns
          exact ⟨gb, V, ls', cntU us D.many, rfl, HX.out.2.1, hgb, going_of HR.out HK.out.2 (by rw [HX.out.2.1.len, hln]) (fun i hi => by rw [← HM.out]; exact HX.out.2.2.1 i (by rw [← hln]; exact hi)), by rw [← HM.out]; have := cntU_le (us := us) mm; omega, HX.out.1.bel⟩
end Go.Proofs.Ytfjhcoeehjephaa.M9
/- Which states are live: the memory of the search, and its plain part. -/
namespace Go.Proofs.Ytfjhcoeehjephaa.M9
open Go.RowKit Go.Maps Go.WideMaps

def natsV (st : List Nat) : List Value := st.map (fun (x : Nat) => .int .i64 (x : Int))
structure LivW (w W : World) (gb gl n : Nat) (V : Nat → Value) (back : List (List Int)) (vs : Value) (st : List Nat) (lv : List Bool) : Prop where
  bel : Below w.heap.size w W
  rows : RowsW W w.heap.size gb n V back
  hgb : w.heap.size ≤ gb
  lb : Blk W gl 4 (lv.map Value.bool)
  hgl : w.heap.size ≤ gl
  own : W.ownsRow w.heap.size 3 1 vs st.length (natsV st)
  ne : ∀ j, j < n → ∀ k, (V j).ownBlock = some k → vs.ownBlock ≠ some k
section
variable {w W W' : World} {gb gl n : Nat} {V : Nat → Value} {back : List (List Int)} {vs : Value} {st : List Nat} {lv : List Bool}
theorem LivW.go (h : LivW w W gb gl n V back vs st lv) (hb : Below W.heap.size W W') : LivW w W' gb gl n V back vs st lv :=
  ⟨h.bel.trans (hb.mono h.bel.size), h.rows.go hb, h.hgb, h.lb.below hb h.lb.lt, h.hgl, own_kept h.own hb, h.ne⟩
theorem LivW.alloc (h : LivW w W gb gl n V back vs st lv) (o : Obj) : LivW w (W.alloc o) gb gl n V back vs st lv := h.go ((Below.refl _ _).alloc (Nat.le_refl _) _)
theorem LivW.mark (h : LivW w W gb gl n V back vs st lv) (j : Nat) : LivW w (W.setCell ⟨gl, j, none⟩ (.bool true)) gb gl n V back vs st (lv.set j true) :=
  have hb := but_setCell W gl j (.bool true)
  ⟨h.bel.setCell (p := ⟨gl, j, none⟩) h.hgl _, h.rows.but hb (fun e => blk_ne h.rows.blk h.lb (by decide) e) (fun i hi k hk e => blk_own_ne h.lb (h.rows.own i hi) (by decide) (by rw [hk, e])), h.hgb, by rw [List.map_set]; exact h.lb.set j _, h.hgl,
    hb.own h.own (fun k hk e => blk_own_ne h.lb h.own (by decide) (by rw [hk, e])), h.ne⟩
/-- the stack has grown -/
theorem LivW.push (h : LivW w W gb gl n V back vs st lv) {g : Nat} {v : Value} {x : Nat} (hown : W'.ownsRow w.heap.size 3 1 v (st.length + 1) (natsV st ++ [.int .i64 (x : Int)])) (hv : v.ownBlock = some g) (hg : W.grownBy W' vs.ownBlock) (hat : vs.ownBlock = some g ∨ W.heap.size ≤ g) : LivW w W' gb gl n V back v (st ++ [x]) lv :=
  have hb := But.of_grown hg
  ⟨h.bel.trans (hb.below h.bel.size (fun k e => (h.own.lt k e).1)), h.rows.but hb (fun e => blk_own_ne h.rows.blk h.own (by decide) e) (fun i hi k hk => h.ne i hi k hk), h.hgb, hb.blk h.lb (fun e => blk_own_ne h.lb h.own (by decide) e), h.hgl, by rw [List.length_append]; unfold natsV at hown ⊢; rw [List.map_append]; exact hown,
    fun i hi k hk e => by
      rw [hv] at e
      injection e with e
      subst e
      rcases hat with h9 | h9
      · exact h.ne i hi _ hk h9
      · have := ((h.rows.own i hi).lt _ hk).2
        omega⟩
theorem LivW.pop {x c : Nat} {A : Option Addr} (h : LivW w W gb gl n V back (.slice A (st.length + 1) c) (st ++ [x]) lv) : LivW w W gb gl n V back (.slice A st.length c) st lv :=
  ⟨h.bel, h.rows, h.hgb, h.lb, h.hgl, own_pop (xs := natsV st) (x := .int .i64 (x : Int)) (by have := h.own; simpa [natsV] using this) (by simp [natsV]), fun j hj k hk e => h.ne j hj k hk (by cases A with
    | none => simp [Value.ownBlock] at e
    | some a => simpa [Value.ownBlock] using e)⟩
/-- a row has grown and is stored again -/
theorem LivW.row (h : LivW w W gb gl n V back vs st lv) {j : Nat} (hj : j < n) {g : Nat} {v : Value} {l : List Int} (hown : W'.ownsRow w.heap.size 3 1 v l.length (numsV .i64 l)) (hv : v.ownBlock = some g) (hg : W.grownBy W' (V j).ownBlock) (hat : (V j).ownBlock = some g ∨ W.heap.size ≤ g) :
    LivW w (W'.setCell ⟨gb, j, none⟩ v) gb gl n (updV V j v) (back.set j l) vs st lv := by
  have hb := But.of_grown hg
  have hs := but_setCell W' gb j v
  have hlb := hb.blk h.lb (fun e => blk_own_ne h.lb (h.rows.own j hj) (by decide) e)
  have hgb' := app_facts h.rows hj hg
  have hst := hb.own h.own (fun k hk e => h.ne j hj k e hk)
  refine ⟨(h.bel.trans (hb.below h.bel.size (fun k e => ((h.rows.own j hj).lt k e).1))).setCell (p := ⟨gb, j, none⟩) h.hgb v, h.rows.app hj hown hv hg hat, h.hgb, hs.blk hlb (fun e => blk_ne hlb hgb' (by decide) e), h.hgl,
    hs.own hst (fun k hk e => blk_own_ne hgb' hst (by decide) (by rw [hk, e])), fun i hi k hk => ?_⟩
  unfold updV at hk
  by_cases e : i = j
  · rw [if_pos e, hv] at hk
    injection hk with hk
    subst hk
    rcases hat with h9 | h9
    · exact h.ne j hj _ h9
    · intro h8
      have := (h.own.lt _ h8).2
      omega
  · rw [if_neg e] at hk
    exact h.ne i hi k hk
theorem LivW.cell (h : LivW w W gb gl n V back vs st lv) {j : Nat} (hj : j < lv.length) : W.cell? ⟨gl, j, none⟩ = some (.bool (lv.getD j false)) := bools_cell h.lb hj
end
/-- edges backwards, as far as they are known: those of states below k, and the first cc of state k -/
structure BackOk (rows : List (List Int)) (n u : Nat) (back : List (List Int)) (k cc : Nat) : Prop where
  all : ∀ i c j : Nat, (i < k ∧ c < u) ∨ (i = k ∧ c < cc) → (rows.getD i []).getD c 0 = (j : Int) → j < n → (i : Int) ∈ back.getD j []
  only : ∀ j x, j < n → x ∈ back.getD j [] → ∃ i c : Nat, x = (i : Int) ∧ i < n ∧ c < u ∧ (rows.getD i []).getD c 0 = (j : Int)
  few : ∀ j, j < n → (back.getD j []).length ≤ 256 * k + cc
theorem BackOk.start (rows : List (List Int)) (n u : Nat) : BackOk rows n u (List.replicate n []) 0 0 := by
  have e : ∀ j, (List.replicate n ([] : List Int)).getD j [] = [] := fun j => by rw [List.getD_eq_getElem?_getD, List.getElem?_replicate]; split <;> rfl
  exact ⟨fun i c j h => by omega, fun j x _ hx => (by rw [e] at hx; cases hx), fun j _ => (by rw [e]; exact Nat.zero_le _)⟩
section
variable {rows : List (List Int)} {n u : Nat} {back : List (List Int)} {k cc : Nat}
theorem BackOk.row (h : BackOk rows n u back k u) (hu : u ≤ 256) : BackOk rows n u back (k + 1) 0 :=
  ⟨fun i c j hic => h.all i c j (by omega), h.only, fun j hj => by have := h.few j hj; omega⟩
theorem BackOk.skip (h : BackOk rows n u back k cc) (hx : (rows.getD k []).getD cc 0 < 0) : BackOk rows n u back k (cc + 1) :=
  ⟨fun i c j hic he hj => by
    by_cases e : i = k ∧ c = cc
    · rw [e.1, e.2] at he; omega
    · exact h.all i c j (by omega) he hj, h.only, fun j hj => by have := h.few j hj; omega⟩
theorem BackOk.put (h : BackOk rows n u back k cc) (hl : back.length = n) {j : Nat} (hj : j < n) (hk : k < n) (hc : cc < u) (hx : (rows.getD k []).getD cc 0 = (j : Int)) : BackOk rows n u (back.set j (back.getD j [] ++ [(k : Int)])) k (cc + 1) := by
  have hg : ∀ i, (back.set j (back.getD j [] ++ [(k : Int)])).getD i [] = if i = j then back.getD j [] ++ [(k : Int)] else back.getD i [] := fun i => getD_set1 _ (by rw [hl]; exact hj)
  refine ⟨fun i c j' hic he hj' => ?_, fun j' x hj' hx' => ?_, fun j' hj' => ?_⟩
  · rw [hg]
    by_cases e : i = k ∧ c = cc
    · rw [e.1, e.2, hx] at he
      have : j' = j := by omega
      rw [if_pos this, e.1]; simp
    · have := h.all i c j' (by omega) he hj'
      split
      · rename_i e2; rw [e2] at this; exact List.mem_append_left _ this
      · exact this
  · rw [hg] at hx'
    split at hx'
    · rename_i e2
      rcases List.mem_append.1 hx' with h9 | h9
      · obtain ⟨i, c, h1, h2, h3, h4⟩ := h.only j x hj h9
        exact ⟨i, c, h1, h2, h3, by rw [h4, e2]⟩
      · simp at h9
        exact ⟨k, cc, h9, hk, hc, by rw [hx, e2]⟩
    · exact h.only j' x hj' hx'
  · rw [hg]
    split
    · have := h.few j hj
      rw [List.length_append, List.length_singleton]; omega
    · have := h.few j' hj'
      omega
end
/-- what holds of marks and stack: marked ones are live; whoever is off the stack has marked all from whom it is reached -/
structure Sr (A : Aut) (st : List Nat) (lv : List Bool) : Prop where
  len : lv.length = A.n
  live : ∀ j, lv.getD j false = true → j < A.n ∧ Live A j
  on : ∀ j ∈ st, lv.getD j false = true
  few : falses lv + st.length ≤ A.n
def Shut1 (back : List (List Int)) (lv : List Bool) (x : Nat) : Prop := ∀ i : Nat, (i : Int) ∈ back.getD x [] → lv.getD i false = true
def ShutBut (back : List (List Int)) (lv : List Bool) (st : List Nat) (ex : Nat → Prop) : Prop := ∀ x, lv.getD x false = true → x ∉ st → ¬ ex x → Shut1 back lv x
theorem more_set (seen : List Bool) (j : Nat) {k : Nat} (hk : seen.getD k false = true) : (seen.set j true).getD k false = true := by
  have hl : k < seen.length := by
    apply Classical.byContradiction
    intro h9
    rw [List.getD_eq_getElem?_getD, List.getElem?_eq_none (by omega)] at hk
    simp at hk
  rw [getD_set hl]
  split
  · rfl
  · exact hk
theorem Shut1.more {back : List (List Int)} {lv : List Bool} {x j : Nat} (h : Shut1 back lv x) : Shut1 back (lv.set j true) x := fun i hi => more_set _ _ (h i hi)
section
variable {A : Aut} {back : List (List Int)} {st : List Nat} {lv : List Bool} {ex : Nat → Prop}
theorem Sr.start (A : Aut) : Sr A [] (List.replicate A.n false) := by
  have e : ∀ j, (List.replicate A.n false).getD j false = false := fun j => by rw [List.getD_eq_getElem?_getD, List.getElem?_replicate]; split <;> rfl
  refine ⟨by simp, fun j hj => (by rw [e] at hj; cases hj), fun j hj => (by cases hj), ?_⟩
  have h : falses (List.replicate A.n false) ≤ (List.replicate A.n false).length := List.countP_le_length
  simpa using h
theorem rep_false {n j : Nat} (h : (List.replicate n false).getD j false = true) : False := by
  rw [List.getD_eq_getElem?_getD, List.getElem?_replicate] at h
  split at h <;> cases h
theorem Sr.push (h : Sr A st lv) {j : Nat} (hj : j < A.n) (hl : Live A j) (hs : lv.getD j false = false) : Sr A (st ++ [j]) (lv.set j true) := by
  refine ⟨by simp [h.len], fun k hk => ?_, fun k hk => ?_, ?_⟩
  · by_cases e : k < lv.length
    · rw [getD_set e] at hk
      by_cases e2 : k = j
      · subst e2; exact ⟨hj, hl⟩
      · rw [if_neg e2] at hk; exact h.live k hk
    · rw [List.getD_eq_getElem?_getD, List.getElem?_eq_none (by simp; omega)] at hk
      simp at hk
  · rcases List.mem_append.1 hk with h9 | h9
    · exact more_set _ _ (h.on k h9)
    · simp at h9
      subst h9
      rw [getD_set (by rw [h.len]; exact hj), if_pos rfl]
  · have h1 := falses_set (l := lv) (j := j) (by rw [h.len]; exact hj) hs
    have h2 := h.few
    simp only [List.length_append, List.length_singleton]
    omega
theorem Sr.pop {x : Nat} (h : Sr A (st ++ [x]) lv) : Sr A st lv :=
  ⟨h.len, h.live, fun j hj => h.on j (List.mem_append_left _ hj), by have := h.few; simp only [List.length_append, List.length_singleton] at this; omega⟩
theorem ShutBut.push (h : ShutBut back lv st ex) {j : Nat} : ShutBut back (lv.set j true) (st ++ [j]) ex := fun x hx hn he => by
  have hl : x < lv.length := by
    apply Classical.byContradiction
    intro h9
    rw [List.getD_eq_getElem?_getD, List.getElem?_eq_none (by simp; omega)] at hx
    simp at hx
  rw [getD_set hl] at hx
  have hxj : x ≠ j := fun e => hn (by rw [e]; simp)
  rw [if_neg hxj] at hx
  exact (h x hx (fun h9 => hn (List.mem_append_left _ h9)) he).more
/-- in the end the marked ones are just the live ones -/
theorem live_end {rows : List (List Int)} {u : Nat} (hok : A.Ok) (hg : Going A rows u) (hb : BackOk rows A.n u back A.n 0) (h : Sr A [] lv) (hs : ShutBut back lv [] (fun _ => False)) (hacc : ∀ i, i < A.n → A.acc i = true → lv.getD i false = true) : ∀ i, i < A.n → (lv.getD i false = true ↔ Live A i) := fun i hi => by
  constructor
  · exact fun h9 => (h.live i h9).2
  · intro h9
    refine live_least (S := fun j => lv.getD j false = true) hacc (fun i b hi hbb h0 hm => ?_) hok hi h9
    obtain ⟨c, hc, hall⟩ := hg.fwd b hbb
    have hj : (A.nx i b).toNat < A.n := by have := hok.hi i b hi hbb; omega
    refine hs _ hm (fun h9 => by cases h9) (fun h9 => h9) i ?_
    exact hb.all i c _ (.inl ⟨hi, hc⟩) (by rw [hall i hi]; omega) hj
theorem back_live {rows : List (List Int)} {u : Nat} (hg : Going A rows u) {k cc : Nat} (hb : BackOk rows A.n u back k cc) {j : Nat} (hj : j < A.n) (hl : Live A j) {x : Int} (hx : x ∈ back.getD j []) : ∃ i : Nat, x = (i : Int) ∧ i < A.n ∧ Live A i := by
  obtain ⟨i, c, rfl, hi, hc, he⟩ := hb.only j x hj hx
  obtain ⟨b, hbb, hall⟩ := hg.bwd c hc
  rw [hall i hi] at he
  exact ⟨i, rfl, hi, live_step hbb (by omega) (by rw [he]; simpa using hl)⟩
end
end Go.Proofs.Ytfjhcoeehjephaa.M9
/- mini.living. -/
namespace Go.Proofs.Ytfjhcoeehjephaa.M9
open Go.RowKit Go.Maps Go.WideMaps

theorem getD_memI {l : List Int} {t : Nat} (h : t < l.length) : l.getD t 0 ∈ l := by
  rw [List.getD_eq_getElem?_getD, List.getElem?_eq_getElem h]; exact List.getElem_mem h
set_option maxRecDepth 100000 in
set_option maxHeartbeats 8000000 in
theorem living_any (A : Aut) (hok : A.Ok) (A0 : Option Addr) (n c0 : Nat) (rows : List (List Int)) (RA : Nat → Option Addr) (rc : Nat → Nat) (A1 : Option Addr) (c1 : Nat) (acc : List Bool) (u : Nat) (w : World)
    (hAn : A.n = n) (h0 : RowsIn w A0 n rows RA rc) (h1 : Arr w w.heap.size 1 A1 n (BoolC acc)) (hn4 : n ≤ 400) (hu2 : u ≤ 256) (hg : Going A rows u) (ha : ∀ i, i < A.n → A.acc i = acc.getD i false) :
    Calls Try.prog 54 #[.slice A0 n c0, .slice A1 n c1] w fun e w' => ∃ (gl : Nat) (lv : List Bool), e = .returned (.slice (some ⟨gl, 0, none⟩) n n) ∧ Blk w' gl 4 (lv.map Value.bool) ∧ w.heap.size ≤ gl ∧ lv.length = n ∧ (∀ i, i < A.n → (lv.getD i false = true ↔ Live A i)) ∧ Below w.heap.size w w' := by
  have hmk1 := make_one 27 36 (.slice none 0 0) 24 Try.underlying27 info34 rfl n (by omega) (by omega)
  have hmk2 := make_one 28 4 (.bool false) 1 Try.underlying28 info4 rfl n (by omega) (by omega)
  obtain ⟨i3, hi3, hz3, hsz3, hbt3⟩ := info_parts info3
  have HC := Lib.hid (And.intro hok (And.intro hAn (And.intro hg ha)))
  have H0 := Lib.hid h0
  have H1 := Lib.hid h1
  clear h0 h1 hok hAn hg ha
  go_enter Try.func54, Try.ntmps54
  go_wp2_with fail
  clear hmk1 hmk2
  obtain ⟨gb, hgb⟩ : ∃ gb, gb = w.heap.size := ⟨_, rfl⟩
  obtain ⟨gl, hgl⟩ : ∃ gl, gl = w.heap.size + 1 := ⟨_, rfl⟩
  have hst : LivW w ((w.alloc (.cells (Array.replicate n (.slice none 0 0)) 36)).alloc (.cells (Array.replicate n (.bool false)) 4)) gb gl n (fun _ => .slice none 0 0) (List.replicate n []) (.slice none 0 0) [] (List.replicate n false) := by
    have hr : RowsW (w.alloc (.cells (Array.replicate n (.slice none 0 0)) 36)) w.heap.size gb n (fun _ => .slice none 0 0) (List.replicate n []) := by rw [hgb]; exact RowsW.start w w.heap.size n
    refine ⟨((Below.refl _ _).alloc (Nat.le_refl _) _).alloc (by simp) _, hr.go ((Below.refl _ _).alloc (Nat.le_refl _) _), by omega, ?_, by omega, World.ownsRow_nil _ _ _ _, fun j hj k hk => by cases hk⟩
    have := Blk.new (w.alloc (.cells (Array.replicate n (.slice none 0 0)) 36)) 4 (List.replicate n (Value.bool false))
    rw [World.size_alloc] at this
    rw [hgl, List.map_replicate]
    simpa using this
  rw [← hgl, ← hgb]
  have HS := Lib.hid hst
  have HG := Lib.hid (And.intro hgb hgl)
  clear hgb hgl hst
  generalize (w.alloc (.cells (Array.replicate n (.slice none 0 0)) 36)).alloc (.cells (Array.replicate n (.bool false)) 4) = w2 at HS ⊢
  go_loopw [6, 23] (fun vs i wr => ∃ (k : Nat) (V : Nat → Value) (back : List (List Int)) (st : List Nat) (lv : List Bool), k ≤ n ∧ i = .int .i64 k ∧ LivW w wr gb gl n V back vs st lv ∧ BackOk rows n u back k 0 ∧ Sr A st lv ∧ ShutBut back lv st (fun _ => False) ∧ (∀ j, lv.getD j false = true → j < k) ∧ (∀ j, lv.getD j false = true → j ∈ st) ∧ ∀ i, i < k → A.acc i = true → lv.getD i false = true) (fun _ i _ => n - (intOf i).toNat)
  case atStart => exact ⟨0, _, _, [], _, by omega, rfl, HS.out, BackOk.start _ _ _, by rw [← HC.out.2.1]; exact Sr.start A, fun x hx => (rep_false hx).elim, fun j hj => (rep_false hj).elim, fun j hj => (rep_false hj).elim, fun i hi => by omega⟩
  case round =>
    obtain ⟨k, V, back, st, lv, hk, rfl, hl, hb, hs, hsh, hlk, hls, hac⟩ := hrel
    have HL := Lib.hid (And.intro hl (And.intro hb (And.intro hs (And.intro hsh (And.intro hlk (And.intro hls hac))))))
    obtain ⟨A5, c5, rfl⟩ := own_sl hl.own
    clear hl hb hs hsh hlk hls hac HS
    by_cases hlt : k < n
    · obtain ⟨b0, o0, e9, hb0, hc0⟩ := H0.out.arr.one hlt
      have hw0 := HC.out.2.2.1.wid k (by rw [HC.out.2.1]; exact hlt)
      unfold RowC at hc0
      rw [hw0] at hc0
      subst e9
      have hc0 := (HL.out.1.bel.cell (p := ⟨b0, o0 + k, none⟩) hb0).trans hc0
      have HW0 := Lib.hid hw0
      clear hw0
      go_wp2_with fail
      go_loopw [30] (fun i wr => ∃ (c : Nat) (V : Nat → Value) (back : List (List Int)), c ≤ u ∧ i = .int .i64 c ∧ LivW w wr gb gl n V back (.slice A5 st.length c5) st lv ∧ BackOk rows n u back k c) (fun i _ => u - (intOf i).toNat)
      case atStart => exact ⟨0, V, back, by omega, rfl, HL.out.1, HL.out.2.1⟩
      case round =>
        obtain ⟨c, V', back', hc, rfl, hl, hb⟩ := hrel
        have HY := Lib.hid (And.intro hl hb)
        clear hl hb
        by_cases hcl : c < u
        · obtain ⟨b1, o1, hra, hb1, hc1⟩ := (H0.out.row k hlt).one (k := c) (by rw [HW0.out]; exact hcl)
          unfold NumC at hc1
          have hc1 := (HY.out.1.bel.cell (p := ⟨b1, o1 + c, none⟩) hb1).trans hc1
          have hjj : -1 ≤ (rows.getD k []).getD c 0 ∧ (rows.getD k []).getD c 0 < n := by
            obtain ⟨b, hb, hall⟩ := HC.out.2.2.1.bwd c hcl
            rw [hall k (by rw [HC.out.2.1]; exact hlt)]
            have h1 := HC.out.1.lo k b (by rw [HC.out.2.1]; exact hlt) hb
            have h2 := HC.out.1.hi k b (by rw [HC.out.2.1]; exact hlt) hb
            rw [HC.out.2.1] at h2
            exact ⟨h1, h2⟩
          obtain ⟨x, hx⟩ : ∃ x, x = (rows.getD k []).getD c 0 := ⟨_, rfl⟩
          rw [← hx] at hc1 hjj
          have HX := Lib.hid hx
          clear hx
          rw [hra]
          by_cases hx0 : x < 0
          · have d1 : decide (0 ≤ x) = false := by simp; omega
            have HN := Lib.hid hx0
            clear hx0
            go_wp2_with fail
            go_roundw
            case rel => exact ⟨c + 1, V', back', by omega, by go_num, HY.out.1, HY.out.2.skip (by rw [← HX.out]; exact HN.out)⟩
            case measure => simp [intOf]; omega
          · have d1 : decide (0 ≤ x) = true := by simp; omega
            obtain ⟨j, rfl⟩ := Int.eq_ofNat_of_zero_le (by omega : 0 ≤ x)
            have hjn : j < n := by omega
            obtain ⟨A', c', hv⟩ := own_sl (HY.out.1.rows.own j hjn)
            have hlen := HY.out.2.few j hjn
            have hvc := HY.out.1.rows.cell hjn
            have hown := HY.out.1.rows.own j hjn
            obtain ⟨li, hli⟩ : ∃ li, li = back'.getD j [] := ⟨_, rfl⟩
            rw [← hli] at hv hlen hown
            obtain ⟨m, hm⟩ : ∃ m, m = li.length := ⟨_, rfl⟩
            rw [← hm] at hv hlen hown
            rw [hv] at hvc hown
            have hw3 := HY.out.1.alloc (.cells #[.int .i64 (k : Int)] 3)
            have HZ := Lib.hid (And.intro hw3 (And.intro hv (And.intro hli hm)))
            have hown3 := own_kept hown ((Below.refl _ _).alloc (Nat.le_refl _) (.cells #[.int .i64 (k : Int)] 3))
            have y1 : (m + 1) * 8 ≤ 140737488355328 := by omega
            have y2 : m + 1 ≤ maxLen := by unfold maxLen; omega
            have y3 : ∀ v ∈ [Value.int .i64 (k : Int)], v.oneCell' = true := by intro v hv9; simp at hv9; rw [hv9]; rfl
            have y4 : w.heap.size ≤ (wr.alloc (.cells #[.int .i64 (k : Int)] 3)).heap.size := hw3.bel.size
            clear hw3 hv hli hm hown
            go_wp2_with (first | (at_builtin; refine wpList_append_lies _ rfl (.tmp 41) (.tmp 43) 36 rfl w.heap.size 3 i3 (.int .i64 0) 1 8 Try.underlying36 hi3 hz3 hsz3 hbt3 rfl (by decide) (.slice A' m c') m (numsV .i64 li) rfl hown3 ⟨_, 0, none⟩ 1 1 [.int .i64 (k : Int)] rfl rfl (World.news_of_block (heap_alloc_new _ _)) y3 (by decide) y2 y1 y4 _ rfl ?_; intro g2 cap2 w3 hown4 hg4 hat4 hlt4; have hbk4 := app_facts HZ.out.1.rows hjn (by rw [HZ.out.2.1]; exact hg4); have hfz4 := hbk4.frozen j; have hce4 := hbk4.cell j; rw [List.getElem?_map, List.getElem?_range hjn] at hce4))
            have H4 := Lib.hid (And.intro hown4 (And.intro hg4 hat4))
            clear hown4 hg4 hat4 hbk4 hlt4
            go_roundw
            case rel =>
              have hl9 : (li ++ [(k : Int)]).length = m + 1 := by rw [List.length_append, ← HZ.out.2.2.2]; rfl
              have hr9 := HZ.out.1.row hjn (l := li ++ [(k : Int)]) (v := .slice (some ⟨g2, 0, none⟩) (m + 1) cap2) (g := g2) (W' := w3) (by rw [hl9, numsV_snoc]; exact H4.out.1) rfl (by rw [HZ.out.2.1]; exact H4.out.2.1) (by
                rw [HZ.out.2.1]
                rcases H4.out.2.2 with h9 | h9
                · exact .inl h9
                · exact .inr (by rw [h9]; exact Nat.le_refl _))
              exact ⟨c + 1, _, _, by omega, by go_num, hr9, by rw [HZ.out.2.2.1]; exact HY.out.2.put HY.out.1.rows.len hjn hlt hcl HX.out.symm⟩
            case measure => simp [intOf]; omega
        · obtain rfl : c = u := by omega
          obtain ⟨b2, o2, e9, hb2, hc2⟩ := H1.out.one hlt
          subst e9
          unfold BoolC at hc2
          have hc2 := (HY.out.1.bel.cell (p := ⟨b2, o2 + k, none⟩) hb2).trans hc2
          have hacc := HC.out.2.2.2 k (by rw [HC.out.2.1]; exact hlt)
          obtain ⟨ba, hba⟩ : ∃ ba, ba = acc.getD k false := ⟨_, rfl⟩
          rw [← hba] at hc2 hacc
          have HA := Lib.hid hacc
          clear hba hacc
          cases ba with
          | false =>
            go_wp2_with fail
            go_roundw
            case rel =>
              exact ⟨k + 1, V', back', st, lv, by omega, by go_num, HY.out.1, HY.out.2.row hu2, HL.out.2.2.1, fun x hx hn => (hn (HL.out.2.2.2.2.2.1 x hx)).elim, fun j hj => by have := HL.out.2.2.2.2.1 j hj; omega, HL.out.2.2.2.2.2.1, fun i hi ha => by
                by_cases e : i = k
                · subst e; rw [HA.out] at ha; cases ha
                · exact HL.out.2.2.2.2.2.2 i (by omega) ha⟩
            case measure => simp [intOf]; omega
          | true =>
            have hlvl := HL.out.2.2.1.len
            rw [HC.out.2.1] at hlvl
            have hce := HY.out.1.cell (j := k) (by omega)
            have hfz := HY.out.1.lb.frozen k
            have hkf : lv.getD k false = false := by
              cases e : lv.getD k false
              · rfl
              · have := HL.out.2.2.2.2.1 k e; omega
            have hsr := HL.out.2.2.1.push (j := k) (by rw [HC.out.2.1]; exact hlt) (live_acc HA.out) hkf
            have hfew := HL.out.2.2.1.few
            rw [HC.out.2.1] at hfew
            have hw4 := (HY.out.1.mark k).alloc (.cells #[.int .i64 (k : Int)] 3)
            obtain ⟨sl, hsl⟩ : ∃ sl, sl = st.length := ⟨_, rfl⟩
            have hown := hw4.own
            have HP := Lib.hid (And.intro hw4 (And.intro hsr hsl))
            rw [← hsl] at hown hfew ⊢
            have y1 : (sl + 1) * 8 ≤ 140737488355328 := by omega
            have y2 : sl + 1 ≤ maxLen := by unfold maxLen; omega
            have y3 : ∀ v ∈ [Value.int .i64 (k : Int)], v.oneCell' = true := by intro v hv9; simp at hv9; rw [hv9]; rfl
            have y4 := hw4.bel.size
            have HNEW := Lib.hid (show ((wr.setCell ⟨gl, k, none⟩ (.bool true)).alloc (.cells #[.int .i64 (k : Int)] 3)).heap[wr.heap.size]? = some (.cells #[.int .i64 (k : Int)] 3 (0, 0)) from by
              have := heap_alloc_new (wr.setCell ⟨gl, k, none⟩ (.bool true)) (.cells #[.int .i64 (k : Int)] 3)
              simpa using this)
            clear hw4 hsr hsl hkf
            go_wp2_with (first | (at_builtin; refine wpList_append_lies _ rfl (.tmp 54) (.tmp 56) 36 rfl w.heap.size 3 i3 (.int .i64 0) 1 8 Try.underlying36 hi3 hz3 hsz3 hbt3 rfl (by decide) (.slice A5 sl c5) sl (natsV st) rfl hown ⟨_, 0, none⟩ 1 1 [.int .i64 (k : Int)] rfl rfl (World.news_of_block HNEW.out) y3 (by decide) y2 y1 y4 _ rfl ?_; intro g2 cap2 w3 hown4 hg4 hat4 hlt4))
            have H4 := Lib.hid (And.intro hown4 (And.intro hg4 hat4))
            clear hown4 hg4 hat4 hlt4
            go_roundw
            case rel =>
              have hp := HP.out.1.push (W' := w3) (g := g2) (v := .slice (some ⟨g2, 0, none⟩) (sl + 1) cap2) (x := k) (by rw [← HP.out.2.2]; exact H4.out.1) rfl (by rw [← HP.out.2.2]; exact H4.out.2.1) (by
                rw [← HP.out.2.2]
                rcases H4.out.2.2 with h9 | h9
                · exact .inl h9
                · exact .inr (by rw [h9]; exact Nat.le_refl _))
              refine ⟨k + 1, V', back', st ++ [k], lv.set k true, by omega, by go_num, hp, HY.out.2.row hu2, HP.out.2.1, fun x hx hn => ?_, fun j hj => ?_, fun j hj => ?_, fun i hi ha => ?_⟩
              · exfalso
                by_cases e : x = k
                · exact hn (by rw [e]; simp)
                · have hl9 : x < lv.length := Nat.lt_of_not_le fun h9 => by
                    rw [List.getD_eq_getElem?_getD, List.getElem?_eq_none (by simp; omega)] at hx
                    simp at hx
                  rw [getD_set hl9, if_neg e] at hx
                  exact hn (List.mem_append_left _ (HL.out.2.2.2.2.2.1 x hx))
              · by_cases e : j = k
                · omega
                · have hl9 : j < lv.length := Nat.lt_of_not_le fun h9 => by
                    rw [List.getD_eq_getElem?_getD, List.getElem?_eq_none (by simp; omega)] at hj
                    simp at hj
                  rw [getD_set hl9, if_neg e] at hj
                  have := HL.out.2.2.2.2.1 j hj
                  omega
              · by_cases e : j = k
                · rw [e]; simp
                · have hl9 : j < lv.length := Nat.lt_of_not_le fun h9 => by
                    rw [List.getD_eq_getElem?_getD, List.getElem?_eq_none (by simp; omega)] at hj
                    simp at hj
                  rw [getD_set hl9, if_neg e] at hj
                  exact List.mem_append_left _ (HL.out.2.2.2.2.2.1 j hj)
              · by_cases e : i = k
                · subst e; rw [getD_set (by omega), if_pos rfl]
                · exact more_set _ _ (HL.out.2.2.2.2.2.2 i (by omega) ha)
            case measure => simp [intOf]; omega
    · have hkn : k = n := by omega
      have hb9 : BackOk rows A.n u back A.n 0 := by rw [HC.out.2.1, ← hkn]; have := HL.out.2.1; rw [← hkn] at this; exact this
      have hac9 : ∀ i, i < A.n → A.acc i = true → lv.getD i false = true := fun i hi ha => HL.out.2.2.2.2.2.2 i (by rw [hkn, ← HC.out.2.1]; exact hi) ha
      have HK := Lib.hid (And.intro hkn (And.intro hb9 hac9))
      clear hkn hb9 hac9
      go_wp2_with fail
      go_loopw [6] (fun vs wr => ∃ (st : List Nat) (lv : List Bool), LivW w wr gb gl n V back vs st lv ∧ Sr A st lv ∧ ShutBut back lv st (fun _ => False) ∧ ∀ i, i < A.n → A.acc i = true → lv.getD i false = true) (fun v wr => srM gl v wr)
      case atStart => exact ⟨st, lv, HL.out.1, HL.out.2.2.1, HL.out.2.2.2.1, HK.out.2.2⟩
      case round =>
        obtain ⟨st2, lv2, hl, hs, hsh, hac⟩ := hrel
        obtain ⟨w3, rfl⟩ : ∃ w3 : World, w3 = wr := ⟨_, rfl⟩
        obtain ⟨A6, c6, rfl⟩ := own_sl hl.own
        have HM := Lib.hid (And.intro hl (And.intro hs (And.intro hsh hac)))
        clear hl hs hsh hac
        rcases List.eq_nil_or_concat st2 with rfl | ⟨st0, x, rfl⟩
        · go_wp2_with fail
          go_returns
          exact ⟨gl, lv2, rfl, HM.out.1.lb, HM.out.1.hgl, by rw [HM.out.2.1.len, HC.out.2.1], live_end HC.out.1 HC.out.2.2.1 HK.out.2.1 HM.out.2.1 HM.out.2.2.1 HM.out.2.2.2, HM.out.1.bel⟩
        · rw [List.concat_eq_append] at HM ⊢
          have hxl := HM.out.2.1.on x (by simp)
          have hxn := (HM.out.2.1.live x hxl).1
          have hxv := (HM.out.2.1.live x hxl).2
          rw [HC.out.2.1] at hxn
          have hown := HM.out.1.own
          obtain ⟨b5, cap5, hv5, _, hbl5⟩ := hown.form (by simp)
          simp only [Value.slice.injEq] at hv5
          obtain ⟨rfl, _, rfl⟩ := hv5
          have hx5 : w3.cell? ⟨b5, st0.length, none⟩ = some (.int .i64 (x : Int)) := by
            have := hown.cells (g := b5) rfl st0.length (.int .i64 (x : Int)) (by simp [natsV])
            rw [add_plain'] at this
            simpa using this
          have hcap := own_cap hown
          have hfw := HM.out.2.1.pop.few
          rw [HC.out.2.1] at hfw
          have hM := HM.out.1
          simp only [List.length_append, List.length_singleton] at hcap hM
          have hP := hM.pop
          have HSR := Lib.hid (srM_eq (A := some ⟨b5, 0, none⟩) (n := st0.length + 1) (c := c6) hM.lb)
          obtain ⟨Ab, cb, hvx⟩ := own_sl (hP.rows.own x hxn)
          have hvc := hP.rows.cell hxn
          rw [hvx] at hvc
          have hfb := HK.out.2.1.few x (by rw [HC.out.2.1]; exact hxn)
          rw [HC.out.2.1] at hfb
          obtain ⟨L, hLd⟩ : ∃ L, L = (back.getD x []).length := ⟨_, rfl⟩
          rw [← hLd] at hvx hvc hfb
          have HV := Lib.hid (And.intro hvx (And.intro hLd (And.intro hxl hxv)))
          have HP := Lib.hid hP
          have hlen1 : ((st0.length : Int) + 1 - 1) = st0.length := by omega
          have hlen0 : (0 : Int) < (st0.length : Int) + 1 := by omega
          rw [show (st0 ++ [x]).length = st0.length + 1 by simp]
          obtain ⟨sl, hsl⟩ : ∃ sl, sl = st0.length := ⟨_, rfl⟩
          rw [← hsl] at hx5 hcap hlen1 hlen0 HP HSR hfw ⊢
          have HSL := Lib.hid hsl
          clear hown hsl hM hP hbl5 hvx hLd hxl hxv
          go_wp2_with fail
          go_loopw [6, 78] (fun vs i wr => ∃ (t : Nat) (st' : List Nat) (lv' : List Bool), t ≤ L ∧ i = .int .i64 t ∧ LivW w wr gb gl n V back vs st' lv' ∧ Sr A st' lv' ∧ ShutBut back lv' st' (fun y => y = x) ∧ (∀ (t' i' : Nat), t' < t → (back.getD x []).getD t' 0 = (i' : Int) → lv'.getD i' false = true) ∧ (∀ i, i < A.n → A.acc i = true → lv'.getD i false = true) ∧ 2 * falses lv' + st'.length ≤ 2 * falses lv2 + sl) (fun _ i _ => L - (intOf i).toNat)
          case atStart => exact ⟨0, st0, lv2, by omega, rfl, HP.out, HM.out.2.1.pop, fun y hy hn he => HM.out.2.2.1 y hy (fun h9 => by
              rcases List.mem_append.1 h9 with h8 | h8
              · exact hn h8
              · simp at h8; exact he h8) (fun h9 => h9), fun t' i' h9 => by omega, HM.out.2.2.2, by rw [HSL.out]; exact Nat.le_refl _⟩
          case round =>
            obtain ⟨t, st', lv', ht, rfl, hl, hs, hsh, hsn, hac, hms⟩ := hrel
            obtain ⟨w4, rfl⟩ : ∃ w4 : World, w4 = wr := ⟨_, rfl⟩
            obtain ⟨A7, c7, rfl⟩ := own_sl hl.own
            have HN := Lib.hid (And.intro hl (And.intro hs (And.intro hsh (And.intro hsn (And.intro hac hms)))))
            clear hl hs hsh hsn hac hms
            by_cases htl : t < L
            · obtain ⟨b1, o1, e9, hb1, hc1⟩ := (HN.out.1.rows.arr hxn HV.out.1).2.one htl
              subst e9
              unfold NumC at hc1
              obtain ⟨j, hj, hjn, hjv⟩ := back_live HC.out.2.2.1 HK.out.2.1 (j := x) (by rw [HC.out.2.1]; exact hxn) HV.out.2.2.2 (x := (back.getD x []).getD t 0) (getD_memI (by rw [← HV.out.2.1]; exact htl))
              rw [hj] at hc1
              rw [HC.out.2.1] at hjn
              have hlvl := HN.out.2.1.len
              rw [HC.out.2.1] at hlvl
              have hce := HN.out.1.cell (j := j) (by omega)
              have hfz := HN.out.1.lb.frozen j
              have HJ := Lib.hid (And.intro hj hjv)
              clear hj hjv
              cases hlj : lv'.getD j false with
              | true =>
                have HLJ := Lib.hid hlj
                rw [hlj] at hce
                clear hlj
                go_wp2_with fail
                go_roundw
                case rel =>
                  refine ⟨t + 1, st', lv', by omega, by go_num, HN.out.1, HN.out.2.1, HN.out.2.2.1, fun t' i' h1 h2 => ?_, HN.out.2.2.2.2.1, HN.out.2.2.2.2.2⟩
                  by_cases e : t' = t
                  · subst e
                    rw [HJ.out.1] at h2
                    rw [show i' = j by omega]; exact HLJ.out
                  · exact HN.out.2.2.2.1 t' i' (by omega) h2
                case measure => simp [intOf]; omega
              | false =>
                rw [hlj] at hce
                have hsr := HN.out.2.1.push (j := j) (by rw [HC.out.2.1]; exact hjn) HJ.out.2 hlj
                have hfew := HN.out.2.1.few
                rw [HC.out.2.1] at hfew
                have hmx := falses_set (l := lv') (j := j) (by omega) hlj
                have hw5 := (HN.out.1.mark j).alloc (.cells #[.int .i64 (j : Int)] 3)
                obtain ⟨s2, hs2⟩ : ∃ s2, s2 = st'.length := ⟨_, rfl⟩
                have hown := hw5.own
                have HQ := Lib.hid (And.intro hw5 (And.intro hsr (And.intro hs2 hmx)))
                rw [← hs2] at hown hfew ⊢
                have y1 : (s2 + 1) * 8 ≤ 140737488355328 := by omega
                have y2 : s2 + 1 ≤ maxLen := by unfold maxLen; omega
                have y3 : ∀ v ∈ [Value.int .i64 (j : Int)], v.oneCell' = true := by intro v hv9; simp at hv9; rw [hv9]; rfl
                have y4 := hw5.bel.size
                have HNEW := Lib.hid (show ((w4.setCell ⟨gl, j, none⟩ (.bool true)).alloc (.cells #[.int .i64 (j : Int)] 3)).heap[w4.heap.size]? = some (.cells #[.int .i64 (j : Int)] 3 (0, 0)) from by
                  have := heap_alloc_new (w4.setCell ⟨gl, j, none⟩ (.bool true)) (.cells #[.int .i64 (j : Int)] 3)
                  simpa using this)
                clear hw5 hsr hs2 hlj hmx
                go_wp2_with (first | (at_builtin; refine wpList_append_lies _ rfl (.tmp 90) (.tmp 92) 36 rfl w.heap.size 3 i3 (.int .i64 0) 1 8 Try.underlying36 hi3 hz3 hsz3 hbt3 rfl (by decide) (.slice A7 s2 c7) s2 (natsV st') rfl hown ⟨_, 0, none⟩ 1 1 [.int .i64 (j : Int)] rfl rfl (World.news_of_block HNEW.out) y3 (by decide) y2 y1 y4 _ rfl ?_; intro g2 cap2 w5 hown4 hg4 hat4 hlt4))
                have H4 := Lib.hid (And.intro hown4 (And.intro hg4 hat4))
                clear hown4 hg4 hat4 hlt4
                go_roundw
                case rel =>
                  have hp := HQ.out.1.push (W' := w5) (g := g2) (v := .slice (some ⟨g2, 0, none⟩) (s2 + 1) cap2) (x := j) (by rw [← HQ.out.2.2.1]; exact H4.out.1) rfl (by rw [← HQ.out.2.2.1]; exact H4.out.2.1) (by
                    rw [← HQ.out.2.2.1]
                    rcases H4.out.2.2 with h9 | h9
                    · exact .inl h9
                    · exact .inr (by rw [h9]; exact Nat.le_refl _))
                  refine ⟨t + 1, st' ++ [j], lv'.set j true, by omega, by go_num, hp, HQ.out.2.1, HN.out.2.2.1.push, fun t' i' h1 h2 => ?_, fun i hi ha => more_set _ _ (HN.out.2.2.2.2.1 i hi ha), ?_⟩
                  · by_cases e : t' = t
                    · subst e
                      rw [HJ.out.1] at h2
                      rw [show i' = j by omega, getD_set (by omega), if_pos rfl]
                    · exact more_set _ _ (HN.out.2.2.2.1 t' i' (by omega) h2)
                  · have h1 := HN.out.2.2.2.2.2
                    have h2 := HQ.out.2.2.2
                    simp only [List.length_append, List.length_singleton]
                    omega
                case measure => simp [intOf]; omega
            · obtain rfl : t = L := by omega
              go_wp2_with fail
              go_roundw
              case rel =>
                refine ⟨st', lv', HN.out.1, HN.out.2.1, fun y hy hn _ => ?_, HN.out.2.2.2.2.1⟩
                by_cases e : y = x
                · subst e
                  intro i hi
                  obtain ⟨t', ht', he⟩ := List.getElem_of_mem hi
                  exact HN.out.2.2.2.1 t' i (by rw [HV.out.2.1]; exact ht') (by rw [List.getD_eq_getElem?_getD, List.getElem?_eq_getElem ht', he]; rfl)
                · exact HN.out.2.2.1 y hy hn e
              case measure =>
                have h1 := HN.out.2.2.2.2.2
                have h2 := HSR.out
                have h3 := srM_eq (A := A7) (n := st'.length) (c := c7) HN.out.1.lb
                rw [h2, h3]
                omega
end Go.Proofs.Ytfjhcoeehjephaa.M9
/- Whole loads and stores of structs and arrays of many cells, shut. -/
namespace Go.Proofs.Ytfjhcoeehjephaa.M9
open Go.RowKit

def loadB (t : TypeId) (v : Value) : Sem Value := Instr.loadAt t v
def storeB (t : TypeId) (p v : Value) : Sem Unit := Instr.storeAt t p v
theorem load_26 (v : Value) : Instr.loadAt 30 v = loadB 30 v := rfl
theorem load_48 (v : Value) : Instr.loadAt 104 v = loadB 104 v := rfl
theorem load_22 (v : Value) : Instr.loadAt 26 v = loadB 26 v := rfl
theorem store_26 (p v : Value) : Instr.storeAt 30 p v = storeB 30 p v := rfl
theorem store_48 (p v : Value) : Instr.storeAt 104 p v = storeB 104 p v := rfl
theorem store_22 (p v : Value) : Instr.storeAt 26 p v = storeB 26 p v := rfl
theorem info48 : (Try.prog.info? 104).map (·.size) = some 256 := by kernel_rfl
theorem loadB_run {W : World} {g o : Nat} (t : TypeId) {ls : List Value} (hr : W.rangeAt g o ls) (h : t = 30 ∨ t = 104 ∨ t = 26) (hl : ls.length = if t = 30 then 258 else 256) : (loadB t (.pointer (some ⟨g, o, none⟩))).run Try.prog W = .ok (.agg ls.toArray) W := by
  unfold loadB
  rcases h with rfl | rfl | rfl
  · rw [run_loadAt_mid W g o 30 ls _ hr Try.underlying30 rfl (by rw [hl]; exact info26)]
  · rw [run_loadAt_mid W g o 104 ls _ hr Try.underlying104 rfl (by rw [hl]; exact info48)]
  · rw [run_loadAt_mid W g o 26 ls _ hr Try.underlying26 rfl (by rw [hl]; exact info22)]
theorem Blk.range {W : World} {g : Nat} {t : TypeId} {cs : List Value} (h : Blk W g t cs) : W.rangeAt g 0 cs := fun j v hv => by rw [Nat.zero_add, h.cell]; exact hv
theorem storeB_run {W : World} {g : Nat} (t : TypeId) {cs : List Value} (hb : Blk W g t cs) (h : t = 30 ∨ t = 104 ∨ t = 26) (ds : Array Value) (hc : cs.length = if t = 30 then 258 else 256) (hd : ds.size = if t = 30 then 258 else 256) (h1 : ds.all (·.oneCell') = true) : (storeB t (.pointer (some ⟨g, 0, none⟩)) (.agg ds)).run Try.prog W = .ok () (W.setRow g ds) := by
  simp only [storeB, Instr.storeAt, Instr.sureAddr, Sem.run_bind, Sem.run_pure, Result.andThen_ok]
  rcases h with rfl | rfl | rfl
  · exact run_storeVar_row W g 30 30 _ ds hb (by rw [hd]; exact info26) (by simp [hc, hd]) h1
  · exact run_storeVar_row W g 104 104 _ ds hb (by rw [hd]; exact info48) (by simp [hc, hd]) h1
  · exact run_storeVar_row W g 26 26 _ ds hb (by rw [hd]; exact info22) (by simp [hc, hd]) h1
theorem Blk.row {W : World} {g : Nat} {t : TypeId} {cs : List Value} (h : Blk W g t cs) (ds : Array Value) : Blk (W.setRow g ds) g t ds.toList := setRow_heap W g _ _ t _ h
theorem Blk.row_other {W : World} {g g' : Nat} {t : TypeId} {cs : List Value} (h : Blk W g t cs) (ds : Array Value) (hg : g ≠ g') : Blk (W.setRow g' ds) g t cs := (setRow_other W g' g ds hg).trans h
theorem but_setRow (W : World) (g : Nat) (ds : Array Value) : But (fun k => k = g) W (W.setRow g ds) :=
  ⟨rfl, rfl, rfl, by simp [World.setRow], fun k _ hn => setRow_other W g k ds hn⟩
def zs48 : Array Value := (List.replicate 256 (Value.int .i64 0)).toArray
def zs26 : Array Value := (List.replicate 256 (Value.int .u8 0) ++ [Value.slice none 0 0, Value.slice none 0 0]).toArray
def zs22 : Array Value := (List.replicate 256 (Value.int .u8 0)).toArray
set_option maxRecDepth 100000 in
theorem zeroV48 (W : World) : (zeroValue 104).run Try.prog W = .ok (.agg zs48) W := by kernel_rfl
set_option maxRecDepth 100000 in
theorem zeroV26 (W : World) : (zeroValue 30).run Try.prog W = .ok (.agg zs26) W := by kernel_rfl
set_option maxRecDepth 100000 in
theorem zeroV22 (W : World) : (zeroValue 26).run Try.prog W = .ok (.agg zs22) W := by kernel_rfl
theorem blk_alloc (W : World) (t : TypeId) (cs : Array Value) : Blk (W.alloc (.cells cs t)) W.heap.size t cs.toList := heap_alloc_new W _
/-- rows of 256 numbers -/
def rowV (r : List Int) : List Value := (List.range 256).map (fun b => .int .i64 (r.getD b 0))
theorem rowV_len (r : List Int) : (rowV r).length = 256 := by rw [rowV, List.length_map, List.length_range]
theorem rowV_get (r : List Int) {b : Nat} (h : b < 256) : (rowV r)[b]? = some (.int .i64 (r.getD b 0)) := by
  rw [rowV, List.getElem?_map, List.getElem?_range h]; rfl
theorem rowV_one (r : List Int) : (rowV r).toArray.all (·.oneCell') = true := by
  rw [Array.all_eq_true_iff_forall_mem]
  intro x hx
  simp only [rowV, List.mem_toArray, List.mem_map] at hx
  obtain ⟨b, _, rfl⟩ := hx
  rfl
def WideC (wide : List (List Int)) : Nat → Nat → Value := fun k j => .int .i64 ((wide.getD k []).getD j 0)
theorem wide_range {W : World} {B : Nat} {A : Option Addr} {n : Nat} {wide : List (List Int)} (h : Arr W B 256 A n (WideC wide)) {k : Nat} (hk : k < n) : ∃ b off, A = some ⟨b, off, none⟩ ∧ b < B ∧ W.rangeAt b (off + k * 256) (rowV (wide.getD k [])) := by
  obtain ⟨b, off, e, hlt, hc⟩ := h (by omega)
  refine ⟨b, off, e, hlt, fun j v hv => ?_⟩
  have hj : j < 256 := by rw [← rowV_len (wide.getD k [])]; exact (List.getElem?_eq_some_iff.1 hv).1
  rw [rowV_get _ hj] at hv
  rw [show off + k * 256 + j = off + (k * 256 + j) by omega, hc k j hk hj]
  exact hv
end Go.Proofs.Ytfjhcoeehjephaa.M9
/- Classes of bytes: plain. -/
namespace Go.Proofs.Ytfjhcoeehjephaa.M9
/-- numbers that may stand in a row -/
def Nar (x : Int) : Prop := -1 ≤ x ∧ x ≤ 65000
def hiB (x : Int) : UInt8 := UInt8.ofNat ((x + 1).toNat / 256)
def loB (x : Int) : UInt8 := UInt8.ofNat ((x + 1).toNat % 256)
def colT (l : List Int) : Bs := (l.map (fun x => [hiB x, loB x])).flatten
theorem pair_inj {x y : Int} (hx : Nar x) (hy : Nar y) (h1 : hiB x = hiB y) (h2 : loB x = loB y) : x = y := by
  obtain ⟨hx1, hx2⟩ := hx
  obtain ⟨hy1, hy2⟩ := hy
  have e1 := congrArg UInt8.toNat h1
  have e2 := congrArg UInt8.toNat h2
  unfold hiB at e1
  unfold loB at e2
  rw [UInt8.toNat_ofNat', UInt8.toNat_ofNat'] at e1 e2
  omega
theorem colT_inj : ∀ {a b : List Int}, (∀ x ∈ a, Nar x) → (∀ x ∈ b, Nar x) → a.length = b.length → colT a = colT b → a = b
  | [], [], _, _, _, _ => rfl
  | [], _ :: _, _, _, h, _ => by simp at h
  | _ :: _, [], _, _, h, _ => by simp at h
  | x :: a, y :: b, ha, hb, hl, he => by
    have e : hiB x :: loB x :: colT a = hiB y :: loB y :: colT b := he
    injection e with e1 e2
    injection e2 with e2 e3
    rw [pair_inj (ha x (by simp)) (hb y (by simp)) e1 e2, colT_inj (fun z hz => ha z (by simp [hz])) (fun z hz => hb z (by simp [hz])) (by simpa using hl) e3]
theorem colT_snoc (l : List Int) (x : Int) : colT (l ++ [x]) = colT l ++ [hiB x, loB x] := by simp [colT]
theorem colT_len : ∀ (l : List Int), (colT l).length = 2 * l.length
  | [] => rfl
  | x :: l => by
    have : colT (x :: l) = hiB x :: loB x :: colT l := rfl
    rw [this, List.length_cons, List.length_cons, colT_len l, List.length_cons]; omega
/-- the texts of columns that were met -/
def texts (wide : List (List Int)) (least : List Nat) : List Bs := least.map (fun b => colT (colOf wide b))
/-- all rows are of 256 small numbers -/
def WideOk (wide : List (List Int)) : Prop := ∀ k b, Nar ((wide.getD k []).getD b 0)
theorem wide_col {wide : List (List Int)} (h : WideOk wide) (b : Nat) : ∀ x ∈ colOf wide b, Nar x := fun x hx => by
  obtain ⟨r, hr, rfl⟩ := List.mem_map.1 hx
  obtain ⟨k, hk, rfl⟩ := List.getElem_of_mem hr
  have := h k b
  rw [List.getD_eq_getElem?_getD (l := wide), List.getElem?_eq_getElem hk] at this
  exact this
theorem plc_cons {S : Type} [DecidableEq S] (a : S) (l : List S) (s : S) : plc (a :: l) s = if a = s then 0 else plc l s + 1 := by
  unfold plc
  rw [List.idxOf_cons]
  by_cases e : a = s
  · simp [e]
  · rw [if_neg e, beq_eq_false_iff_ne.2 e]; rfl
theorem find_texts {wide : List (List Int)} (h : WideOk wide) (k : Nat) : ∀ (least : List Nat), plc (texts wide least) (colT (colOf wide k)) = least.findIdx (fun l => colOf wide l == colOf wide k)
  | [] => rfl
  | l :: ls => by
    have ih := find_texts h k ls
    have e : texts wide (l :: ls) = colT (colOf wide l) :: texts wide ls := rfl
    rw [e, plc_cons, List.findIdx_cons, ih]
    by_cases e2 : colOf wide l = colOf wide k
    · rw [e2]; simp
    · have e3 : colT (colOf wide l) ≠ colT (colOf wide k) := fun h9 => e2 (colT_inj (wide_col h l) (wide_col h k) (by simp [colOf]) h9)
      have b2 : (colOf wide l == colOf wide k) = false := by simpa using e2
      rw [if_neg e3, b2]; rfl
theorem narrowK_succ (wide : List (List Int)) (k : Nat) : narrowK wide (k + 1) = ((narrowK wide k).1 ++ [(narrowK wide k).2.findIdx (fun l => colOf wide l == colOf wide k)], if (narrowK wide k).2.findIdx (fun l => colOf wide l == colOf wide k) < (narrowK wide k).2.length then (narrowK wide k).2 else (narrowK wide k).2 ++ [k]) := rfl
theorem texts_len (wide : List (List Int)) (least : List Nat) : (texts wide least).length = least.length := by simp [texts]
theorem nar_old {wide : List (List Int)} (h : WideOk wide) {k : Nat} (hm : colT (colOf wide k) ∈ texts wide (narrowK wide k).2) : narrowK wide (k + 1) = ((narrowK wide k).1 ++ [plc (texts wide (narrowK wide k).2) (colT (colOf wide k))], (narrowK wide k).2) := by
  have h1 := plc_lt hm
  rw [texts_len] at h1
  rw [narrowK_succ, ← find_texts h, if_pos h1]
theorem nar_new {wide : List (List Int)} (h : WideOk wide) {k : Nat} (hm : colT (colOf wide k) ∉ texts wide (narrowK wide k).2) : narrowK wide (k + 1) = ((narrowK wide k).1 ++ [(narrowK wide k).2.length], (narrowK wide k).2 ++ [k]) := by
  have h1 := plc_len hm
  rw [texts_len] at h1
  rw [narrowK_succ, ← find_texts h, h1, if_neg (Nat.lt_irrefl _)]
theorem texts_snoc (wide : List (List Int)) (least : List Nat) (k : Nat) : texts wide (least ++ [k]) = texts wide least ++ [colT (colOf wide k)] := by simp [texts]
theorem nar_lt (wide : List (List Int)) : ∀ k, (∀ c ∈ (narrowK wide k).1, c < 256 ∨ c < k) ∧ ∀ b ∈ (narrowK wide k).2, b < k
  | 0 => ⟨fun c hc => (by cases hc), fun b hb => (by cases hb)⟩
  | k + 1 => by
    have ih := nar_lt wide k
    have hl := (narrowK_len wide k).2
    rw [narrowK_succ]
    refine ⟨fun c hc => ?_, fun b hb => ?_⟩
    · rcases List.mem_append.1 hc with h | h
      · have := ih.1 c h; omega
      · simp at h
        have h9 : (narrowK wide k).2.findIdx (fun l => colOf wide l == colOf wide k) ≤ (narrowK wide k).2.length := List.findIdx_le_length
        right; omega
    · simp only at hb
      split at hb
      · have := ih.2 b hb; omega
      · rcases List.mem_append.1 hb with h | h
        · have := ih.2 b h; omega
        · simp at h; omega
/-- the automaton that narrowing makes -/
def narD (wide : List (List Int)) (all : List Nat) (acc : List Bool) : Dfa :=
  ⟨fun b => (narrowK wide 256).1.getD b 0, wide.map (fun r => (narrowK wide 256).2.map (fun b => r.getD b 0)), all.map (fun i => acc.getD i false)⟩
end Go.Proofs.Ytfjhcoeehjephaa.M9
/- mini.narrow: what it keeps in memory. -/
namespace Go.Proofs.Ytfjhcoeehjephaa.M9
open Go.RowKit Go.Maps Go.WideMaps

def dCells (cl : List Nat) (nx ac : Value) : List Value := (List.range 256).map (fun j => .int .u8 ((cl.getD j 0 : Nat) : Int)) ++ [nx, ac]
theorem dCells_len (cl : List Nat) (nx ac : Value) : (dCells cl nx ac).length = 258 := by rw [dCells, List.length_append, List.length_map, List.length_range]; rfl
theorem dCells_get (cl : List Nat) (nx ac : Value) {j : Nat} (h : j < 256) : (dCells cl nx ac)[j]? = some (.int .u8 ((cl.getD j 0 : Nat) : Int)) := by
  rw [dCells, List.getElem?_append_left (by rw [List.length_map, List.length_range]; exact h), List.getElem?_map, List.getElem?_range h]; rfl
theorem dCells_256 (cl : List Nat) (nx ac : Value) : (dCells cl nx ac)[256]? = some nx := by
  rw [dCells, List.getElem?_append_right (by rw [List.length_map, List.length_range]; exact Nat.le_refl _), List.length_map, List.length_range]; rfl
theorem dCells_257 (cl : List Nat) (nx ac : Value) : (dCells cl nx ac)[257]? = some ac := by
  rw [dCells, List.getElem?_append_right (by rw [List.length_map, List.length_range]; omega), List.length_map, List.length_range]; rfl
theorem dCells_ext {l : List Value} {cl : List Nat} {nx ac : Value} (hl : l.length = 258) (h1 : ∀ j, j < 256 → l[j]? = some (.int .u8 ((cl.getD j 0 : Nat) : Int))) (h2 : l[256]? = some nx) (h3 : l[257]? = some ac) : l = dCells cl nx ac := by
  apply List.ext_getElem?
  intro j
  by_cases h : j < 256
  · rw [h1 j h, dCells_get _ _ _ h]
  · by_cases e : j = 256
    · subst e; rw [h2, dCells_256]
    · by_cases e2 : j = 257
      · subst e2; rw [h3, dCells_257]
      · rw [List.getElem?_eq_none (by omega), List.getElem?_eq_none (by rw [dCells_len]; omega)]
theorem dCells_set {cl : List Nat} {nx ac : Value} {k c : Nat} (hk : k < 256) (hl : cl.length = k) : (dCells cl nx ac).set k (.int .u8 (c : Int)) = dCells (cl ++ [c]) nx ac := by
  refine dCells_ext (by rw [List.length_set, dCells_len]) (fun j hj => ?_) ?_ ?_
  · rw [List.getElem?_set, dCells_len]
    by_cases e : k = j
    · subst e
      rw [if_pos rfl, if_pos (by omega), ← hl, getD_app2]
    · rw [if_neg e, dCells_get _ _ _ hj]
      by_cases h : j < k
      · rw [getD_app1 (by omega)]
      · rw [List.getD_eq_getElem?_getD, List.getElem?_eq_none (by omega), List.getD_eq_getElem?_getD, List.getElem?_eq_none (by rw [List.length_append, List.length_singleton]; omega)]
  · rw [List.getElem?_set, if_neg (by omega), dCells_256]
  · rw [List.getElem?_set, if_neg (by omega), dCells_257]
theorem dCells_nx (cl : List Nat) (nx ac v : Value) : (dCells cl nx ac).set 256 v = dCells cl v ac := by
  refine dCells_ext (by rw [List.length_set, dCells_len]) (fun j hj => ?_) ?_ ?_
  · rw [List.getElem?_set, if_neg (by omega), dCells_get _ _ _ hj]
  · rw [List.getElem?_set, if_pos rfl, if_pos (by rw [dCells_len]; omega)]
  · rw [List.getElem?_set, if_neg (by omega), dCells_257]
theorem dCells_ac (cl : List Nat) (nx ac v : Value) : (dCells cl nx ac).set 257 v = dCells cl nx v := by
  refine dCells_ext (by rw [List.length_set, dCells_len]) (fun j hj => ?_) ?_ ?_
  · rw [List.getElem?_set, if_neg (by omega), dCells_get _ _ _ hj]
  · rw [List.getElem?_set, if_neg (by omega), dCells_256]
  · rw [List.getElem?_set, if_pos rfl, if_pos (by rw [dCells_len]; omega)]
theorem zs26_cells : zs26.toList = dCells [] (.slice none 0 0) (.slice none 0 0) := by
  have h0 : zs26.toList = List.replicate 256 (Value.int .u8 0) ++ [Value.slice none 0 0, Value.slice none 0 0] := rfl
  rw [h0]
  refine dCells_ext (by rw [List.length_append, List.length_replicate]; rfl) (fun j hj => ?_) ?_ ?_
  · rw [List.getElem?_append_left (by rw [List.length_replicate]; exact hj), List.getElem?_replicate, if_pos hj]; rfl
  · rw [List.getElem?_append_right (by rw [List.length_replicate]; exact Nat.le_refl _), List.length_replicate]; rfl
  · rw [List.getElem?_append_right (by rw [List.length_replicate]; omega), List.length_replicate]; rfl
/-- what narrowing keeps -/
structure NarW (w W : World) (gm m : Nat) (D : DataW Unit) (tx : List Bs) (vl : Value) (least cl : List Nat) (nx ac : Value) : Prop where
  bel : Below w.heap.size w W
  r6 : Blk W w.heap.size 30 zs26.toList
  box : Blk W (w.heap.size + 1) 30 (dCells cl nx ac)
  nm : W.ownsMap Try.prog 9 (plainElem Try.prog 3) gm m D
  idx : IdxD textK D tx
  size : Maps.size D = tx.length
  hgm : w.heap.size + 1 < gm
  own : W.ownsRow (w.heap.size + 1) 3 1 vl least.length (natsV least)
section
variable {w W W' : World} {gm m : Nat} {D : DataW Unit} {tx : List Bs} {vl : Value} {least cl : List Nat} {nx ac : Value} {S : Nat → Prop}
theorem NarW.ch (h : NarW w W gm m D tx vl least cl nx ac) (hb : But S W W') (h1 : ¬ S w.heap.size) (h2 : ¬ S (w.heap.size + 1)) (h3 : ¬ S gm) (h4 : ∀ k, vl.ownBlock = some k → ¬ S k) (h5 : ∀ k, k < w.heap.size → ¬ S k) : NarW w W' gm m D tx vl least cl nx ac :=
  ⟨h.bel.trans (hb.below h.bel.size (fun k hk => Nat.le_of_not_lt (fun h9 => h5 k h9 hk))), hb.blk h.r6 h1, hb.blk h.box h2, hb.maps h.nm h3, h.idx, h.size, h.hgm, hb.own h.own h4⟩
theorem NarW.go (h : NarW w W gm m D tx vl least cl nx ac) (hb : Below W.heap.size W W') : NarW w W' gm m D tx vl least cl nx ac :=
  h.ch (But.of_below hb) (by have := h.r6.lt; omega) (by have := h.box.lt; omega) (by have := h.nm.lt; omega) (fun k hk => by have := (h.own.lt k hk).2; omega) (fun k hk => by have := h.bel.size; omega)
theorem NarW.alloc (h : NarW w W gm m D tx vl least cl nx ac) (o : Obj) : NarW w (W.alloc o) gm m D tx vl least cl nx ac := h.go ((Below.refl _ _).alloc (Nat.le_refl _) _)
/-- a key more -/
theorem NarW.name (h : NarW w W gm m D tx vl least cl nx ac) {m' : Nat} {D' : DataW Unit} {tx' : List Bs} (hg : W.grownBy W' (some gm)) (hn : W'.ownsMap Try.prog 9 (plainElem Try.prog 3) gm m' D') (hi : IdxD textK D' tx') (hs : Maps.size D' = tx'.length) : NarW w W' gm m' D' tx' vl least cl nx ac :=
  have hb := But.of_grown hg
  have hgm := h.hgm
  ⟨h.bel.trans (hb.below h.bel.size (fun k hk => by injection hk with hk; omega)), hb.blk h.r6 (fun e => by injection e with e; omega), hb.blk h.box (fun e => by injection e with e; omega), hn, hi, hs, h.hgm, hb.own h.own (fun k hk e => map_own_ne h.nm h.own (by rw [hk, ← e]))⟩
/-- a byte more -/
theorem NarW.push (h : NarW w W gm m D tx vl least cl nx ac) {v : Value} {x : Nat} (hown : W'.ownsRow (w.heap.size + 1) 3 1 v (least.length + 1) (natsV least ++ [.int .i64 (x : Int)])) (hg : W.grownBy W' vl.ownBlock) : NarW w W' gm m D tx v (least ++ [x]) cl nx ac :=
  have hb := But.of_grown hg
  have hlt := fun k hk => (h.own.lt k hk).1
  ⟨h.bel.trans (hb.below h.bel.size (fun k hk => by have := hlt k hk; omega)), hb.blk h.r6 (fun e => by have := hlt _ e; omega), hb.blk h.box (fun e => blk_own_ne h.box h.own (by decide) e), hb.maps h.nm (fun e => map_own_ne h.nm h.own e), h.idx, h.size, h.hgm,
    by rw [List.length_append]; unfold natsV at hown ⊢; rw [List.map_append]; exact hown⟩
/-- a cell of the box is set -/
theorem NarW.put (h : NarW w W gm m D tx vl least cl nx ac) {j : Nat} {v : Value} {cl' : List Nat} {nx' ac' : Value} (hd : (dCells cl nx ac).set j v = dCells cl' nx' ac') : NarW w (W.setCell ⟨w.heap.size + 1, j, none⟩ v) gm m D tx vl least cl' nx' ac' :=
  have hb := but_setCell W (w.heap.size + 1) j v
  have hgm := h.hgm
  ⟨h.bel.setCell (p := ⟨w.heap.size + 1, j, none⟩) (Nat.le_succ _) _, hb.blk h.r6 (by omega), by rw [← hd]; exact h.box.set j v, hb.maps h.nm (by omega), h.idx, h.size, h.hgm, hb.own h.own (fun k hk e => blk_own_ne h.box h.own (by decide) (by rw [hk, e]))⟩
end
/-- rows and marks that are made already -/
structure NarX (w W : World) (k ka : Nat) (nx ac : Value) (RA : Nat → Option Addr) (rc : Nat → Nat) (rows : List (List Int)) (abs : List Bool) : Prop where
  len : rows.length = k
  alen : abs.length = ka
  on : W.ownsRow (w.heap.size + 1) 36 1 nx k ((List.range k).map (fun i => .slice (RA i) (rows.getD i []).length (rc i)))
  row : ∀ i, i < k → W.ownsRow (w.heap.size + 1) 3 1 (.slice (RA i) (rows.getD i []).length (rc i)) (rows.getD i []).length (numsV .i64 (rows.getD i []))
  oa : W.ownsRow (w.heap.size + 1) 4 1 ac ka (abs.map Value.bool)
section
variable {w W W' : World} {k ka : Nat} {nx ac : Value} {RA : Nat → Option Addr} {rc : Nat → Nat} {rows : List (List Int)} {abs : List Bool} {S : Nat → Prop}
theorem NarX.ch (h : NarX w W k ka nx ac RA rc rows abs) (hb : But S W W') (h1 : ∀ j, nx.ownBlock = some j → ¬ S j) (h2 : ∀ j, ac.ownBlock = some j → ¬ S j) (h3 : ∀ i, i < k → ∀ j, (Value.slice (RA i) (rows.getD i []).length (rc i)).ownBlock = some j → ¬ S j) : NarX w W' k ka nx ac RA rc rows abs :=
  ⟨h.len, h.alen, hb.own h.on h1, fun i hi => hb.own (h.row i hi) (h3 i hi), hb.own h.oa h2⟩
theorem NarX.go (h : NarX w W k ka nx ac RA rc rows abs) (hb : Below W.heap.size W W') : NarX w W' k ka nx ac RA rc rows abs :=
  h.ch (But.of_below hb) (fun j hj => by have := (h.on.lt j hj).2; omega) (fun j hj => by have := (h.oa.lt j hj).2; omega) (fun i hi j hj => by have := ((h.row i hi).lt j hj).2; omega)
/-- a cell of the box is set -/
theorem NarX.box (h : NarX w W k ka nx ac RA rc rows abs) {cs : List Value} (hb : Blk W (w.heap.size + 1) 30 cs) (j : Nat) (v : Value) : NarX w (W.setCell ⟨w.heap.size + 1, j, none⟩ v) k ka nx ac RA rc rows abs :=
  h.ch (but_setCell W _ j v) (fun i hi e => blk_own_ne hb h.on (by decide) (by rw [hi, e])) (fun i hi e => blk_own_ne hb h.oa (by decide) (by rw [hi, e])) (fun i hk j hj e => blk_own_ne hb (h.row i hk) (by decide) (by rw [hj, e]))
def updA {α : Type} (f : Nat → α) (k : Nat) (a : α) : Nat → α := fun i => if i = k then a else f i
/-- a row more -/
theorem NarX.addRow (h : NarX w W k ka nx ac RA rc rows abs) {v : Value} {A : Option Addr} {c : Nat} {l : List Int} (hl : W.ownsRow (w.heap.size + 1) 3 1 (.slice A l.length c) l.length (numsV .i64 l))
    (hown : W'.ownsRow (w.heap.size + 1) 36 1 v (k + 1) ((List.range k).map (fun i => .slice (RA i) (rows.getD i []).length (rc i)) ++ [.slice A l.length c])) (hg : W.grownBy W' nx.ownBlock) :
    NarX w W' (k + 1) ka v ac (updA RA k A) (updA rc k c) (rows ++ [l]) abs := by
  have hb := But.of_grown hg
  have e1 : ∀ i, i < k → (rows ++ [l]).getD i [] = rows.getD i [] := fun i hi => getD_app1 (by rw [h.len]; exact hi)
  have e2 : (rows ++ [l]).getD k [] = l := by rw [← h.len]; exact getD_app2
  refine ⟨by rw [List.length_append, h.len]; rfl, h.alen, ?_, fun i hi => ?_, hb.own h.oa (fun j hj e => own_own_ne h.oa h.on (by decide) j hj e)⟩
  · rw [List.range_succ, List.map_append, List.map_singleton, e2]
    unfold updA
    rw [if_pos rfl, if_pos rfl]
    have e3 : (List.range k).map (fun i => Value.slice (if i = k then A else RA i) ((rows ++ [l]).getD i []).length (if i = k then c else rc i)) = (List.range k).map (fun i => Value.slice (RA i) (rows.getD i []).length (rc i)) := by
      apply List.map_congr_left
      intro i hi
      have := List.mem_range.1 hi
      rw [if_neg (by omega), if_neg (by omega), e1 i this]
    rw [e3]; exact hown
  · unfold updA
    by_cases e : i = k
    · rw [if_pos e, if_pos e, e, e2]
      exact hb.own hl (fun j hj e9 => own_own_ne hl h.on (by decide) j hj e9)
    · rw [if_neg e, if_neg e, e1 i (by omega)]
      exact hb.own (h.row i (by omega)) (fun j hj e9 => own_own_ne (h.row i (by omega)) h.on (by decide) j hj e9)
/-- a mark more -/
theorem NarX.addMark (h : NarX w W k ka nx ac RA rc rows abs) {v : Value} {x : Bool} (hown : W'.ownsRow (w.heap.size + 1) 4 1 v (ka + 1) (abs.map Value.bool ++ [.bool x])) (hg : W.grownBy W' ac.ownBlock) : NarX w W' k (ka + 1) nx v RA rc rows (abs ++ [x]) :=
  have hb := But.of_grown hg
  ⟨h.len, by rw [List.length_append, h.alen]; rfl, hb.own h.on (fun j hj e => own_own_ne h.on h.oa (by decide) j hj e), fun i hi => hb.own (h.row i hi) (fun j hj e => own_own_ne (h.row i hi) h.oa (by decide) j hj e), by rw [List.map_append]; exact hown⟩
/-- a row of slices or marks has grown: the rest stays -/
theorem NarW.grew {gm m : Nat} {D : DataW Unit} {tx : List Bs} {vl : Value} {least cl : List Nat} (h : NarW w W gm m D tx vl least cl nx ac) {v : Value} {e : TypeId} {n : Nat} {xs : List Value} (ho : W.ownsRow (w.heap.size + 1) e 1 v n xs) (he : e ≠ 30 ∧ e ≠ 3) (hg : W.grownBy W' v.ownBlock) : NarW w W' gm m D tx vl least cl nx ac :=
  h.ch (But.of_grown hg) (fun e9 => by have := (ho.lt _ e9).1; omega) (fun e9 => blk_own_ne h.box ho (Ne.symm he.1) e9) (fun e9 => map_own_ne h.nm ho e9) (fun k hk e9 => own_own_ne h.own ho (Ne.symm he.2) k hk e9) (fun k hk e9 => by have := (ho.lt _ e9).1; omega)
end
theorem dCells_one (cl : List Nat) (Ax Ay : Option Addr) (n m cx cy : Nat) : (dCells cl (.slice Ax n cx) (.slice Ay m cy)).toArray.all (·.oneCell') = true := by
  rw [Array.all_eq_true_iff_forall_mem]
  intro x hx
  simp only [dCells, List.mem_toArray, List.mem_append, List.mem_map] at hx
  rcases hx with ⟨b, _, rfl⟩ | hx
  · rfl
  · simp at hx
    rcases hx with rfl | rfl <;> rfl
/-- what was made is an automaton -/
theorem narX_dfa {w W : World} {n cx cy : Nat} {Ax Ay : Option Addr} {RA : Nat → Option Addr} {rc : Nat → Nat} {rows : List (List Int)} {abs : List Bool} {cl : List Nat} (h : NarX w W n n (.slice Ax n cx) (.slice Ay n cy) RA rc rows abs) (hc : ∀ b, b < 256 → cl.getD b 0 < 256) (hn : n ≤ 400) (hr : ∀ i, i < n → (rows.getD i []).length ≤ 256) :
    DfaIn W (dCells cl (.slice Ax n cx) (.slice Ay n cy)).toArray Ax Ay n n cx cy ⟨fun b => cl.getD b 0, rows, abs⟩ RA rc := by
  refine ⟨⟨by rw [List.size_toArray, dCells_len], fun b hb => by rw [List.getElem?_toArray]; exact dCells_get _ _ _ hb, by rw [List.getElem?_toArray]; exact dCells_256 _ _ _, by rw [List.getElem?_toArray]; exact dCells_257 _ _ _, hc⟩, ⟨h.len, by omega, fun hp => ?_, fun i hi => own_ints (h.row i hi), fun i hi => by have := hr i hi; show (rows.getD i []).length ≤ _; omega⟩, h.alen, by omega, fun hp => ?_⟩
  · obtain ⟨b, o, e, hlt, hcell⟩ := Arr.of_own h.on hp
    refine ⟨b, o, e, hlt, fun i j hi hj => ?_⟩
    have e5 : ((List.range n).map (fun i => Value.slice (RA i) (rows.getD i []).length (rc i))).getD i undef = .slice (RA i) (rows.getD i []).length (rc i) := by
      rw [List.getD_eq_getElem?_getD, List.getElem?_map, List.getElem?_range hi]; rfl
    rw [hcell i j hi hj]
    exact congrArg some e5
  · obtain ⟨b, o, e, hlt, hcell⟩ := Arr.of_own h.oa hp
    refine ⟨b, o, e, hlt, fun i j hi hj => ?_⟩
    have hl : i < abs.length := by rw [h.alen]; exact hi
    rw [hcell i j hi hj]
    simp [BoolC, hl]
end Go.Proofs.Ytfjhcoeehjephaa.M9
