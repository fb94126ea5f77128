/- nfa.Build. -/
import Derived.Test.YtfjgfabochiflaaMkTc
import Derived.Test.YtfjgfabochiflaaNodesTc
import Derived.Test.YtfjgfabochiflaaNfaTc
import Derived.Test.YtfjgfabochiflaaEnMemTc
import Derived.StillTailTactics
import Derived.Laws.ResultCell
import Derived.Laws.Rows
namespace Go.Proofs.Ytfjgfabochiflaa
open Go.RowKit
attribute [local go_sem ↓] Go.wp_at_zero Go.wp_at_succ

theorem wrong_shp {t : Tr} (h : wrongT t = 0) : Shp t ∧ t.height ≤ 30 ∧ t.nodes ≤ 512 := by
  unfold wrongT at h
  by_cases h1 : 30 < t.height ∨ 512 < t.nodes
  · rw [if_pos h1] at h; omega
  · rw [if_neg h1] at h
    by_cases h2 : shp t = true
    · exact ⟨by unfold shp at h2; simpa using h2, by omega, by omega⟩
    · rw [if_neg h2] at h; omega
/-- what Build made -/
structure Made (t : Tr) (S : Nat) (E : List Ed) : Prop where
  grew : Grew t 0 1 2 [] S E false
  right : RightN ⟨(S : Int), 0, 1, E⟩
/-- what Build says -/
def BuildSays (t : Tr) (e : Ending) (W' : World) : Prop :=
  (wrongT t ≠ 0 ∧ e = .returned (.tuple #[.agg #[.int .i64 0, .int .i64 0, .int .i64 0, .slice none 0 0], .int .i64 (wrongT t)])) ∨
  (wrongT t = 0 ∧ 1000 < t.size ∧ e = .returned (.tuple #[.agg #[.int .i64 0, .int .i64 0, .int .i64 0, .slice none 0 0], .int .i64 80])) ∨
  (wrongT t = 0 ∧ ∃ S E A c, Made t S E ∧ e = .returned (.tuple #[.agg #[.int .i64 (S : Int), .int .i64 0, .int .i64 1, .slice A E.length c], .int .i64 0]) ∧ NfaIn W' A E.length ⟨(S : Int), 0, 1, E⟩)
/-- what is made may be, but for the count of its edges -/
theorem made_right {t : Tr} {S : Nat} {E : List Ed} (h : Grew t 0 1 2 [] S E false) : RightN ⟨(S : Int), 0, 1, E⟩ ∨ 1000 < t.size := by
  have h1 := h.lo
  have h2 := h.hi
  have h3 := h.room rfl
  by_cases hf : E.length ≤ 16000
  · left
    refine ⟨by simp; omega, by simp; omega, by simp, by simp; omega, by simp, by simp; omega, hf, ?_⟩
    rintro ⟨i, hi, hbad⟩
    obtain ⟨N, hN, _, hF⟩ := h.good rfl
    rw [List.nil_append] at hN
    rw [← hN] at hF
    have hi : i < E.length := hi
    have hm : E.getD i noEd ∈ E := getD_mem hi
    have hs := (hF ⟨#[]⟩).src _ hm
    have hd := (hF ⟨#[]⟩).dst _ hm
    unfold BadE at hbad
    dsimp only at hbad
    unfold Own at hs hd
    omega
  · right
    simp only [List.length_nil] at h3
    omega
theorem made_full {t : Tr} {S : Nat} {E : List Ed} (h : Grew t 0 1 2 [] S E true) : 1000 < t.size := by
  have := (h.full rfl).2
  omega

theorem results_cell_row2 {fn : Func} {p u : Tmp} {ty : TypeId} (h : fn.results = #[.cell p ty, .tmp u]) (tmps : Array Value) (w : World) (g : Nat) (cs : Array Value)
    (hp : tmps.getD p undef = .pointer (some ⟨g, 0, none⟩)) (hl : (loadVar ty ⟨g, 0, none⟩).run Try.prog w = .ok (.agg cs) w) :
    (results fn tmps).run Try.prog w = .ok (.tuple #[.agg cs, tmps.getD u undef]) w := by
  rw [results_cell_tmp h, hp]
  simp [asAddr, Result.andThen, hl]
theorem info31 : (Try.prog.info? 118).map (·.size) = some 4 := by kernel_rfl
theorem load31 {W : World} {g : Nat} {a b c d : Value} (h : Blk W g 118 [a, b, c, d]) : (loadVar 118 ⟨g, 0, none⟩).run Try.prog W = .ok (.agg #[a, b, c, d]) W :=
  run_loadVar_row _ g 118 118 #[a, b, c, d] (0, 0) _ h Try.underlying118 rfl info31
theorem Blk.set4 {W : World} {g t : Nat} {x0 x1 x2 x3 : Value} (h : Blk W g t [x0, x1, x2, x3]) (a b c d : Value) :
    Blk ((((W.setCell ⟨g, 0, none⟩ a).setCell ⟨g, 1, none⟩ b).setCell ⟨g, 2, none⟩ c).setCell ⟨g, 3, none⟩ d) g t [a, b, c, d] := (((h.set 0 a).set 1 b).set 2 c).set 3 d
theorem below_set4 {B : Nat} {w0 W : World} {g : Nat} (h : Below B w0 W) (hg : B ≤ g) (a b c d : Value) :
    Below B w0 ((((W.setCell ⟨g, 0, none⟩ a).setCell ⟨g, 1, none⟩ b).setCell ⟨g, 2, none⟩ c).setCell ⟨g, 3, none⟩ d) :=
  (((h.setCell (p := ⟨g, 0, none⟩) hg a).setCell (p := ⟨g, 1, none⟩) hg b).setCell (p := ⟨g, 2, none⟩) hg c).setCell (p := ⟨g, 3, none⟩) hg d

theorem NfaIn.set4 {W : World} {A : Option Addr} {n : Nat} {N : Nfa} (h : NfaIn W A n N) {g : Nat} (hA : ∀ x, A = some x → x.block ≠ g) (a b c d : Value) :
    NfaIn ((((W.setCell ⟨g, 0, none⟩ a).setCell ⟨g, 1, none⟩ b).setCell ⟨g, 2, none⟩ c).setCell ⟨g, 3, none⟩ d) A n N := by
  refine ⟨h.len, h.le, ?_⟩
  have h2 := h.arr.keepB (w' := (((W.setCell ⟨g, 0, none⟩ a).setCell ⟨g, 1, none⟩ b).setCell ⟨g, 2, none⟩ c).setCell ⟨g, 3, none⟩ d) (fun x hx _ => by
    have := hA x hx
    rw [Below.heap_setCell _ _ _ _ this, Below.heap_setCell _ _ _ _ this, Below.heap_setCell _ _ _ _ this, Below.heap_setCell _ _ _ _ this])
  refine h2.more ?_
  simp

set_option maxRecDepth 100000 in
set_option maxHeartbeats 16000000 in
theorem build_any (t : Tr) (A : Option Addr) (n c : Nat) (w : World) (h : TrIn w t A n) (hw : TrWf t) :
    Calls Try.prog 59 #[.agg #[.int .i64 t.kind, .int .u64 t.s0, .int .u64 t.s1, .int .u64 t.s2, .int .u64 t.s3, .int .i64 t.lo, .int .i64 t.hi, .slice A n c]] w fun e W' => BuildSays t e W' ∧ Below w.heap.size w W' := by
  obtain ⟨W1, hW1⟩ : ∃ W1, W1 = (w.alloc (tbox t A n c)).alloc (.cells #[.int .i64 0, .int .i64 0, .int .i64 0, .slice none 0 0] 118) := ⟨_, rfl⟩
  have hb1 : Below w.heap.size w W1 := by rw [hW1]; exact ((Below.refl _ _).alloc (Nat.le_refl _) _).alloc (by simp) _
  have hs1 : W1.heap.size = w.heap.size + 2 := by rw [hW1]; simp
  have q0 : ∀ j, W1.cell? ⟨w.heap.size, j, none⟩ = _ := fun j => by
    rw [hW1, World.cell?_alloc_lt _ _ _ (by simp)]
  have hres : Blk W1 (w.heap.size + 1) 118 [.int .i64 0, .int .i64 0, .int .i64 0, .slice none 0 0] := by
    have := Blk.new (w.alloc (tbox t A n c)) 118 [.int .i64 0, .int .i64 0, .int .i64 0, .slice none 0 0]
    rw [World.size_alloc] at this
    rw [hW1]; exact this
  have a0 := q0 0
  have a1 := q0 1
  have a2 := q0 2
  have a3 := q0 3
  have a4 := q0 4
  have a5 := q0 5
  have a6 := q0 6
  have a7 := q0 7
  simp at a0 a1 a2 a3 a4 a5 a6 a7
  obtain ⟨xr, hxr⟩ : ∃ xr, xr = wrongT t := ⟨_, rfl⟩
  have hxw := xright_any t A n c W1 (h.keep hb1)
  rw [← hxr] at hxw
  have HXR := Lib.hid hxw
  have HX := Lib.hid hxr
  have HB1 := Lib.hid hb1
  have HW1 := Lib.hid hW1
  have HT := Lib.hid (And.intro h hw)
  have HR := Lib.hid hres
  have HQ := Lib.hid q0
  clear h hb1 hres q0 hw hxr hxw
  go_enter Try.func59, Try.ntmps59
  go_upto_region 1 with (fail)
  rw [← HW1.out]
  clear HW1 hW1
  by_cases hx0 : xr = 0
  · subst hx0
    go_upto_region 4 with (go_at_call 65; refine HXR.out.mono ?_; rintro e w2 ⟨rfl, hb2⟩; have HB2 := Lib.hid hb2; clear hb2)
    clear a0 a1 a2 a3 a4 a5 a6 a7
    have hq2 : ∀ j, w2.cell? ⟨w.heap.size, j, none⟩ = _ := fun j => (HB2.out.cell (p := ⟨w.heap.size, j, none⟩) (by simp; omega)).trans (HQ.out j)
    have HQ2 := Lib.hid hq2
    have hm0 : MI w2 w2.heap.size 0 0 0 [] false (.slice none 0 0) (w2.alloc (.cells #[.int .i64 0, .int .i64 0, .int .i64 0, .slice none 0 0, .bool false] 156)) :=
      ⟨Blk.new w2 156 [.int .i64 0, .int .i64 0, .int .i64 0, .slice none 0 0, .bool false], ⟨by simp [edsV], .inl ⟨rfl, rfl⟩⟩, (Below.refl _ _).alloc (Nat.le_refl _) _, Nat.le_refl _⟩
    have HM0 := Lib.hid hm0
    clear hm0 hq2
    go_upto_region 5 with fail
    generalize hwm : w2.alloc (.cells #[.int .i64 0, .int .i64 0, .int .i64 0, .slice none 0 0, .bool false] 156) = wm at HM0 ⊢
    have hwt0 : Went w2.heap.size (.slice none 0 0) (.slice none 0 0) w2 wm := by rw [← hwm]; exact Went.alloc _ _
    have HWT0 := Lib.hid hwt0
    clear hwt0 hwm
    go_upto_region 7 with (first
      | (go_at_call 88; refine (state_any w2 w2.heap.size 1 0 0 [] (.slice none 0 0) _ false HM3.out (by omega)).mono ?_; rintro e w4 ⟨rfl, hm4, ht4⟩; have f2 := hm4.blk.frozen 2; have d2 := hm4.blk.cell 2; simp only [List.getElem?_cons_zero, List.getElem?_cons_succ] at d2; have HM4 := Lib.hid (MI.set hm4 2 (.int .i64 1) 2 0 1 false rfl); have HT4 := Lib.hid (HT3.out.trans ht4); clear hm4 ht4)
      | (go_at_call 88; refine (state_any w2 w2.heap.size 0 0 0 [] (.slice none 0 0) _ false HM0.out (by omega)).mono ?_; rintro e w3 ⟨rfl, hm3, ht3⟩; have f1 := hm3.blk.frozen 1; have d1 := hm3.blk.cell 1; simp only [List.getElem?_cons_zero, List.getElem?_cons_succ] at d1; have HM3 := Lib.hid (MI.set hm3 1 (.int .i64 0) 1 0 0 false rfl).1; have HT3 := Lib.hid ((HWT0.out.trans ht3).trans (MI.set hm3 1 (.int .i64 0) 1 0 0 false rfl).2); clear hm3 ht3))
    have hm7 := HM4.out.1
    have ht7 := HT4.out.trans HM4.out.2
    have b0 := fun j => (ht7.cell (g := w.heap.size) (j := j) (by have := HB2.out.size; omega) (by have := HB2.out.size; omega) (by simp [Value.ownBlock])).trans (HQ2.out j)
    obtain ⟨w7, hw7⟩ : ∃ w7, w7 = w4.setCell ⟨w2.heap.size, 2, none⟩ (.int .i64 1) := ⟨_, rfl⟩
    rw [← hw7] at hm7 ht7 b0 ⊢
    clear hw7 HM4 HT4 HM3 HT3 HM0 HWT0 f1 f2 d1 d2
    have a0 := b0 0
    have a1 := b0 1
    have a2 := b0 2
    have a3 := b0 3
    have a4 := b0 4
    have a5 := b0 5
    have a6 := b0 6
    have a7 := b0 7
    have m1 := hm7.blk.cell 1
    have m2 := hm7.blk.cell 2
    simp at a0 a1 a2 a3 a4 a5 a6 a7 m1 m2
    have HSH := Lib.hid (wrong_shp HX.out.symm)
    have HPA := Lib.hid (part_any t w2 w2.heap.size 2 0 1 [] (.slice none 0 0) w7.drew 0 1 A n c hm7.drew ((HT.out.1.keep HB1.out).keep HB2.out) HSH.out.1 HT.out.2 (by omega) (by omega) (by omega) (by omega) (by
      have h9 : t.nodes * (2001 - 2) ≤ 512 * (2001 - 2) := Nat.mul_le_mul_right _ HSH.out.2.2
      simp only [List.length_nil]
      omega))
    have HT7 := Lib.hid ht7
    clear b0 hm7 ht7
    go_still_tail 12, (by kernel_rfl)
    rw [show ({ heap := w7.heap, tape := w7.tape, drawn := w7.drawn + 1, os := w7.os, output := w7.output } : World) = w7.drew from rfl]
    go_upto_region 8 with (go_at_call 89; refine HPA.out.mono ?_; rintro e w8 ⟨rfl, S', E', b, v', hg8, hm8, ht8⟩; have HG8 := Lib.hid hg8; have HM8 := Lib.hid hm8; have HT8 := Lib.hid (HT7.out.drew.trans ht8); have m4 := hm8.blk.cell 4; have m0 := hm8.blk.cell 0; have m1 := hm8.blk.cell 1; have m2 := hm8.blk.cell 2; have m3 := hm8.blk.cell 3; simp at m0 m1 m2 m3 m4; clear hg8 hm8 ht8)
    have hr8 := ((HR.out.below HB2.out (by omega)).below HM8.out.bel (by have := HB2.out.size; omega))
    have x0 := hr8.cell 0
    have x1 := hr8.cell 1
    have x2 := hr8.cell 2
    have x3 := hr8.cell 3
    have y0 := hr8.frozen 0
    have y1 := hr8.frozen 1
    have y2 := hr8.frozen 2
    have y3 := hr8.frozen 3
    simp at x0 x1 x2 x3
    have HR8 := Lib.hid hr8
    have HB8 := Lib.hid (HB1.out.trans ((HB2.out.trans (HM8.out.bel.mono HB2.out.size)).mono HB1.out.size))
    clear hr8 a0 a1 a2 a3 a4 a5 a6 a7
    cases b
    · obtain ⟨A', c', rfl⟩ := HM8.out.form
      have hnf : NfaIn w8 A' E'.length ⟨(S' : Int), 0, 1, E'⟩ := ⟨rfl, by
        have h1 := HG8.out.few
        have h2 := HG8.out.hi
        have h9 : t.nodes * (1 + (S' - 2)) ≤ 512 * (1 + (S' - 2)) := Nat.mul_le_mul_right _ HSH.out.2.2
        simp only [List.length_nil] at h1
        omega, own_eds HM8.out.own⟩
      have HRI := Lib.hid (nright_any A' E'.length c' S' 0 1 E' w8 hnf)
      have HNF := Lib.hid hnf
      clear hnf
      obtain ⟨bq, hbq⟩ : ∃ bq, bq = rightN ⟨(S' : Int), 0, 1, E'⟩ := ⟨_, rfl⟩
      rw [← hbq] at HRI
      have HBQ := Lib.hid hbq
      clear hbq
      cases bq
      · go_wp2_with (go_at_call 90; refine HRI.out.mono ?_; rintro e w9 ⟨rfl, hb9⟩; have hr9 := HR8.out.below hb9 (by have := HM8.out.bel.size; have := HB2.out.size; omega); have x0 := hr9.cell 0; have x1 := hr9.cell 1; have x2 := hr9.cell 2; have x3 := hr9.cell 3; have y0 := hr9.frozen 0; have y1 := hr9.frozen 1; have y2 := hr9.frozen 2; have y3 := hr9.frozen 3; simp at x0 x1 x2 x3; have HB9 := Lib.hid (HB8.out.trans (hb9.mono HB8.out.size)); have HR9 := Lib.hid hr9; clear hb9 hr9)
        (try simp only [Exit.inBlock, Exit.then])
        refine bodyPost_ret (results_cell_row2 rfl _ _ (w.heap.size + 1) _ rfl (load31 (HR9.out.set4 _ _ _ _))) rfl ?_
        refine ⟨.inr (.inl ⟨HX.out.symm, ?_, rfl⟩), below_set4 HB9.out (by omega) _ _ _ _⟩
        rcases made_right HG8.out with h9 | h9
        · rw [rightN_yes h9] at HBQ
          exact absurd HBQ.out (by decide)
        · exact h9
      · go_wp2_with (go_at_call 90; refine HRI.out.mono ?_; rintro e w9 ⟨rfl, hb9⟩; have hr9 := HR8.out.below hb9 (by have := HM8.out.bel.size; have := HB2.out.size; omega); have x0 := hr9.cell 0; have x1 := hr9.cell 1; have x2 := hr9.cell 2; have x3 := hr9.cell 3; have y0 := hr9.frozen 0; have y1 := hr9.frozen 1; have y2 := hr9.frozen 2; have y3 := hr9.frozen 3; have hm9 := HM8.out.blk.below hb9 HM8.out.lt; have z0 := hm9.cell 0; have z1 := hm9.cell 1; have z2 := hm9.cell 2; have z3 := hm9.cell 3; simp at x0 x1 x2 x3 z0 z1 z2 z3; have HB9 := Lib.hid (HB8.out.trans (hb9.mono HB8.out.size)); have HN9 := Lib.hid (HNF.out.keep hb9); have HR9 := Lib.hid hr9; clear hb9 hr9 hm9)
        (try simp only [Exit.inBlock, Exit.then])
        refine bodyPost_ret (results_cell_row2 rfl _ _ (w.heap.size + 1) _ rfl (load31 (HR9.out.set4 _ _ _ _))) rfl ?_
        refine ⟨.inr (.inr ⟨HX.out.symm, S', E', A', c', ⟨HG8.out, ?_⟩, rfl, ?_⟩), below_set4 HB9.out (by omega) _ _ _ _⟩
        · rcases Classical.em (RightN ⟨(S' : Int), 0, 1, E'⟩) with h9 | h9
          · exact h9
          · rw [rightN_no h9] at HBQ
            exact absurd HBQ.out (by decide)
        · exact HN9.out.set4 (fun x hx => by have := (HM8.out.own.lt x.block (by rw [hx]; rfl)).1; have := HB2.out.size; omega) _ _ _ _
    · go_wp2_with fail
      (try simp only [Exit.inBlock, Exit.then])
      refine bodyPost_ret (results_cell_row2 rfl _ _ (w.heap.size + 1) _ rfl (load31 (HR8.out.set4 _ _ _ _))) rfl ?_
      exact ⟨.inr (.inl ⟨HX.out.symm, made_full HG8.out, rfl⟩), below_set4 HB8.out (by omega) _ _ _ _⟩
  · have e9 : (xr != 0) = true := by simpa using hx0
    have e9' : (xr == 0) = false := by simpa using hx0
    go_upto_region 3 with (go_at_call 65; refine HXR.out.mono ?_; rintro e w2 ⟨rfl, hb2⟩; have hr2 := HR.out.below hb2 (by omega); have x0 := hr2.cell 0; have x1 := hr2.cell 1; have x2 := hr2.cell 2; have x3 := hr2.cell 3; have y0 := hr2.frozen 0; have y1 := hr2.frozen 1; have y2 := hr2.frozen 2; have y3 := hr2.frozen 3; simp at x0 x1 x2 x3; have HR2 := Lib.hid hr2; have HB2 := Lib.hid (HB1.out.trans (hb2.mono HB1.out.size)); clear hb2 hr2)
    go_wp2_with fail
    (try simp only [Exit.inBlock, Exit.then])
    refine bodyPost_ret (results_cell_row2 rfl _ _ (w.heap.size + 1) _ rfl (load31 (HR2.out.set4 _ _ _ _))) rfl ?_
    exact ⟨.inl ⟨by rw [← HX.out]; exact hx0, by rw [← HX.out]; rfl⟩, below_set4 HB2.out (by omega) _ _ _ _⟩
end Go.Proofs.Ytfjgfabochiflaa
