/- MiniOne's closures: build, same. -/
import Derived.Test.YtfjhcoeehjephaaMoLMe
import Derived.Test.YtfjhcoeehjephaaLA8Me
namespace Go.Proofs.Ytfjhcoeehjephaa
open Go.RowKit
attribute [local go_sem ↓] Go.wp_at_zero Go.wp_at_succ
attribute [local go_sem ↓] load_dfa store_dfa build_dfa

theorem store_cells {w4 : World} {ds : Array Value} {B1 B2 : Option Addr} {n1 n2 c1 c2 : Nat} {cls : Nat → Nat} {g : Nat} {cs : List Value} (hc : Cells ds B1 B2 n1 n2 c1 c2 cls) (hb : Blk w4 g 30 cs) (hl : cs.length = 258) : (storeD (.pointer (some ⟨g, 0, none⟩)) (.agg ds)).run Try.prog w4 = .ok () (w4.setRow g ds) := by
  have := store30 hb hl ds.toList (by rw [Array.length_toList]; exact hc.size) (by rw [Array.toArray_toList]; exact cells_one hc)
  rw [Array.toArray_toList] at this
  exact this
theorem load_cells {w : World} {ds : Array Value} {g : Nat} (h : Blk w g 30 ds.toList) (hs : ds.size = 258) : (loadD (.pointer (some ⟨g, 0, none⟩))).run Try.prog w = .ok (.agg ds) w := by
  have := load30 h (by rw [Array.length_toList]; exact hs)
  rw [Array.toArray_toList] at this
  exact this
theorem but_two {B w : World} {ds : Array Value} {g : Nat} (hg : g < B.heap.size) : M9.But (fun k => k < B.heap.size) w (((w.alloc (.cells zs30 30)).setRow w.heap.size ds).setRow g ds) := by
  have hbA : Below w.heap.size w ((w.alloc (.cells zs30 30)).setRow w.heap.size ds) := below_setRow ((Below.refl _ _).alloc (Nat.le_refl _) _) (Nat.le_refl _) _
  refine ⟨hbA.os, hbA.tape, hbA.output, ?_, fun k hk hn => ?_⟩
  · simp [World.setRow]
  · rw [setRow_other _ _ _ _ (fun e => hn (by subst e; exact hg))]
    exact hbA.block k hk
/-- what 'build' says -/
def CloSays (t : Tr) (w' : World) (e : Ending) : Prop := e = .returned (.tuple #[.agg zs30, .bool false]) ∨
  ∃ (ds : Array Value) (A1 A2 : Option Addr) (k c1 c2 : Nat) (M D : Dfa) (RA : Nat → Option Addr) (rc : Nat → Nat), e = .returned (.tuple #[.agg ds, .bool true]) ∧ DfaIn w' ds A1 A2 k k c1 c2 M RA rc ∧ RightD D ∧ M9.LeastOf D M ∧ Takes D t

set_option maxRecDepth 100000 in
set_option maxHeartbeats 16000000 in
theorem clo_any (kd lo hi : Int) (kids : List Tr) (A : Option Addr) (n c : Nat) (w : World) (ht : TrIn w (nodT kd lo hi kids) A n) (hwf : TrWf (nodT kd lo hi kids)) :
    Calls Try.prog 27 #[.int .i64 kd, .int .i64 lo, .int .i64 hi, .slice A n c] w fun e w' => CloSays (nodT kd lo hi kids) w' e ∧ Below w.heap.size w w' := by
  have hzV := zeroV30
  have hbd := buildD_nil
  have hb0 : Below w.heap.size w (w.alloc (.cells zs30 30)) := (Below.refl _ _).alloc (Nat.le_refl _) _
  have hr0 := new30 w
  have HBU := Lib.hid (build_any (nodT kd lo hi kids) A n c (w.alloc (.cells zs30 30)) (ht.keep hb0) hwf)
  have HB0 := Lib.hid hb0
  have HR0 := Lib.hid hr0
  clear ht hwf hb0 hr0
  go_enter Try.func27, Try.ntmps27
  go_wp2_with fail
  refine HBU.out.mono ?_
  rintro e w2 ⟨hsay, hb2⟩
  have HR2 := Lib.hid (HR0.out.below hb2 HR0.out.lt)
  have HB2 := Lib.hid (HB0.out.trans (hb2.mono HB0.out.size))
  clear hb2
  rcases hsay with ⟨hw, rfl⟩ | ⟨hw, hsz, rfl⟩ | ⟨hw, S, E, A2, c2, hmade, rfl, hnfa⟩
  · obtain ⟨xr, hxr⟩ : ∃ xr, xr = wrongT (nodT kd lo hi kids) := ⟨_, rfl⟩
    rw [← hxr] at hw ⊢
    have e1 : (xr != 0) = true := by simpa using hw
    have hr3 := HR2.out.alloc (.cells #[.int .i64 0, .int .i64 0, .int .i64 0, .slice none 0 0] 24)
    have hst : (storeD (.pointer (some ⟨w.heap.size, 0, none⟩)) (.agg zs30)).run Try.prog (w2.alloc (.cells #[.int .i64 0, .int .i64 0, .int .i64 0, .slice none 0 0] 24)) = .ok () ((w2.alloc (.cells #[.int .i64 0, .int .i64 0, .int .i64 0, .slice none 0 0] 24)).setRow w.heap.size zs30) := store30 hr3 (dV_len _ _ _) (dV (fun _ => 0) (.slice none 0 0) (.slice none 0 0)) (dV_len _ _ _) (dV_one _ _ _ _ _ _ _)
    have HR3 := Lib.hid (hr3.row zs30)
    have HBW := Lib.hid (below_setRow (g := w.heap.size) (HB2.out.alloc HB2.out.size (.cells #[.int .i64 0, .int .i64 0, .int .i64 0, .slice none 0 0] 24)) (Nat.le_refl _) zs30)
    clear hxr hw hr3
    go_wp2_with fail
    (try simp only [Exit.inBlock, Exit.then])
    refine bodyPost_ret (res30 rfl rfl rfl HR3.out (dV_len _ _ _)) rfl ?_
    exact ⟨.inl rfl, HBW.out⟩
  · have hr3 := HR2.out.alloc (.cells #[.int .i64 0, .int .i64 0, .int .i64 0, .slice none 0 0] 24)
    have hst : (storeD (.pointer (some ⟨w.heap.size, 0, none⟩)) (.agg zs30)).run Try.prog (w2.alloc (.cells #[.int .i64 0, .int .i64 0, .int .i64 0, .slice none 0 0] 24)) = .ok () ((w2.alloc (.cells #[.int .i64 0, .int .i64 0, .int .i64 0, .slice none 0 0] 24)).setRow w.heap.size zs30) := store30 hr3 (dV_len _ _ _) (dV (fun _ => 0) (.slice none 0 0) (.slice none 0 0)) (dV_len _ _ _) (dV_one _ _ _ _ _ _ _)
    have HR3 := Lib.hid (hr3.row zs30)
    have HBW := Lib.hid (below_setRow (g := w.heap.size) (HB2.out.alloc HB2.out.size (.cells #[.int .i64 0, .int .i64 0, .int .i64 0, .slice none 0 0] 24)) (Nat.le_refl _) zs30)
    clear hw hsz hr3
    go_wp2_with fail
    (try simp only [Exit.inBlock, Exit.then])
    refine bodyPost_ret (res30 rfl rfl rfl HR3.out (dV_len _ _ _)) rfl ?_
    exact ⟨.inl rfl, HBW.out⟩
  · obtain ⟨m, hm⟩ : ∃ m, m = E.length := ⟨_, rfl⟩
    rw [← hm] at hnfa ⊢
    have hx3 := Blk.new w2 24 [.int .i64 (S : Int), .int .i64 0, .int .i64 1, .slice A2 m c2]
    have hr3 := HR2.out.alloc (.cells #[.int .i64 (S : Int), .int .i64 0, .int .i64 1, .slice A2 m c2] 24)
    have hb3 := HB2.out.alloc HB2.out.size (.cells #[.int .i64 (S : Int), .int .i64 0, .int .i64 1, .slice A2 m c2] 24)
    have hnf3 := hnfa.keep ((Below.refl w2.heap.size w2).alloc (Nat.le_refl _) (.cells #[.int .i64 (S : Int), .int .i64 0, .int .i64 1, .slice A2 m c2] 24))
    have hWE := hmade.wf
    have HBD := Lib.hid (build_d A2 m c2 S 0 1 E _ hnf3 hmade.right (fun e he => hWE e he))
    have HMD := Lib.hid hmade
    have r0 := hx3.cell 0
    have r1 := hx3.cell 1
    have r2 := hx3.cell 2
    have r3 := hx3.cell 3
    simp only [List.getElem?_cons_zero, List.getElem?_cons_succ] at r0 r1 r2 r3
    have HR3 := Lib.hid hr3
    have HB3 := Lib.hid hb3
    have hst3 : (storeD (.pointer (some ⟨w.heap.size, 0, none⟩)) (.agg zs30)).run Try.prog (w2.alloc (.cells #[.int .i64 (S : Int), .int .i64 0, .int .i64 1, .slice A2 m c2] 24)) = .ok () ((w2.alloc (.cells #[.int .i64 (S : Int), .int .i64 0, .int .i64 1, .slice A2 m c2] 24)).setRow w.heap.size zs30) := store30 hr3 (dV_len _ _ _) (dV (fun _ => 0) (.slice none 0 0) (.slice none 0 0)) (dV_len _ _ _) (dV_one _ _ _ _ _ _ _)
    clear hm hw hmade hnfa hnf3 hWE hx3 hr3 hb3
    by_cases hbig : 300 < S
    · have d3 : decide (300 < (S : Int)) = true := by simp; omega
      have HR4 := Lib.hid (HR3.out.row zs30)
      have HBW := Lib.hid (below_setRow (g := w.heap.size) HB3.out (Nat.le_refl _) zs30)
      clear hbig
      go_wp2_with fail
      (try simp only [Exit.inBlock, Exit.then])
      refine bodyPost_ret (res30 rfl rfl rfl HR4.out (dV_len _ _ _)) rfl ?_
      exact ⟨.inl rfl, HBW.out⟩
    · have d3 : decide (300 < (S : Int)) = false := by simp; omega
      clear hbig hst3
      go_wp2_with fail
      refine HBD.out.mono ?_
      rintro e w4 ⟨hsay, hb4⟩
      have HR4 := Lib.hid (HR3.out.below hb4 HR3.out.lt)
      have HB4 := Lib.hid (HB3.out.trans (hb4.mono HB3.out.size))
      have hlt4 := HR4.out.lt
      clear r0 r1 r2 r3 hb4
      rcases hsay with ⟨D, all, ls, many, ds, B1, B2, k1, k2, RA, rc, rfl, hdf, hcls, hls, hmid⟩ | ⟨rfl, htm⟩
      · have hst := store_new hdf
        have hrd := built_right hcls hmid
        have htk := built_takes HMD.out hcls hls hmid
        have hb5 : Below w4.heap.size w4 ((w4.alloc (.cells zs30 30)).setRow w4.heap.size ds) := below_setRow ((Below.refl _ _).alloc (Nat.le_refl _) _) (Nat.le_refl _) _
        have hdf5 := hdf.keep hb5
        have hbx5 := (new30 w4).row ds
        have hr5 := HR4.out.below hb5 hlt4
        have hbw5 := HB4.out.trans (hb5.mono HB4.out.size)
        have hds := hdf.cells.size
        obtain ⟨gd, hgd⟩ : ∃ g, g = w4.heap.size := ⟨_, rfl⟩
        clear hb5 hdf hcls hls hmid
        go_upto_region 7 with (fail)
        rw [← hgd] at hdf5 hbx5 hr5 hbw5 ⊢
        clear hst
        generalize (w4.alloc (.cells zs30 30)).setRow gd ds = w5 at hdf5 hbx5 hr5 hbw5 ⊢
        clear hgd hlt4
        have hld := load_cells hbx5 hds
        have HLR := Lib.hid (M9.least_right ds B1 B2 _ _ k1 k2 D RA rc w5 hdf5 hrd)
        have HR5 := Lib.hid hr5
        have HB5 := Lib.hid hbw5
        have HTK := Lib.hid (And.intro hrd htk)
        have hlt5 := hr5.lt
        clear hdf5 hbx5 hr5 hbw5 hds hrd htk
        go_wp2_with (go_at_call 28; refine HLR.out.mono ?_; rintro e w6 ⟨ds6, Ax, cx, Ay, cy, k6, RA6, rc6, M, rfl, hnew, hlo, hb6⟩; have hd6 := M9.DfaNew.here hnew; have hst6 := store_cells (w4 := w6.alloc (.cells zs30 30)) (g := w6.heap.size) hd6.cells (new30 w6) (dV_len _ _ _); have HN6 := Lib.hid (And.intro hnew (And.intro hlo (And.intro hb6 hd6.cells))); have hld6 := load_cells ((new30 w6).row ds6) hd6.cells.size; have hr7 : Blk ((w6.alloc (.cells zs30 30)).setRow w6.heap.size ds6) w.heap.size 30 (dV (fun _ => 0) (.slice none 0 0) (.slice none 0 0)) := ((HR5.out.below hb6 hlt5).alloc _).row_other _ (by have := hb6.size; omega); have hst7 := store_cells (g := w.heap.size) hd6.cells hr7 (dV_len _ _ _); have HR7 := Lib.hid hr7; clear hnew hlo hb6 hd6 hr7)
        (try simp only [Exit.inBlock, Exit.then])
        have hsz6 := HN6.out.2.2.2.size
        have hfin := HN6.out.1 _ (but_two (w := w6) (ds := ds6) (g := w.heap.size) hlt5)
        have hbA : Below w6.heap.size w6 ((w6.alloc (.cells zs30 30)).setRow w6.heap.size ds6) := below_setRow ((Below.refl _ _).alloc (Nat.le_refl _) _) (Nat.le_refl _) _
        have hb6 := HB5.out.trans (HN6.out.2.2.1.mono HB5.out.size)
        refine bodyPost_ret (res30 rfl rfl rfl (HR7.out.row ds6) (by rw [Array.length_toList]; exact hsz6)) rfl ?_
        exact ⟨.inr ⟨ds6, Ax, Ay, k6, cx, cy, M, D, RA6, rc6, rfl, hfin, HTK.out.1, HN6.out.2.1, HTK.out.2⟩, below_setRow (hb6.trans (hbA.mono hb6.size)) (Nat.le_refl _) _⟩
      · have hst : (storeD (.pointer (some ⟨w4.heap.size, 0, none⟩)) (.agg zs30)).run Try.prog (w4.alloc (.cells zs30 30)) = .ok () ((w4.alloc (.cells zs30 30)).setRow w4.heap.size zs30) := store30 (new30 w4) (dV_len _ _ _) (dV (fun _ => 0) (.slice none 0 0) (.slice none 0 0)) (dV_len _ _ _) (dV_one _ _ _ _ _ _ _)
        have hb5 : Below w4.heap.size w4 ((w4.alloc (.cells zs30 30)).setRow w4.heap.size zs30) := below_setRow ((Below.refl _ _).alloc (Nat.le_refl _) _) (Nat.le_refl _) _
        have hr5 := HR4.out.below hb5 hlt4
        have hbw5 := HB4.out.trans (hb5.mono HB4.out.size)
        have hst2 : (storeD (.pointer (some ⟨w.heap.size, 0, none⟩)) (.agg zs30)).run Try.prog ((w4.alloc (.cells zs30 30)).setRow w4.heap.size zs30) = .ok () (((w4.alloc (.cells zs30 30)).setRow w4.heap.size zs30).setRow w.heap.size zs30) := store30 hr5 (dV_len _ _ _) (dV (fun _ => 0) (.slice none 0 0) (.slice none 0 0)) (dV_len _ _ _) (dV_one _ _ _ _ _ _ _)
        have HR6 := Lib.hid (hr5.row zs30)
        have HBW := Lib.hid (below_setRow (g := w.heap.size) hbw5 (Nat.le_refl _) zs30)
        clear htm hb5 hr5 hbw5
        go_wp2_with fail
        (try simp only [Exit.inBlock, Exit.then])
        refine bodyPost_ret (res30 rfl rfl rfl HR6.out (dV_len _ _ _)) rfl ?_
        exact ⟨.inl rfl, HBW.out⟩
/-- what 'build' says, as one -/
def CloU (t : Tr) (w' : World) (ds : Array Value) (ok : Bool) : Prop := ds.size = 258 ∧ ds.all (·.oneCell') = true ∧
  (ok = true → ∃ (A1 A2 : Option Addr) (k c1 c2 : Nat) (M D : Dfa) (RA : Nat → Option Addr) (rc : Nat → Nat), DfaIn w' ds A1 A2 k k c1 c2 M RA rc ∧ RightD D ∧ M9.LeastOf D M ∧ Takes D t)
theorem CloU.keep {t : Tr} {w w' : World} {ds : Array Value} {ok : Bool} (h : CloU t w ds ok) (hb : Below w.heap.size w w') : CloU t w' ds ok := ⟨h.1, h.2.1, fun h9 => by
  obtain ⟨A1, A2, k, c1, c2, M, D, RA, rc, h1, h2⟩ := h.2.2 h9
  exact ⟨A1, A2, k, c1, c2, M, D, RA, rc, h1.keep hb, h2⟩⟩
theorem zs30_size : zs30.size = 258 := by unfold zs30; rw [List.size_toArray, dV_len]
theorem zs30_one : zs30.all (·.oneCell') = true := dV_one _ _ _ _ _ _ _
theorem clo_u (kd lo hi : Int) (kids : List Tr) (A : Option Addr) (n c : Nat) (w : World) (ht : TrIn w (nodT kd lo hi kids) A n) (hwf : TrWf (nodT kd lo hi kids)) :
    Calls Try.prog 27 #[.int .i64 kd, .int .i64 lo, .int .i64 hi, .slice A n c] w fun e w' => ∃ ds ok, e = .returned (.tuple #[.agg ds, .bool ok]) ∧ CloU (nodT kd lo hi kids) w' ds ok ∧ Below w.heap.size w w' :=
  (clo_any kd lo hi kids A n c w ht hwf).mono fun e w' ⟨h, hb⟩ => by
    rcases h with rfl | ⟨ds, A1, A2, k, c1, c2, M, D, RA, rc, rfl, h1, h2⟩
    · exact ⟨zs30, false, rfl, ⟨zs30_size, zs30_one, fun h9 => by cases h9⟩, hb⟩
    · exact ⟨ds, true, rfl, ⟨h1.cells.size, cells_one h1.cells, fun _ => ⟨A1, A2, k, c1, c2, M, D, RA, rc, h1, h2⟩⟩, hb⟩
/-- a box with what 'build' has said -/
structure PB (t : Tr) (g : Nat) (ds : Array Value) (ok : Bool) (w : World) : Prop where
  box : Blk w g 30 ds.toList
  say : CloU t w ds ok
theorem PB.go {t : Tr} {g : Nat} {ds : Array Value} {ok : Bool} {w w' : World} (h : PB t g ds ok w) (hb : Below w.heap.size w w') : PB t g ds ok w' := ⟨h.box.below hb h.box.lt, h.say.keep hb⟩
theorem PB.load {t : Tr} {g : Nat} {ds : Array Value} {ok : Bool} {w : World} (h : PB t g ds ok w) : (loadD (.pointer (some ⟨g, 0, none⟩))).run Try.prog w = .ok (.agg ds) w := load_cells h.box h.say.1
theorem pb_store {t : Tr} {ds : Array Value} {ok : Bool} {w : World} (h : CloU t w ds ok) : (storeD (.pointer (some ⟨w.heap.size, 0, none⟩)) (.agg ds)).run Try.prog (w.alloc (.cells zs30 30)) = .ok () ((w.alloc (.cells zs30 30)).setRow w.heap.size ds) := by
  have := store30 (new30 w) (dV_len _ _ _) ds.toList (by rw [Array.length_toList]; exact h.1) (by rw [Array.toArray_toList]; exact h.2.1)
  rw [Array.toArray_toList] at this
  exact this
theorem pb_below (w : World) (ds : Array Value) : Below w.heap.size w ((w.alloc (.cells zs30 30)).setRow w.heap.size ds) := below_setRow ((Below.refl _ _).alloc (Nat.le_refl _) _) (Nat.le_refl _) _
theorem pb_new {t : Tr} {ds : Array Value} {ok : Bool} {w : World} (h : CloU t w ds ok) : PB t w.heap.size ds ok ((w.alloc (.cells zs30 30)).setRow w.heap.size ds) := ⟨(new30 w).row ds, h.keep (pb_below w ds)⟩
/-- 'same' of two that take the same -/
theorem least_eq {t t' : Tr} {D D' M M' : Dfa} (h : RightD D) (h2 : M9.LeastOf D M) (h3 : Takes D t) (k : RightD D') (k2 : M9.LeastOf D' M') (k3 : Takes D' t') (he : ∀ s i j, t.lang s i j ↔ t'.lang s i j) : M = M' :=
  M9.least_same h k (takes_le h3 k3 he) h2 k2
set_option maxRecDepth 100000 in
set_option maxHeartbeats 16000000 in
theorem same_any {t t' : Tr} (ds ds' : Array Value) (x y : Bool) (w : World) (h : CloU t w ds x) (h' : CloU t' w ds' y) (he : ∀ s i j, t.lang s i j ↔ t'.lang s i j) :
    Calls Try.prog 29 #[.agg ds, .bool x, .agg ds', .bool y] w fun e w' => e = .returned (.bool true) ∧ Below w.heap.size w w' := by
  have hb1 : Below w.heap.size w ((w.alloc (.cells ds 30)).alloc (.cells ds' 30)) := ((Below.refl _ _).alloc (Nat.le_refl _) _).alloc (by simp) _
  have hk1 : Blk ((w.alloc (.cells ds 30)).alloc (.cells ds' 30)) w.heap.size 30 ds.toList := (Blk.new w 30 ds.toList).alloc _
  have hk2 : Blk ((w.alloc (.cells ds 30)).alloc (.cells ds' 30)) (w.heap.size + 1) 30 ds'.toList := by
    have := Blk.new (w.alloc (.cells ds 30)) 30 ds'.toList
    rw [World.size_alloc] at this
    exact this
  have HB := Lib.hid hb1
  cases x with
  | false =>
    clear h h' hk1 hk2 hb1
    go_enter Try.func29, Try.ntmps29
    go_wp2_with fail
    go_returns
    exact ⟨by first | rfl | simp, HB.out⟩
  | true =>
    cases y with
    | false =>
      clear h h' hk1 hk2 hb1
      go_enter Try.func29, Try.ntmps29
      go_wp2_with fail
      go_returns
      exact ⟨by first | rfl | simp, HB.out⟩
    | true =>
      obtain ⟨A1, A2, k, c1, c2, M, D, RA, rc, h1, h2, h3, h4⟩ := h.2.2 rfl
      obtain ⟨B1, B2, m, e1, e2, M', D', RB, re, k1, k2, k3, k4⟩ := h'.2.2 rfl
      obtain rfl := least_eq h2 h3 h4 k2 k3 k4 he
      obtain rfl : m = k := k1.next.len.symm.trans h1.next.len
      have hl1 := load_cells hk1 h.1
      have hl2 := load_cells hk2 h'.1
      have HLK := Lib.hid (M9.like_same ds ds' A1 A2 B1 B2 _ _ c1 c2 e1 e2 M RA RB rc re _ (h1.keep hb1) (k1.keep hb1))
      clear h h' h1 h2 h3 h4 k1 k2 k3 k4 hk1 hk2 hb1
      go_enter Try.func29, Try.ntmps29
      go_wp2_with (go_at_call 30; refine HLK.out.mono ?_; rintro e w3 ⟨rfl, hb3⟩; have HB3 := Lib.hid (HB.out.trans (hb3.mono HB.out.size)); clear hb3)
      go_returns
      exact ⟨by first | rfl | simp, HB3.out⟩
/-- kids that lie side by side -/
structure Kd where
  t : Tr
  A : Option Addr
  n : Nat
  c : Nat
def kdV (l : List Kd) : List Value := l.flatMap (fun q => reV q.t q.A q.n q.c)
theorem reV_len (t : Tr) (A : Option Addr) (n c : Nat) : (reV t A n c).length = 8 := rfl
theorem kdV_get : ∀ (l : List Kd) (i j : Nat), i < l.length → j < 8 → (kdV l)[i * 8 + j]? = (l[i]?).bind (fun q => (reV q.t q.A q.n q.c)[j]?)
  | [], i, j, h, _ => absurd h (by simp)
  | q :: l, 0, j, _, hj => by
    show (reV q.t q.A q.n q.c ++ kdV l)[0 * 8 + j]? = _
    rw [List.getElem?_append_left (by rw [reV_len]; omega)]
    simp
  | q :: l, i + 1, j, h, hj => by
    show (reV q.t q.A q.n q.c ++ kdV l)[(i + 1) * 8 + j]? = _
    rw [List.getElem?_append_right (by rw [reV_len]; omega), reV_len, show (i + 1) * 8 + j - 8 = i * 8 + j by omega, kdV_get l i j (by simpa using h) hj]
    simp
theorem kids_in {w : World} {l : List Kd} {g : Nat} (hk : ∀ i, i < l.length → TrIn w ((l.map Kd.t).getD i noTr) ((l.map Kd.A).getD i none) ((l.map Kd.n).getD i 0)) (hg : Blk w g 49 (kdV l)) (hl : l.length ≤ 3) (k lo hi : Int) :
    TrIn w (nodT k lo hi (l.map Kd.t)) (some ⟨g, 0, none⟩) l.length := by
  refine .mk (fun i => (l.map Kd.A).getD i none) (fun i => (l.map Kd.n).getD i 0) (fun i => (l.map Kd.c).getD i 0) (by show (l.map Kd.t).length = _; simp) (by omega) (fun _ => ⟨g, 0, rfl, hg.lt, fun i j hi hj => ?_⟩) hk
  rw [hg.cell, show 0 + (i * 8 + j) = i * 8 + j by omega, kdV_get l i j hi hj]
  show _ = some ((reV ((l.map Kd.t).getD i noTr) ((l.map Kd.A).getD i none) ((l.map Kd.n).getD i 0) ((l.map Kd.c).getD i 0)).getD j undef)
  simp [List.getD_eq_getElem?_getD, hi]
  rw [List.getElem?_eq_getElem (by rw [reV_len]; exact hj)]
  rfl
end Go.Proofs.Ytfjhcoeehjephaa
