/- set.Classes: the classes of all sets. -/
import Derived.Test.YtfjhcoeehjephaaParMd
namespace Go.Proofs.Ytfjhcoeehjephaa
open Go.RowKit Go.Maps Go.WideMaps
attribute [local go_sem ↓] load_box store_box

/-- sets in a row -/
def QdC (l : List Quad) : Nat → Nat → Value := fun k j => ((l.getD k ⟨0, 0, 0, 0⟩).cells).getD j undef
theorem Arr.quad {w : World} {B n k : Nat} {A : Option Addr} {l : List Quad} (h : Arr w B 4 A n (QdC l)) (hk : k < n) : ∃ b off, A = some ⟨b, off, none⟩ ∧ b < B ∧
    w.cell? ⟨b, off + k * 4, none⟩ = some (.int .u64 (l.getD k ⟨0, 0, 0, 0⟩).a) ∧ w.cell? ⟨b, off + k * 4 + 1, none⟩ = some (.int .u64 (l.getD k ⟨0, 0, 0, 0⟩).b) ∧ w.cell? ⟨b, off + k * 4 + 2, none⟩ = some (.int .u64 (l.getD k ⟨0, 0, 0, 0⟩).c) ∧ w.cell? ⟨b, off + k * 4 + 3, none⟩ = some (.int .u64 (l.getD k ⟨0, 0, 0, 0⟩).d) := by
  obtain ⟨b, off, e, hlt, hc⟩ := h (by omega)
  exact ⟨b, off, e, hlt, hc k 0 hk (by omega), hc k 1 hk (by omega), hc k 2 hk (by omega), hc k 3 hk (by omega)⟩
/-- a set of sets -/
def SetD (D : DataW Unit) (l : List Quad) : Prop := IsMap D ∧ ∀ s : Quad, s.ok → Maps.has D (keyQ s) = decide (s ∈ l)
theorem set_empty : SetD (.map []) [] := ⟨isMap_empty, fun s _ => by simp; rfl⟩
theorem set_snoc {D : DataW Unit} {l : List Quad} (h : SetD D l) (s : Quad) (hs : s.ok) (d : DataW Unit) : SetD (D.put (keyQ s) d) (l ++ [s]) := by
  refine ⟨h.1.put _ _, fun x hx => ?_⟩
  by_cases e : x = s
  · subst e
    exact (has_put_same h.1 (quadK.isLit x) d).trans (by simp)
  · have hne : keyQ x ≠ keyQ s := fun hk => e (keyQ_inj hx hs hk)
    rw [has_put_other hne, h.2 x hx]; simp [e]
theorem setD_skip {D : DataW Unit} {l : List Quad} (h : SetD D l) (s : Quad) (hm : s ∈ l) : SetD D (l ++ [s]) :=
  ⟨h.1, fun x hx => by rw [h.2 x hx]; by_cases e : x = s <;> simp [e, hm]⟩
theorem zero_unit (w : World) : (zeroValue 108).run Try.prog w = .ok (.agg #[]) w := by kernel_rfl
theorem set_look {w : World} {g n : Nat} {D : DataW Unit} {l : List Quad} (hown : w.ownsMap Try.prog 44 (unitElem (H := Unit)) g n D) (hR : SetD D l) (s : Quad) (hs : s.ok) :
    (Instr.lookup 107 (.map (some g)) (.agg #[.int .u64 s.a, .int .u64 s.b, .int .u64 s.c, .int .u64 s.d]) true).run Try.prog w = .ok (.tuple #[.agg #[], .bool (decide (s ∈ l))]) w := by
  obtain ⟨v', ps, hrun, hv'⟩ := hown.look_ok keyed44 Try.underlying107 (zero_unit w) unitElem_mk (keyOf44 s hs)
  obtain ⟨rfl, _⟩ := unitElem_inv hv'
  rw [hrun, hR.2 s hs]
theorem cls_skip {cls : Nat → Nat} {many : Nat} {l : List Quad} (h : ClsOk cls many l) (s : Quad) (hm : s ∈ l) : ClsOk cls many (l ++ [s]) :=
  ⟨h.lt, h.has, fun b b' hb hb' he q hq => by
    rcases List.mem_append.1 hq with h9 | h9
    · exact h.alike b b' hb hb' he q h9
    · exact h.alike b b' hb hb' he q (by rw [List.mem_singleton.1 h9]; exact hm), h.hi⟩
/-- what stays in Classes -/
structure CW (W : World) (gm : Nat) (cls : Nat → Nat) (n : Nat) (D : DataW Unit) (w : World) : Prop where
  bel : Below W.heap.size W w
  b0 : Blk w W.heap.size 26 (bytV (fun _ => 0))
  b1 : Blk w (W.heap.size + 1) 26 (bytV cls)
  mp : w.ownsMap Try.prog 44 (unitElem (H := Unit)) gm n D
  gm : gm = W.heap.size + 1 + 1
section
variable {W w w' : World} {cls : Nat → Nat} {gm n : Nat} {D : DataW Unit}
theorem CW.go (h : CW W gm cls n D w) (hb : Below w.heap.size w w') : CW W gm cls n D w' :=
  ⟨h.bel.trans (hb.mono h.bel.size), h.b0.below hb h.b0.lt, h.b1.below hb h.b1.lt, h.mp.kept (row := none) ⟨hb.os, hb.tape, hb.output, hb.size, fun b hb' _ => hb.block b hb'⟩ (by simp), h.gm⟩
theorem CW.alloc (h : CW W gm cls n D w) (o : Obj) : CW W gm cls n D (w.alloc o) := h.go ((Below.refl _ _).alloc (Nat.le_refl _) _)
theorem CW.tell (h : CW W gm cls n D w) (c : Nat → Nat) : CW W gm c n D (w.setRow (W.heap.size + 1) (bytV c).toArray) := by
  have hg := h.gm
  refine ⟨below_setRow h.bel (by omega) _, h.b0.row_other _ (by omega), ?_, ?_, hg⟩
  · have := h.b1.row (bytV c).toArray; simpa using this
  · obtain ⟨es, clock, hb, r⟩ := h.mp
    exact ⟨es, clock, (setRow_other w _ gm _ (by omega)).trans hb, r⟩
theorem CW.put (h : CW W gm cls n D w) {n' : Nat} {D' : DataW Unit} (hg : w.grownBy w' (some gm)) (hm : w'.ownsMap Try.prog 44 (unitElem (H := Unit)) gm n' D') : CW W gm cls n' D' w' := by
  have := h.gm
  have hk : ∀ {g t : Nat} {cur : List Value}, Blk w g t cur → g ≠ gm → Blk w' g t cur := fun h9 hne => h9.same (hg.block _ h9.lt (fun e => hne (by cases e; rfl)))
  exact ⟨h.bel.grown hg h.bel.size (fun k e => by cases e; omega), hk h.b0 (by omega), hk h.b1 (by omega), hm, h.gm⟩
end

set_option maxRecDepth 100000 in
set_option maxHeartbeats 16000000 in
theorem classes_any (A : Option Addr) (n c : Nat) (l : List Quad) (W : World) (hn : n = l.length) (hn2 : n ≤ 16000) (hl : ∀ q ∈ l, q.ok) (ha : Arr W W.heap.size 4 A n (QdC l)) :
    Calls Try.prog 32 #[.slice A n c] W fun e w' => ∃ cls many, ClsOk cls many l ∧
      e = .returned (.tuple #[.agg (bytV cls).toArray, .int .i64 (many : Int)]) ∧ Below W.heap.size W w' := by
  have hz := zeroV26
  have hmm := @run_makeMap Try.prog
  have hp0 : CW W (W.heap.size + 1 + 1) (fun _ => 0) 0 (.map []) (((W.alloc (.cells zs26 26)).alloc (.cells zs26 26)).alloc (.map #[] 0)) := by
    refine ⟨(((Below.refl _ _).alloc (Nat.le_refl _) _).alloc (by simp) _).alloc (by simp; omega) _, ((Blk.new W 26 (bytV (fun _ => 0))).alloc _).alloc _, ?_, ?_, rfl⟩
    · have := (Blk.new (W.alloc (.cells zs26 26)) 26 (bytV (fun _ => 0))).alloc (.map #[] 0)
      rw [World.size_alloc] at this
      exact this
    · have := World.ownsMap_made ((W.alloc (.cells zs26 26)).alloc (.cells zs26 26)) Try.prog 44 (unitElem (H := Unit))
      rw [World.size_alloc, World.size_alloc] at this
      exact this
  have HP0 := Lib.hid hp0
  have HL := Lib.hid hl
  have HA := Lib.hid ha
  have HN := Lib.hid hn
  have HUP := Lib.hid parted_any
  clear hp0 hl ha hn
  go_enter Try.func32, Try.ntmps32
  go_upto_region 5 with (fail)
  generalize (((W.alloc (.cells zs26 26)).alloc (.cells zs26 26)).alloc (.map #[] 0)) = W1 at HP0 ⊢
  clear hmm hz
  go_loopw [5, 14] (fun mv iv wr => ∃ (k m many : Nat) (cls : Nat → Nat) (D : DataW Unit), k ≤ n ∧ iv = .int .i64 (k : Int) ∧ mv = .int .i64 (many : Int) ∧ CW W (W.heap.size + 1 + 1) cls m D wr ∧ m ≤ k ∧ SetD D (l.take k) ∧ ClsOk cls many (l.take k)) (fun _ iv _ => n - (intOf iv).toNat)
  case atStart => exact ⟨0, 0, 1, _, _, by omega, rfl, rfl, by simpa using HP0.out, Nat.le_refl _, set_empty, cls_begin⟩
  case round =>
    obtain ⟨k, m, many, cls, D, hk, rfl, rfl, hp, hmk, hsd, hcl⟩ := hrel
    obtain ⟨w3, rfl⟩ : ∃ w3 : World, w3 = wr := ⟨_, rfl⟩
    have HP := Lib.hid hp
    have HX := Lib.hid (And.intro hmk (And.intro hsd hcl))
    clear hp hmk hsd hcl
    by_cases hlt : k < n
    · have d1 : decide ((k : Int) < (n : Int)) = true := by simp; omega
      have hkl : k < l.length := by have := HN.out; omega
      obtain ⟨b, o, rfl, hbl, p0, p1, p2, p3⟩ := ((HA.out.below HP.out.bel).more HP.out.bel.size).quad hlt
      have hq := HL.out _ (getD_mem (d := ⟨0, 0, 0, 0⟩) hkl)
      have htk := take_next l k ⟨0, 0, 0, 0⟩ hkl
      obtain ⟨q, hqd⟩ : ∃ q, q = l.getD k ⟨0, 0, 0, 0⟩ := ⟨_, rfl⟩
      rw [← hqd] at p0 p1 p2 p3 hq htk
      have HQ := Lib.hid hq
      have HTK := Lib.hid htk
      clear hqd hq htk
      go_upto_region 7 with (fail)
      have hp5 := HP.out.alloc (.cells #[.int .u64 q.a, .int .u64 q.b, .int .u64 q.c, .int .u64 q.d] 46)
      have hbx := Blk.new w3 46 [.int .u64 q.a, .int .u64 q.b, .int .u64 q.c, .int .u64 q.d]
      have HP5 := Lib.hid hp5
      have hgf : W.heap.size + 1 + 1 < w3.heap.size := HP.out.mp.lt
      clear hp5 p0 p1 p2 p3 hbl
      obtain ⟨gx, hgx⟩ : ∃ gx, gx = w3.heap.size := ⟨_, rfl⟩
      rw [← hgx] at hbx hgf ⊢
      change Blk (w3.alloc (.cells #[.int .u64 q.a, .int .u64 q.b, .int .u64 q.c, .int .u64 q.d] 46)) gx 46 _ at hbx
      generalize w3.alloc (.cells #[.int .u64 q.a, .int .u64 q.b, .int .u64 q.c, .int .u64 q.d] 46) = w6 at HP5 hbx ⊢
      have HBX := Lib.hid hbx
      have e0 := hbx.cell 0
      have e1 := hbx.cell 1
      have e2 := hbx.cell 2
      have e3 := hbx.cell 3
      simp only [List.getElem?_cons_zero, List.getElem?_cons_succ] at e0 e1 e2 e3
      have hgl := hbx.lt
      clear hgx hbx
      by_cases hin : q ∈ l.take k
      · have hrun := set_look HP5.out.mp HX.out.2.1 q HQ.out
        rw [decide_eq_true hin] at hrun
        have HRUN := Lib.hid hrun
        have HIN := Lib.hid hin
        clear hrun hin
        go_wp2_with (at_lookup; refine wpList_look _ rfl _ _ 107 rfl _ _ _ rfl rfl HRUN.out ?_)
        go_roundw
        case rel => exact ⟨k + 1, m, many, cls, D, by omega, by go_num, rfl, HP5.out.alloc _, by have := HX.out.1; omega, by rw [HTK.out]; exact setD_skip HX.out.2.1 _ HIN.out, by rw [HTK.out]; exact cls_skip HX.out.2.2 _ HIN.out⟩
        case measure => simp [intOf]; omega
      · have hrun := set_look HP5.out.mp HX.out.2.1 q HQ.out
        rw [decide_eq_false hin] at hrun
        have HRUN := Lib.hid hrun
        have HIN := Lib.hid hin
        have hmx : m < maxLen := by have := HX.out.1; unfold maxLen; omega
        have hky := keyOf44 q HQ.out
        have HKY := Lib.hid hky
        clear hrun hin hky
        go_upto_region 10 with (first
          | (at_lookup; refine wpList_look _ rfl _ _ 107 rfl _ _ _ rfl rfl HRUN.out ?_)
          | (at_mapUpdate; refine wpList_mapUpdate_own _ rfl _ _ _ 107 rfl 44 108 keyed44 Try.underlying107 (unitElem (H := Unit)) (W.heap.size + 1 + 1) m D rfl (HP5.out.alloc _).mp hmx _ _ _ rfl rfl HKY.out _ [] unitElem_mk ?_; intro w7 hown7 hgrow7; have HP7 := Lib.hid ((HP5.out.alloc _).put hgrow7 hown7); have hbx7 := (HBX.out.alloc (.cells #[] 108)).same (hgrow7.block _ (HBX.out.alloc _).lt (by simp; omega)); have k0 := hbx7.cell 0; have k1 := hbx7.cell 1; have k2 := hbx7.cell 2; have k3 := hbx7.cell 3; simp only [List.getElem?_cons_zero, List.getElem?_cons_succ] at k0 k1 k2 k3; clear hown7 hgrow7 hbx7))
        have hld := load26 HP7.out.b1
        have hlt8 := HX.out.2.2.lt
        have hhi := HX.out.2.2.hi
        go_wp2_with (go_at_call 58; refine (HUP.out cls q _ (fun b9 h9 => by have := hlt8 b9 h9; omega) HQ.out).mono ?_; rintro e w8 ⟨rfl, hbel8⟩; have HP8 := Lib.hid (HP7.out.go hbel8); have hst := store26 (f := newC cls (hasB q.a q.b q.c q.d)) HP8.out.b1; clear hbel8)
        go_roundw
        case rel => exact ⟨k + 1, m + 1, _, _, _, by omega, by go_num, rfl, HP8.out.tell _, by have := HX.out.1; omega, by rw [HTK.out]; exact set_snoc HX.out.2.1 _ HQ.out _, by rw [HTK.out]; exact cls_parted HX.out.2.2 q⟩
        case measure => simp [intOf]; omega
    · obtain rfl : k = n := by omega
      have d1 : decide ((k : Int) < (k : Int)) = false := by simp
      have hcl := HX.out.2.2
      rw [List.take_of_length_le (by have := HN.out; omega)] at hcl
      have HCL := Lib.hid hcl
      have hld := load26 HP.out.b1
      have hst := store26 (f := cls) HP.out.b0
      clear hcl
      go_wp2_with fail
      (try simp only [Exit.inBlock, Exit.then])
      refine bodyPost_ret (res26 rfl rfl rfl (by have h9 := HP.out.b0.row (bytV cls).toArray; simpa using h9)) rfl ?_
      exact ⟨cls, many, HCL.out, by first | rfl | simp, below_setRow HP.out.bel (by omega) _⟩
end Go.Proofs.Ytfjhcoeehjephaa
