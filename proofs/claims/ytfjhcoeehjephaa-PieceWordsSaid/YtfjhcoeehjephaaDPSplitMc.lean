/- piece.Split. -/
import Derived.Test.YtfjhcoeehjephaaDPEndsMc
namespace Go.Proofs.Ytfjhcoeehjephaa.D8
open Go.RowKit Go.Shelf
attribute [local go_sem] Oper.semAt_some
attribute [local go_sem ↓] load_box

theorem cell_block {W W' : World} {b o : Nat} (h : W'.heap[b]? = W.heap[b]?) : W'.cell? ⟨b, o, none⟩ = W.cell? ⟨b, o, none⟩ := by simp [World.cell?, h]
theorem facts_move {w : World} {ds : Array Value} {b1 o1 b2 o2 n1 n2 c1 c2 : Nat} {D : Dfa} {RA : Nat → Option Addr} {rc : Nat → Nat}
    (h : DfaIn w ds (some ⟨b1, o1, none⟩) (some ⟨b2, o2, none⟩) n1 n2 c1 c2 D RA rc) (hr : RightD D) {W W' : World} {p O B : Nat} (hp : p < B) (hpo : p ≠ O) (hw : w.heap.size ≤ O) (hO : O < B)
    (hF : Facts W p b1 o1 b2 o2 n1 n2 c1 c2 D RA rc) (hb : ButOut O B W W') : Facts W' p b1 o1 b2 o2 n1 n2 c1 c2 D RA rc := by
  have hl1 := h.next.len
  have hl2 := h.alen
  have hal := hr.alen
  have hlo := hr.lo
  have hb1 : b1 < w.heap.size := by
    obtain ⟨b, o, e, hlt, _⟩ := h.next.arr.one (k := 0) (by omega)
    simp only [Option.some.injEq, Addr.mk.injEq, and_true] at e
    omega
  have hb2 : b2 < w.heap.size := by
    obtain ⟨b, o, e, hlt, _⟩ := h.aarr.one (k := 0) (by omega)
    simp only [Option.some.injEq, Addr.mk.injEq, and_true] at e
    omega
  refine ⟨(cell_block (hb p hp hpo)).trans hF.q1, (cell_block (hb p hp hpo)).trans hF.q2, fun b h9 => (cell_block (hb p hp hpo)).trans (hF.cl b h9), fun st h9 => (cell_block (hb b2 (by omega) (by omega))).trans (hF.acc st h9),
    fun st h9 => (cell_block (hb b1 (by omega) (by omega))).trans (hF.row st h9), fun st h9 j hj => ?_⟩
  obtain ⟨b3, o3, e, hc⟩ := hF.el st h9 j hj
  obtain ⟨b, o, e', hlt, _⟩ := (h.next.row st h9).one (k := j) (by rw [state_row hr (by omega)]; exact hj)
  rw [e] at e'
  simp only [Option.some.injEq, Addr.mk.injEq, and_true] at e'
  exact ⟨b3, o3, e, (cell_block (hb b3 (by omega) (by omega))).trans hc⟩

theorem own_base {w : World} {base base' : Nat} {e : TypeId} {size : Nat} {v : Value} {n : Nat} {xs : List Value} (h : w.ownsRow base' e size v n xs) (hb : base ≤ base') : w.ownsRow base e size v n xs := by
  obtain ⟨hl, h⟩ := h
  refine ⟨hl, ?_⟩
  rcases h with h | ⟨g, cap, cur, h1, h2, h3⟩
  · exact .inl h
  · exact .inr ⟨g, cap, cur, h1, Nat.le_trans hb h2, h3⟩
/-- behind an append and the store into the box: all other old blocks lie as they lay -/
theorem but_appended {W w1 : World} {ob B : Nat} {e : TypeId} {size k : Nat} {v v' : Value} {xs : List Value} {tmp : Obj} (hB : B ≤ W.heap.size) (hrow : W.ownsRow B e size v k xs) (hgrow : (W.alloc tmp).grownBy w1 v.ownBlock) :
    ButOut ob B W (w1.setCell ⟨ob, 0, none⟩ v') := fun b hb hne => by
  rw [Below.heap_setCell _ _ _ b (fun e9 => hne e9), hgrow.block b (by simp; omega) (fun e9 => ?_)]
  · exact Below.heap_alloc _ _ _ (by omega)
  · have := (hrow.lt b e9.symm).1
    omega

theorem ends_any (ds : Array Value) (s : ByteArray) (w : World) :
    Calls Try.prog 72 #[.agg ds, .string s] w fun e w' => e = .returned (.func (.func 86) #[] #[.pointer (some ⟨w.heap.size + 1, 0, none⟩), .pointer (some ⟨w.heap.size, 0, none⟩)]) ∧ w' = (w.alloc (.cells ds 30)).alloc (.cells #[.string s] 9) := by
  go_enter Try.func72, Try.ntmps72
  go_wp2_with fail
  go_returns
  exact ⟨by first | rfl | simp, rfl⟩

set_option maxRecDepth 100000 in
set_option maxHeartbeats 8000000 in
theorem psplit_ok (ds : Array Value) (A1 A2 : Option Addr) (n1 n2 c1 c2 : Nat) (D : Dfa) (RA : Nat → Option Addr) (rc : Nat → Nat) (s : ByteArray) (w : World) (h : DfaIn w ds A1 A2 n1 n2 c1 c2 D RA rc) (hr : RightD D) (hs : s.size ≤ 262144) :
    Calls Try.prog 48 #[.agg ds, .string s] w fun e w' => ∃ A c, e = .returned (.tuple #[.slice A (pieces D s 0).length c, .int .i64 0]) ∧ Arr w' w'.heap.size 1 A (pieces D s 0).length (NumC .i64 (pieces D s 0)) ∧ Below w.heap.size w w' := by
  obtain ⟨i3, hi3, hz3, hsz3, hbt3⟩ := info_parts info3
  obtain ⟨b1, o1, b2, o2, rfl, rfl⟩ := heads h hr
  have L0 := LawW.start h
  have hload : ∀ W, LawW w ds (some ⟨b1, o1, none⟩) (some ⟨b2, o2, none⟩) n1 n2 c1 c2 D RA rc W → (loadBox (.pointer (some ⟨w.heap.size, 0, none⟩))).run Try.prog W = .ok (.agg ds) W := fun W hW => hW.load
  have HRT := Lib.hid (dright_any ds (some ⟨b1, o1, none⟩) (some ⟨b2, o2, none⟩) n1 n2 c1 c2 D RA rc (w.alloc (.cells ds 30)) L0.mach)
  rw [rightD_yes hr] at HRT
  have HE := Lib.hid (fun W => ends_any ds s W)
  have H := Lib.hid h
  have HR := Lib.hid hr
  have hd2 : decide ((262144 : Int) < (s.size : Int)) = false := by simp; omega
  clear h hr
  refine (callsIn_wide (n := 5)).1 ?_
  refine callsIn_of_wp_marks Try.func48 rfl trivial ?_ rfl
  simp only [Try.ntmps48, List.size_toArray, List.length_cons, List.length_nil, Nat.reduceAdd, Nat.reduceSub, Array.replicate_succ, Array.replicate_zero, List.push_toArray, List.append_toArray, List.nil_append, List.cons_append]
  gi_wp2_with (first
    | (refine ⟨trivial, ?_⟩; gi_at_call 41; refine (callsIn_wide.2 HRT.out).mono ?_; rintro e w1 ⟨rfl, hb1⟩; have L1 := L0.go hb1; have L2 := L1.go ((Below.refl _ w1).alloc (Nat.le_refl _) (.cells #[.slice none 0 0] 36)))
    | (refine ⟨trivial, ?_⟩; gi_at_call 72; refine (callsIn_wide.2 (HE.out _)).mono ?_; rintro e w2 ⟨rfl, rfl⟩))
  have HL1 := Lib.hid L1
  have HL2 := Lib.hid L2
  clear L0 L1 L2 hload hb1
  have hsw1 : w.heap.size < w1.heap.size := HL1.out.lt
  obtain ⟨W0, hW0⟩ : ∃ W0, W0 = ((w1.alloc (.cells #[.slice none 0 0] 36)).alloc (.cells ds 30)).alloc (.cells #[.string s] 9) := ⟨_, rfl⟩
  have hsz0 : W0.heap.size = w1.heap.size + 3 := by rw [hW0]; simp
  have bO : Boxed W0 w1.heap.size 36 (.slice none 0 0) := by rw [hW0]; exact ((Boxed.new w1 36 (.slice none 0 0)).alloc _).alloc _
  have hB0 : Below w.heap.size w W0 := by
    rw [hW0]
    exact ((HL2.out.bel).alloc (Nat.le_of_lt HL2.out.lt) _).alloc (by simp; omega) _
  have hF0 : Facts W0 (w1.heap.size + 1) b1 o1 b2 o2 n1 n2 c1 c2 D RA rc := by
    have := facts_of (W := W0) HL2.out.mach HR.out (by rw [hW0]; exact (Below.refl _ _).alloc (Nat.le_refl _) _)
    simpa using this
  have hS0 : W0.cell? ⟨w1.heap.size + 1 + 1, 0, none⟩ = some (.string s) := by
    have := (Boxed.new ((w1.alloc (.cells #[.slice none 0 0] 36)).alloc (.cells ds 30)) 9 (.string s)).cell
    rw [hW0]; simpa using this
  rw [← hW0]
  have hstops : SeqStopsK Fence.wide 4 Try.prog 86 #[.pointer (some ⟨w1.heap.size + 1 + 1, 0, none⟩), .pointer (some ⟨w1.heap.size + 1, 0, none⟩)] (fun x : Int => #[Value.int .i64 x]) (ButOut w1.heap.size (w1.heap.size + 3)) (fun ys => ys = pieces D s 0) (fun pre => pre <+: pieces D s 0) (pieces D s 0).length W0 :=
    fun l J Jx W hW hJ _ hY h0 => ends1_in 4 (by omega) l (w1.heap.size + 1) (w1.heap.size + 1 + 1) w1.heap.size (w1.heap.size + 3) b1 o1 b2 o2 n1 n2 c1 c2 D HR.out H.out.next.len H.out.alen H.out.cells.lt RA rc s (by omega) J Jx W hJ hY
      (fun W' hW' => by
        have hbo : ButOut w1.heap.size (w1.heap.size + 3) W0 W' := fun b h1 h2 => (hW' b h1 h2).trans (hW.block b (by omega))
        exact ⟨facts_move H.out HR.out (by omega) (by omega) (by omega) (by omega) hF0 hbo, (cell_block (hbo _ (by omega) (by omega))).trans hS0⟩) h0
  refine wpIn_rangeFunc_ownG rfl (by omega) (gf := 86) (lb := #[.pointer (some ⟨w1.heap.size + 1 + 1, 0, none⟩), .pointer (some ⟨w1.heap.size + 1, 0, none⟩)]) rfl trivial (enters_of Try.func86 (by kernel_rfl) rfl)
    hstops (fun h1 h2 b h3 h4 => (h2 b h3 h4).trans (h1 b h3 h4)) (fun W l o o' hl _ _ _ b hb _ => World.putObj_heap_other (by omega)) (Below.refl _ _) (fun _ => rfl)
    (fun pre W => (∃ v, Boxed W w1.heap.size 36 v ∧ W.ownsRow (w1.heap.size + 3) 3 1 v pre.length (numsV .i64 pre) ∧ True) ∧ (Below w.heap.size w W ∧ w1.heap.size + 3 ≤ W.heap.size))
    (fun _ _ _ => False)
    (OwnFrom.and (Own.from (holdsRow_own (w1.heap.size + 3) w1.heap.size 36 3 1 (fun pre => pre.length) (fun pre => numsV .i64 pre) (fun _ _ => True)) _) (OwnFrom.and (ownFrom_below (Nat.le_refl _) (by omega)) (fun _ _ _ _ hs hg _ => Nat.le_trans hs hg.size)))
    (fun _ _ _ _ _ hs _ _ => hs)
    ⟨⟨_, bO, World.ownsRow_nil _ _ _ _, trivial⟩, hB0, by omega⟩
    (fun x => { tmps := #[.agg ds, .string s, .pointer (some ⟨w.heap.size, 0, none⟩), undef, .slice none 0 0, .int .i64 0, .pointer (some ⟨w1.heap.size, 0, none⟩), .int .i64 x, .bool false, .agg ds, .bool true, .bool false, .bool false, .string s, .int .i64 s.size, .bool false, .agg ds, .string s,
      .func (.func 86) #[] #[.pointer (some ⟨w1.heap.size + 1 + 1, 0, none⟩), .pointer (some ⟨w1.heap.size + 1, 0, none⟩)], .int .i64 x, undef, undef, undef, undef, undef], defers := [] }) ?assign ?body ?done ?stop
  case assign =>
    intro l x W K hK
    gi_wp2
    exact hK
  case body =>
    rintro l pre x W ⟨⟨v, hv, hrow, _⟩, hB, hBW⟩ hlt
    have hc := hv.cell
    have hpl := pieces_len D s 0
    gi_wp2_with (first
      | (gi_at_builtin; refine wpListIn_append_own _ rfl _ _ 36 rfl (w1.heap.size + 3) 3 i3 (.int .i64 0) 1 8 Try.underlying36 hi3 hz3 hsz3 hbt3 rfl (by decide) _ _ _ rfl (hrow.alloc _) ⟨W.heap.size, 0, none⟩ 1 1 [.int .i64 x] rfl rfl (cell_one_new _ _ _) (by simp [Value.oneCell']) (by unfold maxLen; omega) (by omega) (by simp; omega) ?_; intro v' w4 hown' hgrow _; obtain ⟨g', cap', rfl⟩ := ownsRow_succ hown'; obtain ⟨hv1, hv2, _, hk2, hb2⟩ := hv.appended (n₀ := w.heap.size) (by decide) (own_base hrow (by omega)) hB.size (by omega) (own_base hown' (by omega)) hgrow; have hc1 := hv1.cell; have hf1 := hv1.frozen))
    refine ⟨hk2.from _, but_appended hBW hrow hgrow, ⟨_, hv2, ?_, trivial⟩, hB.trans hb2, Nat.le_trans hBW hb2.size⟩
    rw [List.length_append, numsV_snoc]
    exact hown'.kept (grownBy_setCell' w4 w1.heap.size _) (.inr (hv1.not_row (by decide) hown').symm)
  case done =>
    rintro D' ys W hD rfl ⟨⟨v, hv, hrow, _⟩, hB, hBW⟩ hK
    have hc := hv.cell
    obtain ⟨A, c, rfl⟩ := own_slice hrow
    gi_wp2
    refine ⟨by simp, .inl ⟨_, _, rfl, run_takeDeferred hK, ?_⟩⟩
    refine ⟨_, by simp [results, Try.f48, go_sem], A, c, rfl, own_num (ownsRow_putObj hrow _ hK rfl), hB.trans (belowK_b (w := w) (Nat.le_refl _) W D' _ _ (by omega) hK rfl rfl)⟩
  case stop =>
    rintro D' c pre W _ _ h _
    exact h.elim
end Go.Proofs.Ytfjhcoeehjephaa.D8
