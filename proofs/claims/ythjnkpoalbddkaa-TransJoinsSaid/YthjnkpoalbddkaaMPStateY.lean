/- maker.state, of pairs. -/
import Derived.Test.YthjnkpoalbddkaaMPMemY
import Derived.Deep.AppendLies
import Derived.Deep.RegionLaw
import Derived.BigRegion
import Derived.Deep.Cut
import Derived.Deep.CutRange
import Derived.Deep.CutBlock
namespace Go.Proofs.Ythjnkpoalbddkaa.MP
open Go.RowKit Go.Maps Go.WideMaps
theorem map_drew2 {w : World} {kt : TypeId} {R : Value → Option (DataW Unit × List MemPlace)} {g n : Nat} {D : DataW Unit} (h : w.ownsMap Try.prog kt R g n D) : w.drew.ownsMap Try.prog kt R g n D := h
theorem grown2 (w : World) (ge i j : Nat) (u v : Value) : w.grownBy ((w.setCell ⟨ge, i, none⟩ u).setCell ⟨ge, j, none⟩ v) (some ge) :=
  (grownBy_setCell w ge i u).trans (grownBy_setCell _ ge j v)
def StRes (W : World) (B bk : Nat) (m : Mk St) (s : St) (vn vp ve vt va : Value) (gno gtx : Nat) (D2 : DataW Unit) (RN RP : Nat → Nat) (e : Ending) (W' : World) : Prop :=
  ∃ va' D1', e = .returned (.int .i64 (plc (m.addS s).all s : Nat)) ∧ But (fun k => k = bk ∨ k = gno ∨ va.ownBlock = some k) W W' ∧ MkIn W' B bk (m.addS s) vn vp ve vt va' gno gtx D1' D2 RN RP ∧ (∀ k, va'.ownBlock = some k → va.ownBlock = some k ∨ W.heap.size ≤ k)
theorem state_end {W W2 w5 w6 : World} {B bk : Nat} {m : Mk St} {vn vp ve vt : Value} {A : Option Addr} {n c : Nat} {gno gtx : Nat} {D1 D2 D1' : DataW Unit} {RN RP : Nat → Nat} {a b : Int} {g6 c6 : Nat} {bv : Bool}
    (hW : But (fun _ => False) W W2) (h : MkIn W2 B bk m vn vp ve vt (.slice A n c) gno gtx D1 D2 RN RP) (hn : n = m.all.length) (hm : (a, b) ∉ m.all) (hg5 : But (fun k => some gno = some k) W2 w5)
    (hm5 : w5.ownsMap Try.prog 89 (plainElem Try.prog 3) gno (n + 1) D1') (hk : IdxD pairK D1' (m.all ++ [(a, b)])) (hg6 : But (fun k => (Value.slice A n c).ownBlock = some k) w5 w6)
    (ho : w6.ownsRow B 89 2 (.slice (some ⟨g6, 0, none⟩) (n + 1) c6) (n + 1) (flat 2 pF (0, 0) m.all ++ [.int .i64 a, .int .i64 b])) (hat : (Value.slice A n c).ownBlock = some g6 ∨ w5.heap.size ≤ g6)
    (hbx : Blk w6 bk 106 [vn, vp, ve, vt, .map (some gno), .slice A n c, .map (some gtx), .bool m.bad]) (hbv : bv = (m.bad || decide (1200 < m.all.length + 1))) :
    StRes W B bk m (a, b) vn vp ve vt (.slice A n c) gno gtx D2 RN RP (.returned (.int .i64 (n : Int))) ((w6.setCell ⟨bk, 5, none⟩ (.slice (some ⟨g6, 0, none⟩) (n + 1) c6)).setCell ⟨bk, 7, none⟩ (.bool bv)) := by
  have e : m.addS (a, b) = { m with all := m.all ++ [(a, b)], bad := m.bad || decide (1200 < m.all.length + 1) } := by unfold Mk.addS; rw [if_neg hm]
  have hset := But.of_grown (grown2 w6 bk 5 7 (.slice (some ⟨g6, 0, none⟩) (n + 1) c6) (.bool bv))
  have e1 : ∀ k, some bk = some k → k = bk := fun k hk => by injection hk with hk; exact hk.symm
  have e2 : ∀ k, some gno = some k → k = gno := fun k hk => by injection hk with hk; exact hk.symm
  have hb2 : But (fun k => k = bk ∨ k = gno ∨ (Value.slice A n c).ownBlock = some k) W2 ((w6.setCell ⟨bk, 5, none⟩ (.slice (some ⟨g6, 0, none⟩) (n + 1) c6)).setCell ⟨bk, 7, none⟩ (.bool bv)) :=
    ((hg5.mono (fun k _ hk => .inr (.inl (e2 k hk)))).trans hg6 (fun k _ hk => .inr (.inr hk))).trans hset (fun k _ hk => .inl (e1 k hk))
  have hpl : (plc (m.addS (a, b)).all (a, b) : Nat) = n := by rw [idx_addS, if_neg hm, hn]
  have hbo : bk ≠ g6 := fun e9 => blk_own_ne hbx ho (by decide) (by show some g6 = some bk; rw [e9])
  have hmo : gno ≠ g6 := fun e9 => by
    have hm6 := hg6.maps hm5 (fun e8 => by
      rcases hat with h9 | h9
      · rw [e8] at h9; injection h9 with h9
        exact map_own_ne h.no h.oa e8
      · have := hm5.lt; omega)
    exact map_own_ne hm6 ho (by show some g6 = some gno; rw [e9])
  refine ⟨.slice (some ⟨g6, 0, none⟩) (n + 1) c6, D1', by rw [hpl], (hW.mono (fun _ _ hk => hk.elim)).trans hb2 (fun _ _ hk => hk), h.state hb2 ?_ ?_ ?_ ?_ ?_, fun k hk => ?_⟩
  · have h9 := (hbx.set 5 (.slice (some ⟨g6, 0, none⟩) (n + 1) c6)).set 7 (.bool bv)
    rw [e, ← hbv]
    exact h9
  · rw [e]
    show World.ownsRow _ B 89 2 _ (m.all ++ [(a, b)]).length _
    rw [List.length_append, List.length_singleton, ← hn, flat_snoc]
    exact hset.own ho (fun k hk e9 => hbo (by injection hk with hk; rw [← e1 k e9]; exact hk.symm))
  · rw [e]
    show World.ownsMap _ _ _ _ _ (m.all ++ [(a, b)]).length _
    rw [List.length_append, List.length_singleton, ← hn]
    refine hset.maps (hg6.maps hm5 (fun e8 => ?_)) (fun e9 => ?_)
    · exact map_own_ne h.no h.oa e8
    · exact map_blk_ne h.no h.box (e1 _ e9)
  · rw [e]; exact hk
  · intro k hk
    injection hk with hk
    simp only at hk
    subst hk
    rcases hat with h9 | h9
    · exact .inl h9
    · exact .inr (Nat.le_trans hg5.size h9)
  · injection hk with hk
    simp only at hk
    subst hk
    rcases hat with h9 | h9
    · exact .inl h9
    · exact .inr (Nat.le_trans (Nat.le_trans hW.size hg5.size) h9)
set_option maxRecDepth 100000 in
set_option maxHeartbeats 4000000 in
theorem state_any (W : World) (B bk : Nat) (m : Mk St) (vn vp ve vt va : Value) (gno gtx : Nat) (D1 D2 : DataW Unit) (RN RP : Nat → Nat) (h : MkIn W B bk m vn vp ve vt va gno gtx D1 D2 RN RP) (s : St) (hs : I64 s.1 ∧ I64 s.2) (hn : m.all.length ≤ 2000) :
    Calls Try.prog 67 #[.pointer (some ⟨bk, 0, none⟩), .agg #[.int .i64 s.1, .int .i64 s.2]] W (StRes W B bk m s vn vp ve vt va gno gtx D2 RN RP) := by
  obtain ⟨i9, z9, hi9, hz9, hsz9, hbt9, hzc9⟩ : ∃ i z, Try.prog.info? 89 = some i ∧ i.zero = some z ∧ i.size = 2 ∧ i.bytes = 16 ∧ z.cells.size = 2 := ⟨_, _, rfl, rfl, rfl, rfl, rfl⟩
  obtain ⟨a, b⟩ := s
  simp only at hs
  obtain ⟨W1, hW1⟩ : ∃ W1, W1 = W.alloc (.cells #[.int .i64 a, .int .i64 b] 89) := ⟨_, rfl⟩
  have h1 := h.alloc (.cells #[.int .i64 a, .int .i64 b] 89)
  have hB1 : Blk W1 W.heap.size 89 [.int .i64 a, .int .i64 b] := by rw [hW1]; exact Blk.new W 89 _
  rw [← hW1] at h1
  have c4 := h1.box.cell 4
  have b0 := hB1.cell 0
  have b1 := hB1.cell 1
  simp only [List.getElem?_cons_zero, List.getElem?_cons_succ] at c4 b0 b1
  obtain ⟨is, his⟩ : ∃ is, is = decide ((a, b) ∈ m.all) := ⟨_, rfl⟩
  obtain ⟨iv, hiv⟩ : ∃ iv, iv = placeI m.all (a, b) := ⟨_, rfl⟩
  have hlook : ∀ nq, (Instr.lookup 102 (.map (some gno)) (.agg #[.int .i64 a, .int .i64 b]) true).run Try.prog (W1.drewN nq) = .ok (.tuple #[.int .i64 iv, .bool is]) (W1.drewN nq) := fun nq => by
    rw [idx_lookup keyed89 Try.underlying102 (h1.drewN nq).no h1.kno (a, b) hs (keyOf89 a b hs.1 hs.2), hiv, his]; congr
  have H := Lib.hid h
  have H1 := Lib.hid (And.intro h1 hB1)
  have HW := Lib.hid (And.intro hW1 (And.intro his hiv))
  have HS := Lib.hid hs
  clear h h1 hB1 his hiv hs
  cases is with
  | true =>
    have hm : (a, b) ∈ m.all := of_decide_eq_true HW.out.2.1.symm
    have HM := Lib.hid hm
    clear hm
    go_enter Try.func67, Try.ntmps67
    go_upto_region 1 with (fail)
    rw [← hW1]
    clear hW1
    go_wp2_with fail
    go_quiet (fail)
    go_wp2_with fail
    go_returns
    have e : m.addS (a, b) = m := by unfold Mk.addS; rw [if_pos HM.out]
    refine ⟨va, D1, ?_, ?_, by rw [e]; exact H1.out.1.drewN _, fun k hk => .inl hk⟩
    · rw [e, HW.out.2.2]; unfold placeI; rw [if_pos HM.out]; first | rfl | simp
    · rw [HW.out.1]; exact (But.of_below (below_drewN ((Below.refl W.heap.size W).alloc (Nat.le_refl _) _) _)).mono (fun k hk e9 => by omega)
  | false =>
    have hm : (a, b) ∉ m.all := fun hm => by have := HW.out.2.1; simp [hm] at this
    have HM := Lib.hid hm
    clear hm
    go_enter Try.func67, Try.ntmps67
    go_upto_region 1 with (fail)
    rw [← hW1]
    clear hW1
    go_wp2_with fail
    go_quiet (fail)
    clear hlook
    have hw2 : But (fun _ => False) W (W1.drewN nq) := by rw [HW.out.1]; exact (But.of_below (below_drewN ((Below.refl W.heap.size W).alloc (Nat.le_refl _) _) _)).mono (fun k hk e9 => by omega)
    have H2 := Lib.hid (And.intro (H1.out.1.drewN nq) (H1.out.2.drewN nq))
    have HW2 := Lib.hid hw2
    clear hw2
    generalize W1.drewN nq = W2 at H2 HW2 ⊢
    obtain ⟨A, c, rfl⟩ := own_sl H2.out.1.oa
    obtain ⟨n, hnn⟩ : ∃ n, n = m.all.length := ⟨_, rfl⟩
    rw [← hnn] at hn
    have c5 := H2.out.1.box.cell 5
    have c4' := H2.out.1.box.cell 4
    have b0' := H2.out.2.cell 0
    have b1' := H2.out.2.cell 1
    simp only [List.getElem?_cons_zero, List.getElem?_cons_succ] at c5 c4' b0' b1'
    rw [← hnn] at c5 ⊢
    obtain ⟨w5, hrun, hm5, hg5⟩ := (map_drew2 H2.out.1.no).update keyed89 Try.underlying102 (by unfold maxLen; omega) (keyOf89 a b HS.out.1 HS.out.2) (plainElem_int (H := Unit) Try.underlying3 (i64_of (n : Int) (by omega) (by omega)))
    have hn9 : ∀ k, k ≠ gno → ¬ (some gno = some k) := fun k hk e9 => hk (by injection e9 with e9; exact e9.symm)
    have hgb := But.of_grown hg5
    have hbx5 := hgb.blk (H2.out.1.box.drewN 1) (hn9 _ (map_blk_ne H2.out.1.no H2.out.1.box).symm)
    have hbs5 := hgb.blk (H2.out.2.drewN 1) (hn9 _ (map_blk_ne H2.out.1.no H2.out.2).symm)
    have hoa5 := hgb.own (own_drewN H2.out.1.oa 1) (fun k hk => hn9 _ (fun e9 => map_own_ne H2.out.1.no H2.out.1.oa (by rw [hk, e9])))
    rw [← hnn] at hbx5 hoa5
    have H5 := Lib.hid (And.intro hgb (And.intro hm5 (And.intro hbx5 (And.intro hbs5 hoa5))))
    have HN := Lib.hid hnn
    obtain ⟨bx, hbx9⟩ : ∃ bx, bx = decide ((1200 : Int) < (n : Int) + 1) := ⟨_, rfl⟩
    have d9 : decide ((1200 : Int) < (n : Int) + 1) = bx := hbx9.symm
    have HBX := Lib.hid hbx9
    obtain ⟨bd, hbd⟩ : ∃ bd, bd = m.bad := ⟨_, rfl⟩
    have HBD := Lib.hid hbd
    rw [← hbd] at H5 hbx5
    clear hbx9 hbd
    have e5 := hbx5.cell 5
    have s0 := hbs5.cell 0
    have s1 := hbs5.cell 1
    have f5 := hbx5.frozen 5
    simp only [List.getElem?_cons_zero, List.getElem?_cons_succ] at e5 s0 s1
    have hb1 := H5.out.1.size
    have hB := H2.out.1.hB
    have hbl := hbx5.lt
    have y1 : (0 : Nat) < 1 := by omega
    have y5 : (0 : Nat) < 2 := by omega
    have y2 : n + 1 ≤ maxLen := by unfold maxLen; omega
    have y3 : (n + 1) * 16 ≤ 140737488355328 := by omega
    have y4 : ∀ v ∈ [Value.int .i64 a, .int .i64 b], v.oneCell' = true := by intro v hv; simp at hv; rcases hv with rfl | rfl <;> rfl
    clear hgb hm5 hg5 hbx5 hbs5 hoa5 hn9 hnn
    go_wp2_with fail
    go_region
    clear hrun c5 c4' b0' b1'
    go_wp2_with fail
    go_region_law (first
      | (refine step_append_lies _ rfl (.tmp 33) (.tmp 35) 104 rfl B 89 i9 z9 2 16 Try.underlying104 hi9 hz9 hsz9 hbt9 hzc9 y5 (.slice A n c) n (flat 2 pF (0, 0) m.all) (by rfl) ?_ ⟨_, 0, none⟩ 1 1 [.int .i64 a, .int .i64 b] (by rfl) rfl (World.news_of_block (cs := #[.int .i64 a, .int .i64 b]) (t := 89) (fr := (0, 0)) ?_) y4 y1 y2 y3 ?_ _ rfl ?_
         · exact H5.out.2.2.2.2.drew.alloc _
         · exact heap_alloc_new _ _
         · have hb1' : W2.drew.heap.size ≤ w5.heap.size := hb1
           have hb2 : W2.drew.heap.size = W2.heap.size := rfl
           simp; omega
         intro g6 c6 w6 hown6 hgrow6 hat6 hlt6
         have hbx := (hgrow6.block bk (by simp; omega) (fun e9 => blk_own_ne H5.out.2.2.1 H5.out.2.2.2.2 (by decide) e9.symm)).trans ((H5.out.2.2.1.drewN 1).alloc _)
         have u5 := Blk.cell hbx 5
         have u7 := Blk.cell hbx 7
         have v5 := Blk.frozen hbx 5
         have v7 := Blk.frozen hbx 7
         simp only [List.getElem?_cons_zero, List.getElem?_cons_succ] at u5 u7))
    all_goals
      have H6 := Lib.hid (And.intro hown6 (And.intro hgrow6 (And.intro hat6 hbx)))
      clear hown6 hgrow6 hat6 hbx
      have hnn := HN.out
      subst hnn
      have hg6 : But (fun k => (Value.slice A m.all.length c).ownBlock = some k) w5 w6 := ((But.of_below ((Below.refl w5.heap.size w5).alloc (Nat.le_refl _) (.cells #[.int .i64 a, .int .i64 b] 89)).drew).mono (S' := fun k => (Value.slice A m.all.length c).ownBlock = some k) (fun k hk e9 => by omega)).trans (But.of_grown H6.out.2.1) (fun k _ e9 => e9)
      have HG6 := Lib.hid hg6
      have hg5 : But (fun k => some gno = some k) W2 w5 := ((But.of_below ((Below.refl W2.heap.size W2).drew)).mono (S' := fun k => some gno = some k) (fun k hk e9 => by omega)).trans H5.out.1 (fun k _ e9 => e9)
      have HG5 := Lib.hid hg5
      have hat : (Value.slice A m.all.length c).ownBlock = some g6 ∨ w5.heap.size ≤ g6 := by
        rcases H6.out.2.2.1 with e9 | e9
        · exact .inl e9
        · right; rw [e9]; show w5.heap.size ≤ (w5.alloc _).heap.size; simp
      have HAT := Lib.hid hat
      clear hg5 hg6 hat
      cases bd
      case' false => have hbv : bx = (m.bad || decide (1200 < m.all.length + 1)) := by rw [HBX.out, ← HBD.out, Bool.false_or]; congr 1; apply propext; omega
      case' true => have hbv : true = (m.bad || decide (1200 < m.all.length + 1)) := by rw [← HBD.out, Bool.true_or]
      all_goals
        have HBV := Lib.hid hbv
        clear hbv
        go_wp2_with fail
        go_returns
        have hbx6 := H6.out.2.2.2
        rw [HBD.out] at hbx6
        exact state_end HW2.out H2.out.1 rfl HM.out HG5.out H5.out.2.1 (idx_snoc H2.out.1.kno (a, b) HS.out HM.out) HG6.out H6.out.1 HAT.out hbx6 HBV.out
end Go.Proofs.Ythjnkpoalbddkaa.MP
