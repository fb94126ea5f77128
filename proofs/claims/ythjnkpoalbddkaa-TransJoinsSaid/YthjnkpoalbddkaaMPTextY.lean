/- maker.text. -/
import Derived.Test.YthjnkpoalbddkaaMPMemY
import Derived.Deep.AppendLies
import Derived.Deep.RegionLaw
import Derived.BigRegion
import Derived.OwnWalk
import Derived.Deep.Cut
import Derived.Deep.CutRange
import Derived.Deep.CutBlock
namespace Go.Proofs.Ythjnkpoalbddkaa.MP
open Go.RowKit Go.Maps Go.WideMaps
theorem grown2t (w : World) (ge i j : Nat) (u v : Value) : w.grownBy ((w.setCell ⟨ge, i, none⟩ u).setCell ⟨ge, j, none⟩ v) (some ge) :=
  (grownBy_setCell w ge i u).trans (grownBy_setCell _ ge j v)
def TxRes (W : World) (B bk : Nat) (m : Mk St) (t : Bs) (vn vp ve vt va : Value) (gno gtx : Nat) (D1 : DataW Unit) (RN RP : Nat → Nat) (e : Ending) (W' : World) : Prop :=
  ∃ vt' D2', e = .returned (.int .i64 (plc (m.addT t).texts t : Nat)) ∧ But (fun k => k = bk ∨ k = gtx ∨ vt.ownBlock = some k) W W' ∧ MkIn W' B bk (m.addT t) vn vp ve vt' va gno gtx D1 D2' RN RP ∧ (∀ k, vt'.ownBlock = some k → vt.ownBlock = some k ∨ W.heap.size ≤ k)
theorem text_end {W w5 w6 : World} {B bk : Nat} {m : Mk St} {vn vp ve va : Value} {A : Option Addr} {n c : Nat} {gno gtx : Nat} {D1 D2 D2' : DataW Unit} {RN RP : Nat → Nat} {t : Bs} {v6 : Value} {bv : Bool}
    (h : MkIn W B bk m vn vp ve (.slice A n c) va gno gtx D1 D2 RN RP) (hn : n = m.texts.length) (hm : t ∉ m.texts) (hg5 : But (fun k => some gtx = some k) W w5)
    (hm5 : w5.ownsMap Try.prog 9 (plainElem Try.prog 3) gtx (n + 1) D2') (hk : IdxD textK D2' (m.texts ++ [t])) (hg6 : But (fun k => (Value.slice A n c).ownBlock = some k) w5 w6)
    (ho : w6.ownsRow B 9 1 v6 (n + 1) (txV m.texts ++ [.string ⟨t.toArray⟩])) (hat : ∀ g, v6.ownBlock = some g → (Value.slice A n c).ownBlock = some g ∨ w5.heap.size ≤ g)
    (hbx : Blk w6 bk 106 [vn, vp, ve, .slice A n c, .map (some gno), va, .map (some gtx), .bool m.bad]) (hbv : bv = ((m.bad || decide (4096 < m.texts.length + 1)) || decide (4096 < t.length))) :
    TxRes W B bk m t vn vp ve (.slice A n c) va gno gtx D1 RN RP (.returned (.int .i64 (n : Int))) ((w6.setCell ⟨bk, 3, none⟩ v6).setCell ⟨bk, 7, none⟩ (.bool bv)) := by
  have e : m.addT t = { m with texts := m.texts ++ [t], bad := (m.bad || decide (4096 < m.texts.length + 1)) || decide (4096 < t.length) } := by unfold Mk.addT; rw [if_neg hm]
  have hset := But.of_grown (grown2t w6 bk 3 7 v6 (.bool bv))
  have e1 : ∀ k, some bk = some k → k = bk := fun k hk => by injection hk with hk; exact hk.symm
  have e2 : ∀ k, some gtx = some k → k = gtx := fun k hk => by injection hk with hk; exact hk.symm
  have hb2 : But (fun k => k = bk ∨ k = gtx ∨ (Value.slice A n c).ownBlock = some k) W ((w6.setCell ⟨bk, 3, none⟩ v6).setCell ⟨bk, 7, none⟩ (.bool bv)) :=
    ((hg5.mono (fun k _ hk => .inr (.inl (e2 k hk)))).trans hg6 (fun k _ hk => .inr (.inr hk))).trans hset (fun k _ hk => .inl (e1 k hk))
  have hpl : (plc (m.addT t).texts t : Nat) = n := by rw [idx_addT, if_neg hm, hn]
  have hbo : v6.ownBlock ≠ some bk := fun e9 => blk_own_ne hbx ho (by decide) e9
  refine ⟨v6, D2', by rw [hpl], hb2, h.text hb2 ?_ ?_ ?_ ?_ ?_, fun k hk => ?_⟩
  · have h9 := (hbx.set 3 v6).set 7 (.bool bv)
    rw [e, ← hbv]
    exact h9
  · rw [e]
    show World.ownsRow _ B 9 1 _ (m.texts ++ [t]).length (txV (m.texts ++ [t]))
    rw [List.length_append, List.length_singleton, ← hn]
    unfold txV
    rw [List.map_append]
    exact hset.own ho (fun k hk e9 => hbo (by rw [hk, e1 k e9]))
  · rw [e]
    show World.ownsMap _ _ _ _ _ (m.texts ++ [t]).length _
    rw [List.length_append, List.length_singleton, ← hn]
    refine hset.maps (hg6.maps hm5 (fun e8 => ?_)) (fun e9 => ?_)
    · exact map_own_ne h.tx h.ot e8
    · exact map_blk_ne h.tx h.box (e1 _ e9)
  · rw [e]; exact hk
  · intro k hk
    rcases hat k hk with h9 | h9
    · exact .inl h9
    · exact .inr (Nat.le_trans hg5.size h9)
  · rcases hat k hk with h9 | h9
    · exact .inl h9
    · exact .inr (Nat.le_trans hg5.size h9)
set_option maxRecDepth 100000 in
set_option maxHeartbeats 4000000 in
theorem text_any (W : World) (B bk : Nat) (m : Mk St) (vn vp ve vt va : Value) (gno gtx : Nat) (D1 D2 : DataW Unit) (RN RP : Nat → Nat) (h : MkIn W B bk m vn vp ve vt va gno gtx D1 D2 RN RP) (t : Bs) (ht : t.length ≤ 1000000) (hn : m.texts.length ≤ 1000000) :
    Calls Try.prog 68 #[.pointer (some ⟨bk, 0, none⟩), .string ⟨t.toArray⟩] W (TxRes W B bk m t vn vp ve vt va gno gtx D1 RN RP) := by
  obtain ⟨i9, z9, hi9, hz9, hsz9, hbt9, hzc9⟩ : ∃ i z, Try.prog.info? 9 = some i ∧ i.zero = some z ∧ i.size = 1 ∧ i.bytes = 16 ∧ z.cells.size = 1 := ⟨_, _, rfl, rfl, rfl, rfl, rfl⟩
  have c6 := h.box.cell 6
  have c3 := h.box.cell 3
  simp only [List.getElem?_cons_zero, List.getElem?_cons_succ] at c6 c3
  obtain ⟨s, hs⟩ : ∃ s : ByteArray, s = ⟨t.toArray⟩ := ⟨_, rfl⟩
  have hss : s.size = t.length := by rw [hs]; show t.toArray.size = _; simp
  have hko := keyOf_text t (by omega)
  rw [← hs] at hko ⊢
  obtain ⟨is, his⟩ : ∃ is, is = decide (t ∈ m.texts) := ⟨_, rfl⟩
  obtain ⟨iv, hiv⟩ : ∃ iv, iv = placeI m.texts t := ⟨_, rfl⟩
  have hlook : (Instr.lookup 103 (.map (some gtx)) (.string s) true).run Try.prog W = .ok (.tuple #[.int .i64 iv, .bool is]) W := by
    rw [idx_lookup (string_keyed Try.underlying9) Try.underlying103 h.tx h.ktx t (show t.length ≤ 9223372036854775807 by omega) hko, hiv, his]; congr
  have H := Lib.hid h
  have HW := Lib.hid (And.intro his (And.intro hiv hs))
  have HSS := Lib.hid hss
  have HKO := Lib.hid hko
  clear his hiv hs hss hko
  cases is with
  | true =>
    have hm : t ∈ m.texts := of_decide_eq_true HW.out.1.symm
    have HM := Lib.hid hm
    clear h hm
    go_enter Try.func68, Try.ntmps68
    go_wp2_with fail
    go_returns
    have e : m.addT t = m := by unfold Mk.addT; rw [if_pos HM.out]
    refine ⟨vt, D2, ?_, But.refl _ _, by rw [e]; exact H.out, fun k hk => .inl hk⟩
    rw [e, HW.out.2.1]; unfold placeI; rw [if_pos HM.out]; first | rfl | simp
  | false =>
    have hm : t ∉ m.texts := fun hm => by have := HW.out.1; simp [hm] at this
    have HM := Lib.hid hm
    obtain ⟨A, c, rfl⟩ := own_sl h.ot
    obtain ⟨n, hnn⟩ : ∃ n, n = m.texts.length := ⟨_, rfl⟩
    rw [← hnn] at hn c3 ⊢
    obtain ⟨w5, hrun, hm5, hg5⟩ := h.tx.update (string_keyed Try.underlying9) Try.underlying103 (by unfold maxLen; omega) HKO.out (plainElem_int (H := Unit) Try.underlying3 (i64_of (n : Int) (by omega) (by omega)))
    have hn9 : ∀ k, k ≠ gtx → ¬ (some gtx = some k) := fun k hk e9 => hk (by injection e9 with e9; exact e9.symm)
    have hgb := But.of_grown hg5
    have hbx5 := hgb.blk h.box (hn9 _ (map_blk_ne h.tx h.box).symm)
    have hot5 := hgb.own h.ot (fun k hk => hn9 _ (fun e9 => map_own_ne h.tx h.ot (by rw [hk, e9])))
    rw [← hnn] at hbx5 hot5 hm5
    have H5 := Lib.hid (And.intro hgb (And.intro hm5 (And.intro hbx5 hot5)))
    have HN := Lib.hid hnn
    obtain ⟨bx, hbx9⟩ : ∃ bx, bx = decide ((4096 : Int) < (n : Int) + 1) := ⟨_, rfl⟩
    have d9 : decide ((4096 : Int) < (n : Int) + 1) = bx := hbx9.symm
    have HBX := Lib.hid hbx9
    obtain ⟨by9, hby9⟩ : ∃ bx, bx = decide ((4096 : Int) < (s.size : Int)) := ⟨_, rfl⟩
    have d8 : decide ((4096 : Int) < (s.size : Int)) = by9 := hby9.symm
    have HBY := Lib.hid hby9
    obtain ⟨bd, hbd⟩ : ∃ bd, bd = m.bad := ⟨_, rfl⟩
    have HBD := Lib.hid hbd
    rw [← hbd] at H5 hbx5
    have HBV := Lib.hid (show ((m.bad || decide (4096 < m.texts.length + 1)) || decide (4096 < t.length)) = ((bd || bx) || by9) by
      rw [hbd, hbx9, hby9]
      congr 1
      · congr 1
        exact decide_eq_decide.2 (by omega)
      · exact decide_eq_decide.2 (by have := HSS.out; omega))
    have e3 := hbx5.cell 3
    have f3 := hbx5.frozen 3
    simp only [List.getElem?_cons_zero, List.getElem?_cons_succ] at e3
    have hB := H.out.hB
    have hb1 := hgb.size
    have hbl := hbx5.lt
    clear h hbx9 hby9 hbd hm hnn hm5 hg5 hbx5 hot5 hgb hn9
    go_enter Try.func68, Try.ntmps68
    go_wp2_with (first
      | (at_builtin
         refine wpList_append_own_at _ rfl (.tmp 35) (.tmp 37) 40 rfl B 9 i9 z9 1 16 Try.underlying40 hi9 hz9 hsz9 hbt9 hzc9 (by omega) (.slice A n c) n _ rfl (H5.out.2.2.2.alloc _) ⟨_, 0, none⟩ 1 1 [.string s] rfl rfl (cell_one_new _ _ _) (by intro u hu; simp at hu; subst hu; rfl) (by unfold maxLen; omega) (by omega) (by simp; omega) ?_
         intro v6 w6 hown6 hgrow6 hnil6 hat6
         have hbx := (hgrow6.block bk (by simp; omega) (fun e9 => blk_own_ne H5.out.2.2.1 H5.out.2.2.2 (by decide) e9.symm)).trans (H5.out.2.2.1.alloc _)
         have u3 := Blk.cell hbx 3
         have u7 := Blk.cell hbx 7
         have v3 := Blk.frozen hbx 3
         have v7 := Blk.frozen hbx 7
         simp only [List.getElem?_cons_zero, List.getElem?_cons_succ] at u3 u7
         have H6 := Lib.hid (And.intro hown6 (And.intro hgrow6 (And.intro hat6 hbx)))
         obtain ⟨A6, c6', rfl⟩ := own_sl hown6
         clear hown6 hgrow6 hat6 hbx hnil6
         cases bd <;> cases bx <;> cases by9))
    all_goals
      go_returns
      have hnn := HN.out
      subst hnn
      have hg6 : But (fun k => (Value.slice A m.texts.length c).ownBlock = some k) w5 w6 := ((But.of_below ((Below.refl w5.heap.size w5).alloc (Nat.le_refl _) (.cells #[.string s] 9))).mono (S' := fun k => (Value.slice A m.texts.length c).ownBlock = some k) (fun k hk e9 => by omega)).trans (But.of_grown H6.out.2.1) (fun k _ e9 => e9)
      have hbx6 := H6.out.2.2.2
      rw [HBD.out] at hbx6
      refine text_end H.out rfl HM.out H5.out.1 H5.out.2.1 (idx_snoc H.out.ktx t (show t.length ≤ 9223372036854775807 by omega) HM.out) hg6 (by have := H6.out.1; rw [HW.out.2.2] at this; exact this) (fun g hg => ?_) hbx6 (by rw [HBV.out]; rfl)
      rcases H6.out.2.2.1 with e9 | e9
      · exact .inl (by rw [← e9]; exact hg)
      · right
        have e8 := e9.symm.trans hg
        injection e8 with e8
        rw [← e8]; simp
end Go.Proofs.Ythjnkpoalbddkaa.MP
