/- MSMem, MSMem2 of this seat, in one text. -/
import Derived.Test.YthjnkpoalbddkaaStepY
import Derived.Test.YthjnkpoalbddkaaComY
import Derived.Test.YthjnkpoalbddkaaFlatY
/- A maker in memory. -/
namespace Go.Proofs.Ythjnkpoalbddkaa.MS
open Go.RowKit Go.Maps Go.WideMaps
abbrev St := Bs
def tF (t : Bs) (_ : Nat) : Value := .string ⟨t.toArray⟩
def txV (l : List Bs) : List Value := l.map fun t => .string ⟨t.toArray⟩
/-- a row of rows: each its own block of 256 numbers -/
def slV (R : Nat → Nat) (n : Nat) : List Value := (List.range n).map fun i => .slice (some ⟨R i, 0, none⟩) 256 256
structure RowsM (W : World) (B : Nat) (v ve : Value) (rows : List (List Int)) (R : Nat → Nat) : Prop where
  own : W.ownsRow B 39 1 v rows.length (slV R rows.length)
  len : ∀ i, i < rows.length → (rows.getD i []).length = 256
  blk : ∀ i, i < rows.length → B ≤ R i ∧ Blk W (R i) 3 (numsV .i64 (rows.getD i [])) ∧ ve.ownBlock ≠ some (R i)
structure MkIn (W : World) (B bk : Nat) (m : Mk St) (vn vp ve vt va : Value) (gno gtx : Nat) (D1 D2 : DataW Unit) (RN RP : Nat → Nat) : Prop where
  hB : B ≤ W.heap.size
  hbk : B ≤ bk
  hno : B ≤ gno
  htx : B ≤ gtx
  box : Blk W bk 110 [vn, vp, ve, vt, .map (some gno), va, .map (some gtx), .bool m.bad]
  nx : RowsM W B vn ve m.next RN
  pt : RowsM W B vp ve m.put RP
  oe : W.ownsRow B 3 1 ve m.ends.length (numsV .i64 m.ends)
  ot : W.ownsRow B 9 1 vt m.texts.length (txV m.texts)
  oa : W.ownsRow B 9 1 va m.all.length (flat 1 tF [] m.all)
  no : W.ownsMap Try.prog 9 (plainElem Try.prog 3) gno m.all.length D1
  kno : IdxD textK D1 m.all
  tx : W.ownsMap Try.prog 9 (plainElem Try.prog 3) gtx m.texts.length D2
  ktx : IdxD textK D2 m.texts
  dm : gno ≠ gtx
  dnp : ∀ k, vn.ownBlock = some k → vp.ownBlock ≠ some k
  dat : ∀ k, va.ownBlock = some k → vt.ownBlock ≠ some k
section
variable {W W' : World} {B bk : Nat} {m : Mk St} {vn vp ve vt va : Value} {gno gtx : Nat} {D1 D2 : DataW Unit} {RN RP : Nat → Nat} {rows : List (List Int)} {v : Value} {R : Nat → Nat} {S : Nat → Prop}
theorem RowsM.but (h : RowsM W B v ve rows R) (hb : But S W W') (h1 : ∀ k, v.ownBlock = some k → ¬ S k) (h2 : ∀ i, i < rows.length → ¬ S (R i)) : RowsM W' B v ve rows R :=
  ⟨hb.own h.own h1, h.len, fun i hi => ⟨(h.blk i hi).1, hb.blk (h.blk i hi).2.1 (h2 i hi), (h.blk i hi).2.2⟩⟩
/-- blocks of the maker are as they were -/
theorem MkIn.but (h : MkIn W B bk m vn vp ve vt va gno gtx D1 D2 RN RP) (hb : But S W W') (hs : ∀ k, B ≤ k → ¬ S k) : MkIn W' B bk m vn vp ve vt va gno gtx D1 D2 RN RP :=
  ⟨Nat.le_trans h.hB hb.size, h.hbk, h.hno, h.htx, hb.blk h.box (hs _ h.hbk), h.nx.but hb (fun k hk => hs _ (h.nx.own.lt k hk).1) (fun i hi => hs _ (h.nx.blk i hi).1), h.pt.but hb (fun k hk => hs _ (h.pt.own.lt k hk).1) (fun i hi => hs _ (h.pt.blk i hi).1),
    hb.own h.oe (fun k hk => hs _ (h.oe.lt k hk).1), hb.own h.ot (fun k hk => hs _ (h.ot.lt k hk).1), hb.own h.oa (fun k hk => hs _ (h.oa.lt k hk).1), hb.maps h.no (hs _ h.hno), h.kno, hb.maps h.tx (hs _ h.htx), h.ktx, h.dm, h.dnp, h.dat⟩
theorem RowsM.lt (h : RowsM W B v ve rows R) : ∀ i, i < rows.length → R i < W.heap.size := fun i hi => (h.blk i hi).2.1.lt
/-- memory above is made, nothing else -/
theorem MkIn.go (h : MkIn W B bk m vn vp ve vt va gno gtx D1 D2 RN RP) (hw : Below W.heap.size W W') : MkIn W' B bk m vn vp ve vt va gno gtx D1 D2 RN RP := by
  have hb := But.of_below hw
  have e : ∀ k, k < W.heap.size → ¬ W.heap.size ≤ k := fun k hk => by omega
  exact ⟨Nat.le_trans h.hB hb.size, h.hbk, h.hno, h.htx, hb.blk h.box (e _ h.box.lt), h.nx.but hb (fun k hk => e _ (h.nx.own.lt k hk).2) (fun i hi => e _ (h.nx.lt i hi)), h.pt.but hb (fun k hk => e _ (h.pt.own.lt k hk).2) (fun i hi => e _ (h.pt.lt i hi)),
    hb.own h.oe (fun k hk => e _ (h.oe.lt k hk).2), hb.own h.ot (fun k hk => e _ (h.ot.lt k hk).2), hb.own h.oa (fun k hk => e _ (h.oa.lt k hk).2), hb.maps h.no (e _ h.no.lt), h.kno, hb.maps h.tx (e _ h.tx.lt), h.ktx, h.dm, h.dnp, h.dat⟩
theorem MkIn.drewN (h : MkIn W B bk m vn vp ve vt va gno gtx D1 D2 RN RP) (q : Nat) : MkIn (W.drewN q) B bk m vn vp ve vt va gno gtx D1 D2 RN RP := h.go (below_drewN (Below.refl _ _) q)
theorem MkIn.alloc (h : MkIn W B bk m vn vp ve vt va gno gtx D1 D2 RN RP) (o : Obj) : MkIn (W.alloc o) B bk m vn vp ve vt va gno gtx D1 D2 RN RP := h.go ((Below.refl _ _).alloc (Nat.le_refl _) _)
end
end Go.Proofs.Ythjnkpoalbddkaa.MS
/- A maker in memory: a state, a text more. -/
namespace Go.Proofs.Ythjnkpoalbddkaa.MS
open Go.RowKit Go.Maps Go.WideMaps
section
variable {W W' W5 W6 : World} {B bk : Nat} {m : Mk St} {vn vp ve vt va : Value} {gno gtx : Nat} {D1 D2 : DataW Unit} {RN RP : Nat → Nat}
/-- what is apart from a state's blocks -/
structure ApS (bk gno : Nat) (va : Value) (k : Nat) : Prop where
  b : k ≠ bk
  n : k ≠ gno
  a : va.ownBlock ≠ some k
theorem ApS.no {bk gno : Nat} {va : Value} {k : Nat} (h : ApS bk gno va k) : ¬ (k = bk ∨ k = gno ∨ va.ownBlock = some k) := fun e => by
  rcases e with e | e | e
  · exact h.b e
  · exact h.n e
  · exact h.a e
theorem ApS.blk (h : MkIn W B bk m vn vp ve vt va gno gtx D1 D2 RN RP) {g : Nat} {t : TypeId} {cur : List Value} (hb : Blk W g t cur) (h1 : t ≠ 110) (h2 : t ≠ 9) : ApS bk gno va g :=
  ⟨blk_ne hb h.box h1, fun e => map_blk_ne h.no hb e.symm, blk_own_ne hb h.oa h2⟩
theorem ApS.own (h : MkIn W B bk m vn vp ve vt va gno gtx D1 D2 RN RP) {v : Value} {e : TypeId} {base size n : Nat} {xs : List Value} (ho : W.ownsRow base e size v n xs) (h1 : e ≠ 110) (h2 : e ≠ 9) : ∀ k, v.ownBlock = some k → ApS bk gno va k := fun k hk =>
  ⟨fun e9 => blk_own_ne h.box ho (Ne.symm h1) (by rw [hk, e9]), fun e9 => map_own_ne h.no ho (by rw [hk, e9]), own_own_ne ho h.oa h2 k hk⟩
theorem ApS.text (h : MkIn W B bk m vn vp ve vt va gno gtx D1 D2 RN RP) : ∀ k, vt.ownBlock = some k → ApS bk gno va k := fun k hk =>
  ⟨fun e9 => blk_own_ne h.box h.ot (by decide) (by rw [hk, e9]), fun e9 => map_own_ne h.no h.ot (by rw [hk, e9]), fun e9 => h.dat k e9 hk⟩
theorem ApS.tx (h : MkIn W B bk m vn vp ve vt va gno gtx D1 D2 RN RP) : ApS bk gno va gtx :=
  ⟨map_blk_ne h.tx h.box, fun e => h.dm e.symm, map_own_ne h.tx h.oa⟩
/-- all but a state's blocks stay: the maker's other parts -/
theorem MkIn.state (h : MkIn W B bk m vn vp ve vt va gno gtx D1 D2 RN RP) (hb : But (fun k => k = bk ∨ k = gno ∨ va.ownBlock = some k) W W') {s : St} {va' : Value} {D1' : DataW Unit}
    (hbx : Blk W' bk 110 [vn, vp, ve, vt, .map (some gno), va', .map (some gtx), .bool (m.addS s).bad]) (ho : W'.ownsRow B 9 1 va' (m.addS s).all.length (flat 1 tF [] (m.addS s).all))
    (hm : W'.ownsMap Try.prog 9 (plainElem Try.prog 3) gno (m.addS s).all.length D1') (hk : IdxD textK D1' (m.addS s).all) (hv : ∀ k, va'.ownBlock = some k → va.ownBlock = some k ∨ W.heap.size ≤ k) : MkIn W' B bk (m.addS s) vn vp ve vt va' gno gtx D1' D2 RN RP := by
  have hl := m.addS_le s
  have e1 : (m.addS s).texts = m.texts := by unfold Mk.addS; split <;> rfl
  refine ⟨Nat.le_trans h.hB hb.size, h.hbk, h.hno, h.htx, hbx, ?_, ?_, ?_, ?_, ho, hm, hk, ?_, ?_, h.dm, h.dnp, fun k hk9 => ?_⟩
  · rw [hl.next]
    exact h.nx.but hb (fun k hk => (ApS.own h h.nx.own (by decide) (by decide) k hk).no) (fun i hi => (ApS.blk h (h.nx.blk i hi).2.1 (by decide) (by decide)).no)
  · rw [hl.put]
    exact h.pt.but hb (fun k hk => (ApS.own h h.pt.own (by decide) (by decide) k hk).no) (fun i hi => (ApS.blk h (h.pt.blk i hi).2.1 (by decide) (by decide)).no)
  · rw [hl.ends]
    exact hb.own h.oe (fun k hk => (ApS.own h h.oe (by decide) (by decide) k hk).no)
  · rw [e1]
    exact hb.own h.ot (fun k hk => (ApS.text h k hk).no)
  · rw [e1]; exact hb.maps h.tx (ApS.tx h).no
  · rw [e1]; exact h.ktx
  · rcases hv k hk9 with e | e
    · exact h.dat k e
    · intro e9
      have := (h.ot.lt k e9).2
      omega
/-- what is apart from a text's blocks -/
structure ApT (bk gtx : Nat) (vt : Value) (k : Nat) : Prop where
  b : k ≠ bk
  n : k ≠ gtx
  a : vt.ownBlock ≠ some k
theorem ApT.no {bk gtx : Nat} {vt : Value} {k : Nat} (h : ApT bk gtx vt k) : ¬ (k = bk ∨ k = gtx ∨ vt.ownBlock = some k) := fun e => by
  rcases e with e | e | e
  · exact h.b e
  · exact h.n e
  · exact h.a e
theorem ApT.blk (h : MkIn W B bk m vn vp ve vt va gno gtx D1 D2 RN RP) {g : Nat} {t : TypeId} {cur : List Value} (hb : Blk W g t cur) (h1 : t ≠ 110) (h2 : t ≠ 9) : ApT bk gtx vt g :=
  ⟨blk_ne hb h.box h1, fun e => map_blk_ne h.tx hb e.symm, blk_own_ne hb h.ot h2⟩
theorem ApT.own (h : MkIn W B bk m vn vp ve vt va gno gtx D1 D2 RN RP) {v : Value} {e : TypeId} {base size n : Nat} {xs : List Value} (ho : W.ownsRow base e size v n xs) (h1 : e ≠ 110) (h2 : e ≠ 9) : ∀ k, v.ownBlock = some k → ApT bk gtx vt k := fun k hk =>
  ⟨fun e9 => blk_own_ne h.box ho (Ne.symm h1) (by rw [hk, e9]), fun e9 => map_own_ne h.tx ho (by rw [hk, e9]), own_own_ne ho h.ot h2 k hk⟩
theorem ApT.all (h : MkIn W B bk m vn vp ve vt va gno gtx D1 D2 RN RP) : ∀ k, va.ownBlock = some k → ApT bk gtx vt k := fun k hk =>
  ⟨fun e9 => blk_own_ne h.box h.oa (by decide) (by rw [hk, e9]), fun e9 => map_own_ne h.tx h.oa (by rw [hk, e9]), h.dat k hk⟩
theorem ApT.nom (h : MkIn W B bk m vn vp ve vt va gno gtx D1 D2 RN RP) : ApT bk gtx vt gno :=
  ⟨map_blk_ne h.no h.box, h.dm, map_own_ne h.no h.ot⟩
theorem MkIn.text (h : MkIn W B bk m vn vp ve vt va gno gtx D1 D2 RN RP) (hb : But (fun k => k = bk ∨ k = gtx ∨ vt.ownBlock = some k) W W') {t : Bs} {vt' : Value} {D2' : DataW Unit}
    (hbx : Blk W' bk 110 [vn, vp, ve, vt', .map (some gno), va, .map (some gtx), .bool (m.addT t).bad]) (ho : W'.ownsRow B 9 1 vt' (m.addT t).texts.length (txV (m.addT t).texts))
    (hm : W'.ownsMap Try.prog 9 (plainElem Try.prog 3) gtx (m.addT t).texts.length D2') (hk : IdxD textK D2' (m.addT t).texts) (hv : ∀ k, vt'.ownBlock = some k → vt.ownBlock = some k ∨ W.heap.size ≤ k) : MkIn W' B bk (m.addT t) vn vp ve vt' va gno gtx D1 D2' RN RP := by
  have hl := m.addT_le t
  have e1 : (m.addT t).all = m.all := by unfold Mk.addT; split <;> rfl
  refine ⟨Nat.le_trans h.hB hb.size, h.hbk, h.hno, h.htx, hbx, ?_, ?_, ?_, ho, ?_, ?_, ?_, hm, hk, h.dm, h.dnp, fun k hk9 e9 => ?_⟩
  · rw [hl.next]
    exact h.nx.but hb (fun k hk => (ApT.own h h.nx.own (by decide) (by decide) k hk).no) (fun i hi => (ApT.blk h (h.nx.blk i hi).2.1 (by decide) (by decide)).no)
  · rw [hl.put]
    exact h.pt.but hb (fun k hk => (ApT.own h h.pt.own (by decide) (by decide) k hk).no) (fun i hi => (ApT.blk h (h.pt.blk i hi).2.1 (by decide) (by decide)).no)
  · rw [hl.ends]
    exact hb.own h.oe (fun k hk => (ApT.own h h.oe (by decide) (by decide) k hk).no)
  · rw [e1]
    exact hb.own h.oa (fun k hk => (ApT.all h k hk).no)
  · rw [e1]; exact hb.maps h.no (ApT.nom h).no
  · rw [e1]; exact h.kno
  · rcases hv k e9 with e | e
    · exact h.dat k hk9 e
    · have := (h.oa.lt k hk9).2
      omega
end
end Go.Proofs.Ythjnkpoalbddkaa.MS
