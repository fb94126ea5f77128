/- A maker in memory. -/
import Derived.Test.YthjnkpoalbddkaaMkPlain
import Derived.Test.YthjnkpoalbddkaaBut
import Derived.Test.YthjnkpoalbddkaaFlat
namespace Go.Proofs.Ythjnkpoalbddkaa.MS
open Go.RowKit Go.Maps Go.WideMaps
abbrev St := Bs
def tF (t : Bs) (_ : Nat) : Value := .string ⟨t.toArray⟩
def txV (l : List Bs) : List Value := l.map fun t => .string ⟨t.toArray⟩
/-- a row of rows: each its own block of 256 numbers -/
def slV (R : Nat → Nat) (n : Nat) : List Value := (List.range n).map fun i => .slice (some ⟨R i, 0, none⟩) 256 256
structure RowsM (W : World) (B : Nat) (v ve : Value) (rows : List (List Int)) (R : Nat → Nat) : Prop where
  own : W.ownsRow B 39 1 v rows.length (slV R rows.length)
  len : ∀ i, i < rows.length → (rows.getD i []).length = 256
  blk : ∀ i, i < rows.length → B ≤ R i ∧ Blk W (R i) 3 (numsV .i64 (rows.getD i [])) ∧ ve.ownBlock ≠ some (R i)
structure MkIn (W : World) (B bk : Nat) (m : Mk St) (vn vp ve vt va : Value) (gno gtx : Nat) (D1 D2 : DataW Unit) (RN RP : Nat → Nat) : Prop where
  hB : B ≤ W.heap.size
  hbk : B ≤ bk
  hno : B ≤ gno
  htx : B ≤ gtx
  box : Blk W bk 110 [vn, vp, ve, vt, .map (some gno), va, .map (some gtx), .bool m.bad]
  nx : RowsM W B vn ve m.next RN
  pt : RowsM W B vp ve m.put RP
  oe : W.ownsRow B 3 1 ve m.ends.length (numsV .i64 m.ends)
  ot : W.ownsRow B 9 1 vt m.texts.length (txV m.texts)
  oa : W.ownsRow B 9 1 va m.all.length (flat 1 tF [] m.all)
  no : W.ownsMap Try.prog 9 (plainElem Try.prog 3) gno m.all.length D1
  kno : IdxD textK D1 m.all
  tx : W.ownsMap Try.prog 9 (plainElem Try.prog 3) gtx m.texts.length D2
  ktx : IdxD textK D2 m.texts
  dm : gno ≠ gtx
  dnp : ∀ k, vn.ownBlock = some k → vp.ownBlock ≠ some k
  dat : ∀ k, va.ownBlock = some k → vt.ownBlock ≠ some k
section
variable {W W' : World} {B bk : Nat} {m : Mk St} {vn vp ve vt va : Value} {gno gtx : Nat} {D1 D2 : DataW Unit} {RN RP : Nat → Nat} {rows : List (List Int)} {v : Value} {R : Nat → Nat} {S : Nat → Prop}
theorem RowsM.but (h : RowsM W B v ve rows R) (hb : But S W W') (h1 : ∀ k, v.ownBlock = some k → ¬ S k) (h2 : ∀ i, i < rows.length → ¬ S (R i)) : RowsM W' B v ve rows R :=
  ⟨hb.own h.own h1, h.len, fun i hi => ⟨(h.blk i hi).1, hb.blk (h.blk i hi).2.1 (h2 i hi), (h.blk i hi).2.2⟩⟩
/-- blocks of the maker are as they were -/
theorem MkIn.but (h : MkIn W B bk m vn vp ve vt va gno gtx D1 D2 RN RP) (hb : But S W W') (hs : ∀ k, B ≤ k → ¬ S k) : MkIn W' B bk m vn vp ve vt va gno gtx D1 D2 RN RP :=
  ⟨Nat.le_trans h.hB hb.size, h.hbk, h.hno, h.htx, hb.blk h.box (hs _ h.hbk), h.nx.but hb (fun k hk => hs _ (h.nx.own.lt k hk).1) (fun i hi => hs _ (h.nx.blk i hi).1), h.pt.but hb (fun k hk => hs _ (h.pt.own.lt k hk).1) (fun i hi => hs _ (h.pt.blk i hi).1),
    hb.own h.oe (fun k hk => hs _ (h.oe.lt k hk).1), hb.own h.ot (fun k hk => hs _ (h.ot.lt k hk).1), hb.own h.oa (fun k hk => hs _ (h.oa.lt k hk).1), hb.maps h.no (hs _ h.hno), h.kno, hb.maps h.tx (hs _ h.htx), h.ktx, h.dm, h.dnp, h.dat⟩
theorem RowsM.lt (h : RowsM W B v ve rows R) : ∀ i, i < rows.length → R i < W.heap.size := fun i hi => (h.blk i hi).2.1.lt
/-- memory above is made, nothing else -/
theorem MkIn.go (h : MkIn W B bk m vn vp ve vt va gno gtx D1 D2 RN RP) (hw : Below W.heap.size W W') : MkIn W' B bk m vn vp ve vt va gno gtx D1 D2 RN RP := by
  have hb := But.of_below hw
  have e : ∀ k, k < W.heap.size → ¬ W.heap.size ≤ k := fun k hk => by omega
  exact ⟨Nat.le_trans h.hB hb.size, h.hbk, h.hno, h.htx, hb.blk h.box (e _ h.box.lt), h.nx.but hb (fun k hk => e _ (h.nx.own.lt k hk).2) (fun i hi => e _ (h.nx.lt i hi)), h.pt.but hb (fun k hk => e _ (h.pt.own.lt k hk).2) (fun i hi => e _ (h.pt.lt i hi)),
    hb.own h.oe (fun k hk => e _ (h.oe.lt k hk).2), hb.own h.ot (fun k hk => e _ (h.ot.lt k hk).2), hb.own h.oa (fun k hk => e _ (h.oa.lt k hk).2), hb.maps h.no (e _ h.no.lt), h.kno, hb.maps h.tx (e _ h.tx.lt), h.ktx, h.dm, h.dnp, h.dat⟩
theorem MkIn.drewN (h : MkIn W B bk m vn vp ve vt va gno gtx D1 D2 RN RP) (q : Nat) : MkIn (W.drewN q) B bk m vn vp ve vt va gno gtx D1 D2 RN RP := h.go (below_drewN (Below.refl _ _) q)
theorem MkIn.alloc (h : MkIn W B bk m vn vp ve vt va gno gtx D1 D2 RN RP) (o : Obj) : MkIn (W.alloc o) B bk m vn vp ve vt va gno gtx D1 D2 RN RP := h.go ((Below.refl _ _).alloc (Nat.le_refl _) _)
end
end Go.Proofs.Ythjnkpoalbddkaa.MS
