/- Tokens' list: filled; its fields; what is left to do. -/
import Derived.Test.YtklklmaclaohaaaTkB
namespace Go.Proofs.Ytklklmaclaohaaa
open Go.RowKit Go.Maps Go.WideMaps
/-- a text's bytes, as ids -/
def bytesI (s : ByteArray) : List Int := s.data.toList.map fun b => (b.toNat : Int)
theorem length_bytesI (s : ByteArray) : (bytesI s).length = s.size := by unfold bytesI; rw [List.length_map]; rfl
theorem index_bytes (s : ByteArray) (k : Nat) (h : k < s.size) : 0 ≤ (bytesI s).getD k 0 ∧ (bytesI s).getD k 0 < 256 ∧ ∀ W, (Instr.index 9 (.string s) (.int .i64 (k : Int))).run Try.prog W = .ok (.int .u8 ((bytesI s).getD k 0)) W := by
  have h' : k < s.data.size := h
  have e : (bytesI s).getD k 0 = ((s[k]'h).toNat : Int) := by
    unfold bytesI
    rw [List.getD, List.getElem?_map, Array.getElem?_toList, Array.getElem?_eq_getElem h']
    rfl
  have := (s[k]'h).toNat_lt
  refine ⟨by omega, by omega, fun W => ?_⟩
  rw [run_index_string W 9 s .i64 k Try.underlying9, dif_pos ⟨by omega, by omega⟩, e]
  rfl
/-- the list when k nodes are filled -/
def ndT (l : List Int) (k : Nat) : List Nd := (List.range k).map fun i => ⟨l.getD i 0, (i : Int) + 1, (i : Int) - 1⟩
theorem length_ndT (l : List Int) (k : Nat) : (ndT l k).length = k := by simp [ndT]
theorem ndT_snoc (l : List Int) (k : Nat) : ndT l (k + 1) = ndT l k ++ [⟨l.getD k 0, (k : Int) + 1, (k : Int) - 1⟩] := by
  unfold ndT
  rw [List.range_succ, List.map_append]
  rfl
theorem ndT_at (l : List Int) (k i : Nat) (hi : i < k) : ndAt (ndT l k) i = ⟨l.getD i 0, (i : Int) + 1, (i : Int) - 1⟩ := by
  simp [ndAt, ndT, hi]
theorem ndT_last (l : List Int) (h0 : 0 < l.length) : (ndT l l.length).set (l.length - 1) ⟨l.getD (l.length - 1) 0, -1, ((l.length - 1 : Nat) : Int) - 1⟩ = ndInit l := by
  apply List.ext_getElem (by simp [ndT, ndInit])
  intro i h1 h2
  rw [List.getElem_set]
  have hi : i < l.length := by simpa [ndT] using h1
  simp only [ndT, ndInit, List.getElem_map, List.getElem_range]
  by_cases e : l.length - 1 = i
  · subst e
    rw [if_pos rfl, if_pos (by omega)]
  · rw [if_neg e, if_neg (by omega)]
    congr 1
/-- one field of a node is written -/
theorem nd_setId {W : World} {B gl n cap : Nat} {nd : List Nd} (h : W.ownsRow B 64 3 (.slice (some ⟨gl, 0, none⟩) n cap) n (nflat nd)) {k : Nat} (hk : k < nd.length) (x : Int) : (W.setCell ⟨gl, k * 3, none⟩ (.int .i64 x)).ownsRow B 64 3 (.slice (some ⟨gl, 0, none⟩) n cap) n (nflat (nd.set k ⟨x, (ndAt nd k).next, (ndAt nd k).last⟩)) := by
  have := (h.stored (k * 3 + 0) (.int .i64 x)).1
  rw [nflat, flat_set (j := 0) (v := .int .i64 x) (x := (⟨x, (ndAt nd k).next, (ndAt nd k).last⟩ : Nd)) hk (by omega) rfl (fun i hi hne => by
    rcases (by omega : i = 1 ∨ i = 2) with rfl | rfl <;> rfl)] at this
  exact this
theorem nd_setNext {W : World} {B gl n cap : Nat} {nd : List Nd} (h : W.ownsRow B 64 3 (.slice (some ⟨gl, 0, none⟩) n cap) n (nflat nd)) {k : Nat} (hk : k < nd.length) (x : Int) : (W.setCell ⟨gl, k * 3 + 1, none⟩ (.int .i64 x)).ownsRow B 64 3 (.slice (some ⟨gl, 0, none⟩) n cap) n (nflat (nd.set k ⟨(ndAt nd k).id, x, (ndAt nd k).last⟩)) := by
  have := (h.stored (k * 3 + 1) (.int .i64 x)).1
  rw [nflat, flat_set (j := 1) (v := .int .i64 x) (x := (⟨(ndAt nd k).id, x, (ndAt nd k).last⟩ : Nd)) hk (by omega) rfl (fun i hi hne => by
    rcases (by omega : i = 0 ∨ i = 2) with rfl | rfl <;> rfl)] at this
  exact this
theorem nd_setLast {W : World} {B gl n cap : Nat} {nd : List Nd} (h : W.ownsRow B 64 3 (.slice (some ⟨gl, 0, none⟩) n cap) n (nflat nd)) {k : Nat} (hk : k < nd.length) (x : Int) : (W.setCell ⟨gl, k * 3 + 2, none⟩ (.int .i64 x)).ownsRow B 64 3 (.slice (some ⟨gl, 0, none⟩) n cap) n (nflat (nd.set k ⟨(ndAt nd k).id, (ndAt nd k).next, x⟩)) := by
  have := (h.stored (k * 3 + 2) (.int .i64 x)).1
  rw [nflat, flat_set (j := 2) (v := .int .i64 x) (x := (⟨(ndAt nd k).id, (ndAt nd k).next, x⟩ : Nd)) hk (by omega) rfl (fun i hi hne => by
    rcases (by omega : i = 0 ∨ i = 1) with rfl | rfl <;> rfl)] at this
  exact this
/-- Tokens' memory while its list is filled -/
structure T1 (S : Nat → Prop) (w0 : World) (B ge gm be bl : Nat) (fv : Value) (D : DataW Unit) (kk : Nat) (F : Int → Int → Option Nat) (W : World) (lv : Value) (k : Nat) (nd : List Nd) : Prop where
  kept : But S w0 W
  eg : Eg W B ge gm fv (.slice none 0 0) 0 D kk F
  eb : Blk W be 24 [.pointer (some ⟨ge, 0, none⟩)]
  lb : Blk W bl 61 [lv]
  no : W.ownsRow B 64 3 lv k (nflat nd)
  len : nd.length = k
  hB : B ≤ w0.heap.size
  wge : ge < w0.heap.size
  wgm : gm < w0.heap.size
  wfv : ∀ k, fv.ownBlock = some k → k < w0.heap.size
  wbe : w0.heap.size ≤ be
  wbl : w0.heap.size ≤ bl
  nbb : be ≠ bl
  vs : ∀ g, lv.ownBlock = some g → (g < w0.heap.size → S g) ∧ g ≠ ge ∧ g ≠ gm ∧ g ≠ be ∧ g ≠ bl ∧ fv.ownBlock ≠ some g
section
variable {S : Nat → Prop} {w0 : World} {B ge gm be bl : Nat} {fv : Value} {D : DataW Unit} {kk : Nat} {F : Int → Int → Option Nat} {W W' W2 : World} {lv lv' : Value} {k : Nat} {nd nd' : List Nd}
theorem T1.go (h : T1 S w0 B ge gm be bl fv D kk F W lv k nd) (hb : Below W.heap.size W W') : T1 S w0 B ge gm be bl fv D kk F W' lv k nd := by
  have hb2 := But.of_below hb
  have l1 := h.eb.lt
  have l2 := h.lb.lt
  have l3 := h.kept.size
  have l4 := h.wge
  have l5 := h.wgm
  exact ⟨h.kept.trans hb2 (fun k hk e => by omega), h.eg.go hb, hb2.blk h.eb (by omega), hb2.blk h.lb (by omega), hb2.own h.no (fun k hk => by have := (h.no.lt k hk).2; omega), h.len, h.hB, h.wge, h.wgm, h.wfv, h.wbe, h.wbl, h.nbb, h.vs⟩
/-- the list has grown, and its box holds it -/
theorem T1.grow (h : T1 S w0 B ge gm be bl fv D kk F W lv k nd) (hg : W.grownBy W2 lv.ownBlock) (ho : W2.ownsRow B 64 3 lv' (k + 1) (nflat nd')) (hl : nd'.length = k + 1) (hv : ∀ g, lv'.ownBlock = some g → lv.ownBlock = some g ∨ W.heap.size ≤ g) :
    T1 S w0 B ge gm be bl fv D kk F (W2.setCell ⟨bl, 0, none⟩ lv') lv' (k + 1) nd' := by
  have hb1 := But.of_grown hg
  have hb2 := But.of_grown (grownBy_setCell W2 bl 0 lv')
  have l1 := h.eb.lt
  have l2 := h.lb.lt
  have l3 := h.kept.size
  have l4 := h.wge
  have l5 := h.wgm
  have l6 := h.wbl
  have n1 : ∀ x, (∃ g, lv.ownBlock = some g ∧ x = g) ↔ lv.ownBlock = some x := fun x => ⟨fun ⟨g, h1, h2⟩ => by rw [h1, h2], fun h1 => ⟨x, h1, rfl⟩⟩
  have b1 : lv.ownBlock ≠ some ge := fun e => (h.vs ge e).2.1 rfl
  have b2 : lv.ownBlock ≠ some gm := fun e => (h.vs gm e).2.2.1 rfl
  have b3 : lv.ownBlock ≠ some be := fun e => (h.vs be e).2.2.2.1 rfl
  have b4 : lv.ownBlock ≠ some bl := fun e => (h.vs bl e).2.2.2.2.1 rfl
  have bf : ∀ x, fv.ownBlock = some x → lv.ownBlock ≠ some x := fun x hx e => (h.vs x e).2.2.2.2.2 hx
  have c1 : ∀ x, x ≠ bl → ¬ (some bl = some x) := fun x hx e => hx (by injection e with e; exact e.symm)
  have hvs : ∀ g, lv'.ownBlock = some g → (g < w0.heap.size → S g) ∧ g ≠ ge ∧ g ≠ gm ∧ g ≠ be ∧ g ≠ bl ∧ fv.ownBlock ≠ some g := fun g hg9 => by
    rcases hv g hg9 with e | e
    · exact h.vs g e
    · exact ⟨fun h9 => by omega, by omega, by omega, by omega, by omega, fun h9 => by have := h.wfv g h9; omega⟩
  refine ⟨(h.kept.trans hb1 (fun x hx e => (h.vs x e).1 hx)).trans hb2 (fun x hx e => by injection e with e; omega), (h.eg.but hb1 b1 b2 bf (fun x hx => by cases hx)).but hb2 (c1 _ (by omega)) (c1 _ (by omega)) (fun x hx => c1 _ (by have := h.wfv x hx; omega)) (fun x hx => by cases hx),
    hb2.blk (hb1.blk h.eb b3) (c1 _ h.nbb), (hb1.blk h.lb b4).set 0 lv', hb2.own ho (fun x hx => c1 _ (hvs x hx).2.2.2.2.1), hl, h.hB, l4, l5, h.wfv, h.wbe, h.wbl, h.nbb, hvs⟩
end
end Go.Proofs.Ytklklmaclaohaaa
