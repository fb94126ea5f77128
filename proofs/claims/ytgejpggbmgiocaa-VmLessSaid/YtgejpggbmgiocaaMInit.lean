/- Merge's list: made, and filled. -/
import Derived.Test.YtgejpggbmgiocaaMLook
namespace Go.Proofs.Ytgejpggbmgiocaa
open Go.RowKit
def storeNd (v u : Value) : Sem Unit := Instr.storeAt 47 v u
theorem store_nd (v u : Value) : Instr.storeAt 47 v u = storeNd v u := rfl
theorem info47 : (Try.prog.info? 47).map (·.size) = some 3 := by kernel_rfl
theorem nd_store {W : World} {gl : Nat} {nd : List Nd} (h : Blk W gl 47 (nflat nd)) {k : Nat} (hk : k < nd.length) (v : Nd) :
    (storeNd (.pointer (some ⟨gl, k * 3, none⟩)) (.agg #[.int .i64 v.id, .int .i64 v.next, .int .i64 v.last])).run Try.prog W = .ok () (W.setCells gl (k * 3) [.int .i64 v.id, .int .i64 v.next, .int .i64 v.last]) ∧
    Blk (W.setCells gl (k * 3) [.int .i64 v.id, .int .i64 v.next, .int .i64 v.last]) gl 47 (nflat (nd.set k v)) := by
  have hc : [Value.int .i64 v.id, .int .i64 v.next, .int .i64 v.last] = cellsOfEl 3 ndF v := rfl
  refine ⟨run_storeAt_mid W gl (k * 3) 47 _ (blk_range h hk).2 info47 (by simp [Value.oneCell']), ?_⟩
  have := h.setCells (vs := cellsOfEl 3 ndF v) (o := k * 3)
  rw [hc]
  rw [flat_setEl hk] at this
  exact this
theorem make_nodes (n : Nat) (hn : n ≤ 262144) (W : World) : (Instr.makeSlice 45 (.int .i64 (n : Int)) (.int .i64 (n : Int))).run Try.prog W = .ok (.slice (some ⟨W.heap.size, 0, none⟩) n n) (W.alloc (.cells (nflat (List.replicate n nd0)).toArray 47)) := by
  obtain ⟨i, z, hi, hz, h1, hb, hc⟩ : ∃ i z, Try.prog.info? 47 = some i ∧ i.zero = some z ∧ i.size = 3 ∧ i.bytes = 24 ∧ z.cells = #[.int .i64 0, .int .i64 0, .int .i64 0] := ⟨_, _, rfl, rfl, rfl, rfl, rfl⟩
  rw [run_makeSlice W 45 47 i z Try.underlying45 hi hz .i64 .i64 (n : Int) (n : Int) (by omega) (Int.le_refl _) (by rw [h1, Int.toNat_natCast]; omega) (by rw [hb]; omega) (by omega)]
  rw [h1, hc, Int.toNat_natCast]
  have : madeCells #[.int .i64 0, .int .i64 0, .int .i64 0] (n * 3) = (nflat (List.replicate n nd0)).toArray := by
    unfold madeCells nflat flat
    rw [List.length_replicate]
    apply Array.ext
    · simp
    · intro t h8 h9
      have ht : t < n * 3 := by simpa using h8
      rw [Array.getElem_map, Array.getElem_range]
      simp only [List.getElem_toArray, List.getElem_map, List.getElem_range]
      have e1 : (List.replicate n nd0).getD (t / 3) nd0 = nd0 := by
        rw [List.getD_eq_getElem?_getD, List.getElem?_replicate]
        split <;> rfl
      rw [e1]
      rcases (by omega : t % 3 = 0 ∨ t % 3 = 1 ∨ t % 3 = 2) with e | e | e
      · rw [e]; show (#[Value.int .i64 0, .int .i64 0, .int .i64 0])[t % 3]! = _; rw [e]; rfl
      · rw [e]; show (#[Value.int .i64 0, .int .i64 0, .int .i64 0])[t % 3]! = _; rw [e]; rfl
      · rw [e]; show (#[Value.int .i64 0, .int .i64 0, .int .i64 0])[t % 3]! = _; rw [e]; rfl
  rw [this]
/-- the list when k nodes are filled -/
def ndPre (l : List Int) (k : Nat) : List Nd := (List.range l.length).map fun i => if i < k then ⟨l.getD i 0, (i : Int) + 1, (i : Int) - 1⟩ else nd0
theorem length_ndPre (l : List Int) (k : Nat) : (ndPre l k).length = l.length := by simp [ndPre]
theorem ndPre_zero (l : List Int) : ndPre l 0 = List.replicate l.length nd0 := by
  apply List.ext_getElem (by simp [ndPre])
  intro i h1 h2
  simp [ndPre]
theorem ndPre_zero' (l : List Int) (n : Nat) (h : l.length = n) : ndPre l 0 = List.replicate n nd0 := by rw [ndPre_zero, h]
theorem ndPre_set (l : List Int) (k : Nat) : (ndPre l k).set k ⟨l.getD k 0, (k : Int) + 1, (k : Int) - 1⟩ = ndPre l (k + 1) := by
  apply List.ext_getElem (by simp [ndPre])
  intro i h1 h2
  rw [List.getElem_set]
  simp only [ndPre, List.getElem_map, List.getElem_range]
  by_cases e : k = i
  · subst e; rw [if_pos rfl, if_pos (by omega)]
  · rw [if_neg e]
    by_cases h9 : i < k
    · rw [if_pos h9, if_pos (by omega)]
    · rw [if_neg h9, if_neg (by omega)]
theorem ndPre_last (l : List Int) (h0 : 0 < l.length) : (ndPre l l.length).set (l.length - 1) ⟨l.getD (l.length - 1) 0, -1, ((l.length - 1 : Nat) : Int) - 1⟩ = ndInit l := by
  apply List.ext_getElem (by simp [ndPre, ndInit])
  intro i h1 h2
  rw [List.getElem_set]
  have hi : i < l.length := by simpa [ndPre] using h1
  simp only [ndPre, ndInit, List.getElem_map, List.getElem_range]
  by_cases e : l.length - 1 = i
  · subst e
    rw [if_pos rfl, if_pos (by omega)]
  · rw [if_neg e, if_pos hi, if_neg (by omega)]
    congr 1
theorem ndPre_at (l : List Int) (k i : Nat) (hi : i < l.length) (hk : i < k) : ndAt (ndPre l k) i = ⟨l.getD i 0, (i : Int) + 1, (i : Int) - 1⟩ := by
  simp [ndAt, ndPre, hi, hk]
/-- one field of a node is written -/
theorem nd_setId {W : World} {gl : Nat} {nd : List Nd} (h : Blk W gl 47 (nflat nd)) {k : Nat} (hk : k < nd.length) (x : Int) : Blk (W.setCell ⟨gl, k * 3, none⟩ (.int .i64 x)) gl 47 (nflat (nd.set k ⟨x, (ndAt nd k).next, (ndAt nd k).last⟩)) := by
  have := h.set (k * 3 + 0) (.int .i64 x)
  rw [nflat, flat_set (j := 0) (v := .int .i64 x) (x := (⟨x, (ndAt nd k).next, (ndAt nd k).last⟩ : Nd)) hk (by omega) rfl (fun i hi hne => by
    rcases (by omega : i = 1 ∨ i = 2) with rfl | rfl <;> rfl)] at this
  exact this
theorem nd_setNext {W : World} {gl : Nat} {nd : List Nd} (h : Blk W gl 47 (nflat nd)) {k : Nat} (hk : k < nd.length) (x : Int) : Blk (W.setCell ⟨gl, k * 3 + 1, none⟩ (.int .i64 x)) gl 47 (nflat (nd.set k ⟨(ndAt nd k).id, x, (ndAt nd k).last⟩)) := by
  have := h.set (k * 3 + 1) (.int .i64 x)
  rw [nflat, flat_set (j := 1) (v := .int .i64 x) (x := (⟨(ndAt nd k).id, x, (ndAt nd k).last⟩ : Nd)) hk (by omega) rfl (fun i hi hne => by
    rcases (by omega : i = 0 ∨ i = 2) with rfl | rfl <;> rfl)] at this
  exact this
theorem nd_setLast {W : World} {gl : Nat} {nd : List Nd} (h : Blk W gl 47 (nflat nd)) {k : Nat} (hk : k < nd.length) (x : Int) : Blk (W.setCell ⟨gl, k * 3 + 2, none⟩ (.int .i64 x)) gl 47 (nflat (nd.set k ⟨(ndAt nd k).id, (ndAt nd k).next, x⟩)) := by
  have := h.set (k * 3 + 2) (.int .i64 x)
  rw [nflat, flat_set (j := 2) (v := .int .i64 x) (x := (⟨(ndAt nd k).id, (ndAt nd k).next, x⟩ : Nd)) hk (by omega) rfl (fun i hi hne => by
    rcases (by omega : i = 0 ∨ i = 1) with rfl | rfl <;> rfl)] at this
  exact this
end Go.Proofs.Ytgejpggbmgiocaa
