/- Whole loads and stores of structs and arrays of many cells, shut. -/
import Derived.Test.YtiaigdedkdeeoaaMiLive
import Derived.Laws.Tables
import Derived.Laws.ResultCell
namespace Go.Proofs.Ytiaigdedkdeeoaa
open Go.RowKit

def loadB (t : TypeId) (v : Value) : Sem Value := Instr.loadAt t v
def storeB (t : TypeId) (p v : Value) : Sem Unit := Instr.storeAt t p v
theorem load_26 (v : Value) : Instr.loadAt 26 v = loadB 26 v := rfl
theorem load_48 (v : Value) : Instr.loadAt 48 v = loadB 48 v := rfl
theorem load_22 (v : Value) : Instr.loadAt 22 v = loadB 22 v := rfl
theorem store_26 (p v : Value) : Instr.storeAt 26 p v = storeB 26 p v := rfl
theorem store_48 (p v : Value) : Instr.storeAt 48 p v = storeB 48 p v := rfl
theorem store_22 (p v : Value) : Instr.storeAt 22 p v = storeB 22 p v := rfl
theorem info48 : (Try.prog.info? 48).map (·.size) = some 256 := by kernel_rfl
theorem loadB_run {W : World} {g o : Nat} (t : TypeId) {ls : List Value} (hr : W.rangeAt g o ls) (h : t = 26 ∨ t = 48 ∨ t = 22) (hl : ls.length = if t = 26 then 258 else 256) : (loadB t (.pointer (some ⟨g, o, none⟩))).run Try.prog W = .ok (.agg ls.toArray) W := by
  unfold loadB
  rcases h with rfl | rfl | rfl
  · rw [run_loadAt_mid W g o 26 ls _ hr Try.underlying26 rfl (by rw [hl]; exact info26)]
  · rw [run_loadAt_mid W g o 48 ls _ hr Try.underlying48 rfl (by rw [hl]; exact info48)]
  · rw [run_loadAt_mid W g o 22 ls _ hr Try.underlying22 rfl (by rw [hl]; exact info22)]
theorem Blk.range {W : World} {g : Nat} {t : TypeId} {cs : List Value} (h : Blk W g t cs) : W.rangeAt g 0 cs := fun j v hv => by rw [Nat.zero_add, h.cell]; exact hv
theorem storeB_run {W : World} {g : Nat} (t : TypeId) {cs : List Value} (hb : Blk W g t cs) (h : t = 26 ∨ t = 48 ∨ t = 22) (ds : Array Value) (hc : cs.length = if t = 26 then 258 else 256) (hd : ds.size = if t = 26 then 258 else 256) (h1 : ds.all (·.oneCell') = true) : (storeB t (.pointer (some ⟨g, 0, none⟩)) (.agg ds)).run Try.prog W = .ok () (W.setRow g ds) := by
  simp only [storeB, Instr.storeAt, Instr.sureAddr, Sem.run_bind, Sem.run_pure, Result.andThen_ok]
  rcases h with rfl | rfl | rfl
  · exact run_storeVar_row W g 26 26 _ ds hb (by rw [hd]; exact info26) (by simp [hc, hd]) h1
  · exact run_storeVar_row W g 48 48 _ ds hb (by rw [hd]; exact info48) (by simp [hc, hd]) h1
  · exact run_storeVar_row W g 22 22 _ ds hb (by rw [hd]; exact info22) (by simp [hc, hd]) h1
theorem Blk.row {W : World} {g : Nat} {t : TypeId} {cs : List Value} (h : Blk W g t cs) (ds : Array Value) : Blk (W.setRow g ds) g t ds.toList := setRow_heap W g _ _ t _ h
theorem Blk.row_other {W : World} {g g' : Nat} {t : TypeId} {cs : List Value} (h : Blk W g t cs) (ds : Array Value) (hg : g ≠ g') : Blk (W.setRow g' ds) g t cs := (setRow_other W g' g ds hg).trans h
theorem but_setRow (W : World) (g : Nat) (ds : Array Value) : But (fun k => k = g) W (W.setRow g ds) :=
  ⟨rfl, rfl, rfl, by simp [World.setRow], fun k _ hn => setRow_other W g k ds hn⟩
def zs48 : Array Value := (List.replicate 256 (Value.int .i64 0)).toArray
def zs26 : Array Value := (List.replicate 256 (Value.int .u8 0) ++ [Value.slice none 0 0, Value.slice none 0 0]).toArray
def zs22 : Array Value := (List.replicate 256 (Value.int .u8 0)).toArray
set_option maxRecDepth 100000 in
theorem zeroV48 (W : World) : (zeroValue 48).run Try.prog W = .ok (.agg zs48) W := by kernel_rfl
set_option maxRecDepth 100000 in
theorem zeroV26 (W : World) : (zeroValue 26).run Try.prog W = .ok (.agg zs26) W := by kernel_rfl
set_option maxRecDepth 100000 in
theorem zeroV22 (W : World) : (zeroValue 22).run Try.prog W = .ok (.agg zs22) W := by kernel_rfl
theorem blk_alloc (W : World) (t : TypeId) (cs : Array Value) : Blk (W.alloc (.cells cs t)) W.heap.size t cs.toList := heap_alloc_new W _
/-- rows of 256 numbers -/
def rowV (r : List Int) : List Value := (List.range 256).map (fun b => .int .i64 (r.getD b 0))
theorem rowV_len (r : List Int) : (rowV r).length = 256 := by rw [rowV, List.length_map, List.length_range]
theorem rowV_get (r : List Int) {b : Nat} (h : b < 256) : (rowV r)[b]? = some (.int .i64 (r.getD b 0)) := by
  rw [rowV, List.getElem?_map, List.getElem?_range h]; rfl
theorem rowV_one (r : List Int) : (rowV r).toArray.all (·.oneCell') = true := by
  rw [Array.all_eq_true_iff_forall_mem]
  intro x hx
  simp only [rowV, List.mem_toArray, List.mem_map] at hx
  obtain ⟨b, _, rfl⟩ := hx
  rfl
def WideC (wide : List (List Int)) : Nat → Nat → Value := fun k j => .int .i64 ((wide.getD k []).getD j 0)
theorem wide_range {W : World} {B : Nat} {A : Option Addr} {n : Nat} {wide : List (List Int)} (h : Arr W B 256 A n (WideC wide)) {k : Nat} (hk : k < n) : ∃ b off, A = some ⟨b, off, none⟩ ∧ b < B ∧ W.rangeAt b (off + k * 256) (rowV (wide.getD k [])) := by
  obtain ⟨b, off, e, hlt, hc⟩ := h (by omega)
  refine ⟨b, off, e, hlt, fun j v hv => ?_⟩
  have hj : j < 256 := by rw [← rowV_len (wide.getD k [])]; exact (List.getElem?_eq_some_iff.1 hv).1
  rw [rowV_get _ hj] at hv
  rw [show off + k * 256 + j = off + (k * 256 + j) by omega, hc k j hk hj]
  exact hv
end Go.Proofs.Ytiaigdedkdeeoaa
