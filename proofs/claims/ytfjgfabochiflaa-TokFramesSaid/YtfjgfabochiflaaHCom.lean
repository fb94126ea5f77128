/- Words and lemmas on blocks, rows and marks, over any program of the seat. -/
import Derived.Test.YtfjgfabochiflaaChecked
import Derived.Test.YtfjgfabochiflaaBase
import Derived.Maps.AppendAt
import Derived.RangeFuncWrites
import Derived.Handy
namespace Go.Proofs.Ytfjgfabochiflaa.H14
open Go.RowKit

/-- a block that is known whole -/
def Blk (w : World) (g : Nat) (t : TypeId) (cur : List Value) : Prop := w.heap[g]? = some (.cells cur.toArray t (0, 0))
section
variable {w w' : World} {g : Nat} {t : TypeId} {cur : List Value}
theorem Blk.lt (h : Blk w g t cur) : g < w.heap.size := (Array.getElem?_eq_some_iff.1 h).1
theorem Blk.cell (h : Blk w g t cur) (k : Nat) : w.cell? ⟨g, k, none⟩ = cur[k]? := by
  have := cell_of_row w g k cur.toArray t (0, 0) h
  rw [this]; simp
theorem Blk.frozen (h : Blk w g t cur) (k : Nat) : w.frozen? ⟨g, k, none⟩ = false := by simp [World.frozen?, show w.heap[g]? = _ from h]
theorem Blk.new (w : World) (t : TypeId) (cur : List Value) : Blk (w.alloc (.cells cur.toArray t)) w.heap.size t cur := heap_alloc_new w _
theorem Blk.same (h : Blk w g t cur) (hs : w'.heap[g]? = w.heap[g]?) : Blk w' g t cur := hs.trans h
theorem Blk.below {B : Nat} (h : Blk w g t cur) (hb : Below B w w') (hg : g < B) : Blk w' g t cur := (hb.block g hg).trans h
theorem Blk.alloc (h : Blk w g t cur) (o : Obj) : Blk (w.alloc o) g t cur := (Below.heap_alloc w o g h.lt).trans h
theorem Blk.drewN (h : Blk w g t cur) (m : Nat) : Blk (w.drewN m) g t cur := h
theorem Blk.set (h : Blk w g t cur) (k : Nat) (v : Value) : Blk (w.setCell ⟨g, k, none⟩ v) g t (cur.set k v) := by
  obtain ⟨hlt, hk⟩ := Array.getElem?_eq_some_iff.1 h
  show (w.heap.modify g _)[g]? = _
  rw [Array.getElem?_eq_getElem (by rw [Array.size_modify]; exact hlt), Array.getElem_modify_self, hk]
  simp
end

theorem made_one (v : Value) (n : Nat) : madeCells #[v] n = Array.replicate n v := by
  have h : ∀ k, (#[v] : Array Value)[k % 1]! = v := fun k => by rw [Nat.mod_one]; rfl
  unfold madeCells
  apply Array.ext
  · simp
  · intro i h1 h2
    rw [Array.getElem_map]
    exact (h _).trans (by simp)
theorem make_one (t e : TypeId) (v : Value) (bytes : Nat) (ht : Try.prog.underlying t = some (.slice e)) (hi : (Try.prog.info? e).map (fun i => (i.zero, i.size, i.bytes)) = some (some v, 1, bytes)) (hv : v.cells = #[v]) (S : Nat) (hS : S ≤ 1000000) (hb : bytes ≤ 64) (W : World) :
    (Instr.makeSlice t (.int .i64 (S : Int)) (.int .i64 (S : Int))).run Try.prog W = .ok (.slice (some ⟨W.heap.size, 0, none⟩) S S) (W.alloc (.cells (Array.replicate S v) e)) := by
  obtain ⟨i, hi, hz, h1, h2⟩ := info_parts hi
  have hm : (i.bytes : Int) * (S : Int) ≤ 64000000 := by
    have : i.bytes * S ≤ 64 * 1000000 := Nat.mul_le_mul (by omega) hS
    rw [← Int.natCast_mul]
    omega
  rw [run_makeSlice W t e i v ht hi hz .i64 .i64 (S : Int) (S : Int) (by omega) (Int.le_refl _) (by rw [h1, Int.toNat_natCast]; omega) (by omega) (by omega)]
  rw [h1, hv, Nat.mul_one, made_one, Int.toNat_natCast]

theorem own_move {w w' : World} {base n size : Nat} {e : TypeId} {v : Value} {xs : List Value} (h : w.ownsRow base e size v n xs) (hs : ∀ b o, v.ownBlock = some b → w.heap[b]? = some o → o.isCells = true → w'.heap[b]? = some o) : w'.ownsRow base e size v n xs := by
  refine ⟨h.1, ?_⟩
  rcases h.2 with h2 | ⟨g, cap, cur, hv, hb, hg, r⟩
  · exact .inl h2
  · exact .inr ⟨g, cap, cur, hv, hb, hs g _ (by rw [hv]; rfl) hg rfl, r⟩
theorem grownBy_none (w : World) : w.grownBy w none := ⟨rfl, rfl, rfl, Nat.le_refl _, fun _ _ _ => rfl⟩
theorem grownBy_drewN (w : World) (n : Nat) : w.grownBy (w.drewN n) none := ⟨rfl, rfl, rfl, Nat.le_refl _, fun _ _ _ => rfl⟩
theorem grownBy_setCell (w : World) (g k : Nat) (v : Value) : w.grownBy (w.setCell ⟨g, k, none⟩ v) (some g) := ⟨rfl, rfl, rfl, by show w.heap.size ≤ (w.heap.modify g _).size; simp, fun k _ hk => Below.heap_setCell _ _ _ k (fun e => hk (by rw [e]))⟩
def numsV (q : IntKind) (l : List Int) : List Value := l.map (.int q)
theorem numsV_snoc (q : IntKind) (l : List Int) (x : Int) : numsV q (l ++ [x]) = numsV q l ++ [.int q x] := by simp [numsV]
theorem add_plain' (b o j : Nat) : (⟨b, o, none⟩ : Addr).add j = ⟨b, o + j, none⟩ := by unfold Addr.add; split <;> simp_all
theorem own_pop {W : World} {base c n : Nat} {e : TypeId} {A : Option Addr} {xs : List Value} {x : Value} (h : W.ownsRow base e 1 (.slice A (n + 1) c) (n + 1) (xs ++ [x])) (hl : xs.length = n) : W.ownsRow base e 1 (.slice A n c) n xs := by
  rcases h.2 with ⟨_, h'⟩ | ⟨g', cap', cur, h', hb, hg, hnc, hcm, hcs, htake⟩
  · omega
  · simp only [Value.slice.injEq] at h'
    obtain ⟨rfl, _, rfl⟩ := h'
    refine ⟨by omega, .inr ⟨g', c, cur, rfl, hb, hg, by omega, hcm, hcs, ?_⟩⟩
    have h9 := congrArg (List.take n) htake
    rw [List.take_take, List.take_left' hl] at h9
    rw [← h9]
    congr 1
    omega
theorem own_cap {W : World} {base c n size : Nat} {e : TypeId} {A : Option Addr} {xs : List Value} (h : W.ownsRow base e size (.slice A n c) n xs) : n ≤ c := by
  rcases h.2 with ⟨h9, h8⟩ | ⟨g, cap, cur, h9, _, _, h8, _⟩
  · omega
  · simp only [Value.slice.injEq] at h9
    obtain ⟨_, _, rfl⟩ := h9
    exact h8
theorem own_sl {w : World} {base size n : Nat} {e : TypeId} {v : Value} {xs : List Value} (h : w.ownsRow base e size v n xs) : ∃ A c, v = .slice A n c := by
  rcases h.2 with ⟨rfl, rfl⟩ | ⟨g, cap, cur, hv, _⟩
  · exact ⟨_, _, rfl⟩
  · exact ⟨_, _, hv⟩
theorem own_ints {w : World} {base n c : Nat} {e : TypeId} {A : Option Addr} {q : IntKind} {xs : List Int} (h : w.ownsRow base e 1 (.slice A n c) n (numsV q xs)) : Arr w w.heap.size 1 A n (fun k _ => .int q (xs.getD k 0)) := fun hn => by
  obtain ⟨b, o, e, hlt, hc⟩ := Arr.of_own h hn
  have hl : xs.length = n := by have := h.1; simpa [numsV] using this
  refine ⟨b, o, e, hlt, fun k j hk hj => ?_⟩
  rw [hc k j hk hj]
  simp [numsV, show k < xs.length by omega]
theorem cell_al {W : World} {a : Addr} {v : Value} (h : W.cell? a = some v) (o : Obj) : (W.alloc o).cell? a = some v := (World.cell?_alloc_lt _ _ _ (World.block_lt_of_cell? W a h)).trans h

def falses (l : List Bool) : Nat := l.countP (fun b => !b)
theorem falses_set {l : List Bool} {j : Nat} (hj : j < l.length) (h : l.getD j false = false) : falses (l.set j true) + 1 = falses l := by
  unfold falses
  rw [List.countP_set hj]
  have e : l[j] = false := by simpa [hj] using h
  have : 0 < l.countP (fun b => !b) := List.countP_pos_iff.2 ⟨l[j], List.getElem_mem hj, by simp [e]⟩
  simp [e]
  omega
theorem getD_set {seen : List Bool} {j k : Nat} (hk : k < seen.length) : (seen.set j true).getD k false = if k = j then true else seen.getD k false := by
  by_cases e9 : k = j
  · subst e9; simp [hk]
  · rw [if_neg e9]; simp [List.getD_eq_getElem?_getD, Ne.symm e9]
theorem bools_cell {W : World} {g : Nat} {t : TypeId} {seen : List Bool} (h : Blk W g t (seen.map Value.bool)) {j : Nat} (hj : j < seen.length) : W.cell? ⟨g, j, none⟩ = some (.bool (seen.getD j false)) := by
  rw [h.cell]; simp [hj]
/-- marks that are 0 or 1 -/
def bitsV (l : List Bool) : List Value := l.map (fun b => .int .i64 (if b then 1 else 0))
theorem bitsV_get {l : List Bool} {j : Nat} (hj : j < l.length) : (bitsV l)[j]? = some (.int .i64 (if l.getD j false = true then 1 else 0)) := by
  simp [bitsV, hj]
theorem bitsV_set (l : List Bool) (j : Nat) : bitsV (l.set j true) = (bitsV l).set j (.int .i64 1) := by
  simp [bitsV, List.map_set]
theorem own_one (w : World) (x : Value) (e : TypeId) (base : Nat) (hb : base ≤ w.heap.size) : (w.alloc (.cells #[x] e)).ownsRow base e 1 (.slice (some ⟨w.heap.size, 0, none⟩) 1 1) 1 [x] :=
  ⟨rfl, .inr ⟨w.heap.size, 1, #[x], rfl, hb, heap_alloc_new w _, Nat.le_refl _, by simp [maxLen], rfl, by simp⟩⟩
/-- how much is left of a search: marks and stack -/
def srM (gs : Nat) (v : Value) (W : World) : Nat :=
  2 * (match W.heap[gs]? with | some (.cells cs _ _) => cs.toList.countP (fun v => match v with | .bool b => !b | _ => false) | _ => 0) + (match v with | .slice _ n _ => n | _ => 0)
theorem srM_eq {gs n c : Nat} {t : TypeId} {A : Option Addr} {W : World} {seen : List Bool} (h : Blk W gs t (seen.map Value.bool)) : srM gs (.slice A n c) W = 2 * falses seen + n := by
  unfold srM falses
  rw [show W.heap[gs]? = _ from h]
  simp only [List.countP_map]
  rfl
end Go.Proofs.Ytfjgfabochiflaa.H14
