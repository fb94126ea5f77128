/- MCom, MBut of this seat, in one text. -/
import Derived.Test.YtfjhcoeehjephaaChecked
import Derived.Test.YtfjhcoeehjephaaNfaMe
import Derived.Maps.AppendAt
import Derived.RangeFuncWrites
import Derived.Handy
import Derived.Maps.OwnSet
/- Words and lemmas on blocks, rows and marks, over any program of the seat. -/
namespace Go.Proofs.Ytfjhcoeehjephaa.M9
open Go.RowKit

/-- a block that is known whole -/
def Blk (w : World) (g : Nat) (t : TypeId) (cur : List Value) : Prop := w.heap[g]? = some (.cells cur.toArray t (0, 0))
section
variable {w w' : World} {g : Nat} {t : TypeId} {cur : List Value}
theorem Blk.lt (h : Blk w g t cur) : g < w.heap.size := (Array.getElem?_eq_some_iff.1 h).1
theorem Blk.cell (h : Blk w g t cur) (k : Nat) : w.cell? ⟨g, k, none⟩ = cur[k]? := by
  have := cell_of_row w g k cur.toArray t (0, 0) h
  rw [this]; simp
theorem Blk.frozen (h : Blk w g t cur) (k : Nat) : w.frozen? ⟨g, k, none⟩ = false := by simp [World.frozen?, show w.heap[g]? = _ from h]
theorem Blk.new (w : World) (t : TypeId) (cur : List Value) : Blk (w.alloc (.cells cur.toArray t)) w.heap.size t cur := heap_alloc_new w _
theorem Blk.same (h : Blk w g t cur) (hs : w'.heap[g]? = w.heap[g]?) : Blk w' g t cur := hs.trans h
theorem Blk.below {B : Nat} (h : Blk w g t cur) (hb : Below B w w') (hg : g < B) : Blk w' g t cur := (hb.block g hg).trans h
theorem Blk.alloc (h : Blk w g t cur) (o : Obj) : Blk (w.alloc o) g t cur := (Below.heap_alloc w o g h.lt).trans h
theorem Blk.drewN (h : Blk w g t cur) (m : Nat) : Blk (w.drewN m) g t cur := h
theorem Blk.set (h : Blk w g t cur) (k : Nat) (v : Value) : Blk (w.setCell ⟨g, k, none⟩ v) g t (cur.set k v) := by
  obtain ⟨hlt, hk⟩ := Array.getElem?_eq_some_iff.1 h
  show (w.heap.modify g _)[g]? = _
  rw [Array.getElem?_eq_getElem (by rw [Array.size_modify]; exact hlt), Array.getElem_modify_self, hk]
  simp
end

theorem made_one (v : Value) (n : Nat) : madeCells #[v] n = Array.replicate n v := by
  have h : ∀ k, (#[v] : Array Value)[k % 1]! = v := fun k => by rw [Nat.mod_one]; rfl
  unfold madeCells
  apply Array.ext
  · simp
  · intro i h1 h2
    rw [Array.getElem_map]
    exact (h _).trans (by simp)
theorem make_one (t e : TypeId) (v : Value) (bytes : Nat) (ht : Try.prog.underlying t = some (.slice e)) (hi : (Try.prog.info? e).map (fun i => (i.zero, i.size, i.bytes)) = some (some v, 1, bytes)) (hv : v.cells = #[v]) (S : Nat) (hS : S ≤ 1000000) (hb : bytes ≤ 64) (W : World) :
    (Instr.makeSlice t (.int .i64 (S : Int)) (.int .i64 (S : Int))).run Try.prog W = .ok (.slice (some ⟨W.heap.size, 0, none⟩) S S) (W.alloc (.cells (Array.replicate S v) e)) := by
  obtain ⟨i, hi, hz, h1, h2⟩ := info_parts hi
  have hm : (i.bytes : Int) * (S : Int) ≤ 64000000 := by
    have : i.bytes * S ≤ 64 * 1000000 := Nat.mul_le_mul (by omega) hS
    rw [← Int.natCast_mul]
    omega
  rw [run_makeSlice W t e i v ht hi hz .i64 .i64 (S : Int) (S : Int) (by omega) (Int.le_refl _) (by rw [h1, Int.toNat_natCast]; omega) (by omega) (by omega)]
  rw [h1, hv, Nat.mul_one, made_one, Int.toNat_natCast]

theorem own_move {w w' : World} {base n size : Nat} {e : TypeId} {v : Value} {xs : List Value} (h : w.ownsRow base e size v n xs) (hs : ∀ b o, v.ownBlock = some b → w.heap[b]? = some o → o.isCells = true → w'.heap[b]? = some o) : w'.ownsRow base e size v n xs := by
  refine ⟨h.1, ?_⟩
  rcases h.2 with h2 | ⟨g, cap, cur, hv, hb, hg, r⟩
  · exact .inl h2
  · exact .inr ⟨g, cap, cur, hv, hb, hs g _ (by rw [hv]; rfl) hg rfl, r⟩
theorem grownBy_none (w : World) : w.grownBy w none := ⟨rfl, rfl, rfl, Nat.le_refl _, fun _ _ _ => rfl⟩
theorem grownBy_drewN (w : World) (n : Nat) : w.grownBy (w.drewN n) none := ⟨rfl, rfl, rfl, Nat.le_refl _, fun _ _ _ => rfl⟩
theorem grownBy_setCell (w : World) (g k : Nat) (v : Value) : w.grownBy (w.setCell ⟨g, k, none⟩ v) (some g) := ⟨rfl, rfl, rfl, by show w.heap.size ≤ (w.heap.modify g _).size; simp, fun k _ hk => Below.heap_setCell _ _ _ k (fun e => hk (by rw [e]))⟩
def numsV (q : IntKind) (l : List Int) : List Value := l.map (.int q)
theorem numsV_snoc (q : IntKind) (l : List Int) (x : Int) : numsV q (l ++ [x]) = numsV q l ++ [.int q x] := by simp [numsV]
theorem add_plain' (b o j : Nat) : (⟨b, o, none⟩ : Addr).add j = ⟨b, o + j, none⟩ := by unfold Addr.add; split <;> simp_all
theorem own_pop {W : World} {base c n : Nat} {e : TypeId} {A : Option Addr} {xs : List Value} {x : Value} (h : W.ownsRow base e 1 (.slice A (n + 1) c) (n + 1) (xs ++ [x])) (hl : xs.length = n) : W.ownsRow base e 1 (.slice A n c) n xs := by
  rcases h.2 with ⟨_, h'⟩ | ⟨g', cap', cur, h', hb, hg, hnc, hcm, hcs, htake⟩
  · omega
  · simp only [Value.slice.injEq] at h'
    obtain ⟨rfl, _, rfl⟩ := h'
    refine ⟨by omega, .inr ⟨g', c, cur, rfl, hb, hg, by omega, hcm, hcs, ?_⟩⟩
    have h9 := congrArg (List.take n) htake
    rw [List.take_take, List.take_left' hl] at h9
    rw [← h9]
    congr 1
    omega
theorem own_cap {W : World} {base c n size : Nat} {e : TypeId} {A : Option Addr} {xs : List Value} (h : W.ownsRow base e size (.slice A n c) n xs) : n ≤ c := by
  rcases h.2 with ⟨h9, h8⟩ | ⟨g, cap, cur, h9, _, _, h8, _⟩
  · omega
  · simp only [Value.slice.injEq] at h9
    obtain ⟨_, _, rfl⟩ := h9
    exact h8
theorem own_sl {w : World} {base size n : Nat} {e : TypeId} {v : Value} {xs : List Value} (h : w.ownsRow base e size v n xs) : ∃ A c, v = .slice A n c := by
  rcases h.2 with ⟨rfl, rfl⟩ | ⟨g, cap, cur, hv, _⟩
  · exact ⟨_, _, rfl⟩
  · exact ⟨_, _, hv⟩
theorem own_ints {w : World} {base n c : Nat} {e : TypeId} {A : Option Addr} {q : IntKind} {xs : List Int} (h : w.ownsRow base e 1 (.slice A n c) n (numsV q xs)) : Arr w w.heap.size 1 A n (fun k _ => .int q (xs.getD k 0)) := fun hn => by
  obtain ⟨b, o, e, hlt, hc⟩ := Arr.of_own h hn
  have hl : xs.length = n := by have := h.1; simpa [numsV] using this
  refine ⟨b, o, e, hlt, fun k j hk hj => ?_⟩
  rw [hc k j hk hj]
  simp [numsV, show k < xs.length by omega]
theorem cell_al {W : World} {a : Addr} {v : Value} (h : W.cell? a = some v) (o : Obj) : (W.alloc o).cell? a = some v := (World.cell?_alloc_lt _ _ _ (World.block_lt_of_cell? W a h)).trans h

def falses (l : List Bool) : Nat := l.countP (fun b => !b)
theorem falses_set {l : List Bool} {j : Nat} (hj : j < l.length) (h : l.getD j false = false) : falses (l.set j true) + 1 = falses l := by
  unfold falses
  rw [List.countP_set hj]
  have e : l[j] = false := by simpa [hj] using h
  have : 0 < l.countP (fun b => !b) := List.countP_pos_iff.2 ⟨l[j], List.getElem_mem hj, by simp [e]⟩
  simp [e]
  omega
theorem getD_set {seen : List Bool} {j k : Nat} (hk : k < seen.length) : (seen.set j true).getD k false = if k = j then true else seen.getD k false := by
  by_cases e9 : k = j
  · subst e9; simp [hk]
  · rw [if_neg e9]; simp [List.getD_eq_getElem?_getD, Ne.symm e9]
theorem bools_cell {W : World} {g : Nat} {t : TypeId} {seen : List Bool} (h : Blk W g t (seen.map Value.bool)) {j : Nat} (hj : j < seen.length) : W.cell? ⟨g, j, none⟩ = some (.bool (seen.getD j false)) := by
  rw [h.cell]; simp [hj]
/-- marks that are 0 or 1 -/
def bitsV (l : List Bool) : List Value := l.map (fun b => .int .i64 (if b then 1 else 0))
theorem bitsV_get {l : List Bool} {j : Nat} (hj : j < l.length) : (bitsV l)[j]? = some (.int .i64 (if l.getD j false = true then 1 else 0)) := by
  simp [bitsV, hj]
theorem bitsV_set (l : List Bool) (j : Nat) : bitsV (l.set j true) = (bitsV l).set j (.int .i64 1) := by
  simp [bitsV, List.map_set]
theorem own_one (w : World) (x : Value) (e : TypeId) (base : Nat) (hb : base ≤ w.heap.size) : (w.alloc (.cells #[x] e)).ownsRow base e 1 (.slice (some ⟨w.heap.size, 0, none⟩) 1 1) 1 [x] :=
  ⟨rfl, .inr ⟨w.heap.size, 1, #[x], rfl, hb, heap_alloc_new w _, Nat.le_refl _, by simp [maxLen], rfl, by simp⟩⟩
/-- how much is left of a search: marks and stack -/
def srM (gs : Nat) (v : Value) (W : World) : Nat :=
  2 * (match W.heap[gs]? with | some (.cells cs _ _) => cs.toList.countP (fun v => match v with | .bool b => !b | _ => false) | _ => 0) + (match v with | .slice _ n _ => n | _ => 0)
theorem srM_eq {gs n c : Nat} {t : TypeId} {A : Option Addr} {W : World} {seen : List Bool} (h : Blk W gs t (seen.map Value.bool)) : srM gs (.slice A n c) W = 2 * falses seen + n := by
  unfold srM falses
  rw [show W.heap[gs]? = _ from h]
  simp only [List.countP_map]
  rfl
end Go.Proofs.Ytfjhcoeehjephaa.M9
/- All elder blocks but some are as they were. -/
namespace Go.Proofs.Ytfjhcoeehjephaa.M9
open Go.RowKit Go.Maps Go.WideMaps
/-- all elder blocks but those in S are as they were -/
structure But (S : Nat → Prop) (w w' : World) : Prop where
  os : w'.os = w.os
  tape : w'.tape = w.tape
  output : w'.output = w.output
  size : w.heap.size ≤ w'.heap.size
  block : ∀ k, k < w.heap.size → ¬ S k → w'.heap[k]? = w.heap[k]?
section
variable {S S' : Nat → Prop} {w w1 w2 : World}
theorem But.refl (S : Nat → Prop) (w : World) : But S w w := ⟨rfl, rfl, rfl, Nat.le_refl _, fun _ _ _ => rfl⟩
theorem But.trans (h : But S w w1) (h2 : But S' w1 w2) (hs : ∀ k, k < w.heap.size → S' k → S k) : But S w w2 :=
  ⟨h2.os.trans h.os, h2.tape.trans h.tape, h2.output.trans h.output, Nat.le_trans h.size h2.size, fun k hk hn =>
    (h2.block k (Nat.lt_of_lt_of_le hk h.size) (fun e => hn (hs k hk e))).trans (h.block k hk hn)⟩
theorem But.of_grown {row : Option Nat} (h : w.grownBy w1 row) : But (fun k => row = some k) w w1 :=
  ⟨h.os, h.tape, h.output, h.size, fun k hk hn => h.block k hk (fun e => hn e.symm)⟩
theorem But.of_below {B : Nat} (h : Below B w w1) : But (fun k => B ≤ k) w w1 :=
  ⟨h.os, h.tape, h.output, h.size, fun k _ hn => h.block k (by omega)⟩
theorem But.below {B : Nat} (h : But S w w1) (hB : B ≤ w.heap.size) (hs : ∀ k, S k → B ≤ k) : Below B w w1 :=
  ⟨h.os, h.tape, h.output, h.size, fun k hk => h.block k (by omega) (fun e => by have := hs k e; omega)⟩
theorem But.mono (h : But S w w1) (hs : ∀ k, k < w.heap.size → S k → S' k) : But S' w w1 :=
  ⟨h.os, h.tape, h.output, h.size, fun k hk hn => h.block k hk (fun e => hn (hs k hk e))⟩
theorem But.blk {g : Nat} {t : TypeId} {cur : List Value} (h : But S w w1) (hb : Blk w g t cur) (hn : ¬ S g) : Blk w1 g t cur := (h.block g hb.lt hn).trans hb
theorem But.own {base size n : Nat} {e : TypeId} {v : Value} {xs : List Value} (h : But S w w1) (ho : w.ownsRow base e size v n xs) (hn : ∀ k, v.ownBlock = some k → ¬ S k) : w1.ownsRow base e size v n xs :=
  own_move ho (fun k _ e h9 _ => (h.block k (ho.lt k e).2 (hn k e)).trans h9)
end
theorem own_nilA {w : World} {base size n c : Nat} {e : TypeId} {A : Option Addr} {xs : List Value} (h : w.ownsRow base e size (.slice A n c) n xs) : A = none → n = 0 ∧ c = 0 := fun hA => by
  rcases h.2 with ⟨h1, h2⟩ | ⟨g, cap, cur, hv, _⟩
  · injection h1 with h3 h4 h5
    exact ⟨h2, h5⟩
  · injection hv with h3
    rw [hA] at h3
    cases h3
theorem But.maps {S : Nat → Prop} {w w1 : World} {P : Program} {kt : TypeId} {R : Value → Option (DataW Unit × List MemPlace)} {g k : Nat} {D : DataW Unit} (h : But S w w1) (hm : w.ownsMap P kt R g k D) (hn : ¬ S g) : w1.ownsMap P kt R g k D := by
  have hlt := hm.lt
  obtain ⟨es, c, h1, h2⟩ := hm
  exact ⟨es, c, (h.block g hlt hn).trans h1, h2⟩
/-! Blocks of other kinds are other blocks. -/
theorem blk_ne {W : World} {g g' : Nat} {t t' : TypeId} {cur cur' : List Value} (h : Blk W g t cur) (h' : Blk W g' t' cur') (hne : t ≠ t') : g ≠ g' := fun e => by
  subst e
  have := h.symm.trans h'
  injection this with this
  injection this with _ h2
  exact hne h2
theorem blk_own_ne {W : World} {g : Nat} {t e : TypeId} {cur : List Value} {base size n : Nat} {v : Value} {xs : List Value} (h : Blk W g t cur) (ho : W.ownsRow base e size v n xs) (hne : t ≠ e) : v.ownBlock ≠ some g := fun hv => by
  rcases ho.2 with ⟨rfl, _⟩ | ⟨g', cap, cur', rfl, _, hg, _⟩
  · cases hv
  · injection hv with hv
    simp only at hv
    subst hv
    have := h.symm.trans hg
    injection this with this
    injection this with _ h2
    exact hne h2
theorem own_own_ne {W : World} {e e' : TypeId} {base size n base' size' n' : Nat} {v v' : Value} {xs xs' : List Value} (h : W.ownsRow base e size v n xs) (h' : W.ownsRow base' e' size' v' n' xs') (hne : e ≠ e') : ∀ k, v.ownBlock = some k → v'.ownBlock ≠ some k := fun k hk => by
  rcases h.2 with ⟨rfl, _⟩ | ⟨g, cap, cur, rfl, _, hg, _⟩
  · cases hk
  · injection hk with hk
    simp only at hk
    subst hk
    exact blk_own_ne (cur := cur.toList) (show W.heap[g]? = some (.cells cur.toList.toArray e (0, 0)) by simpa using hg) h' hne
theorem map_blk_ne {W : World} {P : Program} {kt : TypeId} {R : Value → Option (DataW Unit × List MemPlace)} {g k g' : Nat} {D : DataW Unit} {t : TypeId} {cur : List Value} (hm : W.ownsMap P kt R g k D) (h : Blk W g' t cur) : g ≠ g' := fun e => by
  subst e
  obtain ⟨es, c, h1, _⟩ := hm
  have := h1.symm.trans h
  injection this with this
  cases this
theorem map_own_ne {W : World} {P : Program} {kt : TypeId} {R : Value → Option (DataW Unit × List MemPlace)} {g k : Nat} {D : DataW Unit} {e : TypeId} {base size n : Nat} {v : Value} {xs : List Value} (hm : W.ownsMap P kt R g k D) (ho : W.ownsRow base e size v n xs) : v.ownBlock ≠ some g := fun hv => by
  rcases ho.2 with ⟨rfl, _⟩ | ⟨g', cap, cur', rfl, _, hg, _⟩
  · cases hv
  · injection hv with hv
    simp only at hv
    subst hv
    exact map_blk_ne hm (g' := g') (cur := cur'.toList) (t := e) (show W.heap[g']? = some (.cells cur'.toList.toArray e (0, 0)) by simpa using hg) rfl
end Go.Proofs.Ytfjhcoeehjephaa.M9
