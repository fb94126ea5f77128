/- The world of trans.Bytes, and its search: what the steps keep. -/
import Derived.Test.YthjnkpoalbddkaaBox51
import Derived.Test.YthjnkpoalbddkaaTRun
namespace Go.Proofs.Ythjnkpoalbddkaa
open Go.RowKit

theorem info4 : (Try.prog.info? 4).map (fun i => (i.zero, i.size, i.bytes)) = some (some (.bool false), 1, 1) := by kernel_rfl
def natsV (st : List Nat) : List Value := st.map (fun (x : Nat) => .int .i64 (x : Int))
structure DW (w : World) (A0 A1 A2 A3 : Option Addr) (n0 n1 n2 n3 c0 c1 c2 c3 : Nat) (m : Mach) (gs : Nat) (W : World) (cs : List Value) (seen : List Bool) (st : List Nat) (v : Value) : Prop where
  lb : LB w A0 A1 A2 A3 n0 n1 n2 n3 c0 c1 c2 c3 m W cs
  blk : Blk W gs 4 (seen.map Value.bool)
  own : W.ownsRow (gs + 1) 3 1 v st.length (natsV st)
  hg : w.heap.size + 1 + 1 < gs
section
variable {w W W' : World} {A0 A1 A2 A3 : Option Addr} {n0 n1 n2 n3 c0 c1 c2 c3 : Nat} {m : Mach} {gs : Nat} {cs : List Value} {seen : List Bool} {st : List Nat} {v : Value}
theorem DW.go (h : DW w A0 A1 A2 A3 n0 n1 n2 n3 c0 c1 c2 c3 m gs W cs seen st v) (hb : Below W.heap.size W W') : DW w A0 A1 A2 A3 n0 n1 n2 n3 c0 c1 c2 c3 m gs W' cs seen st v :=
  ⟨h.lb.go hb, h.blk.below hb h.blk.lt, own_kept h.own hb, h.hg⟩
theorem DW.drew (h : DW w A0 A1 A2 A3 n0 n1 n2 n3 c0 c1 c2 c3 m gs W cs seen st v) (q : Nat) : DW w A0 A1 A2 A3 n0 n1 n2 n3 c0 c1 c2 c3 m gs (W.drewN q) cs seen st v := h.go (below_drewN (Below.refl _ _) q)
theorem DW.set (h : DW w A0 A1 A2 A3 n0 n1 n2 n3 c0 c1 c2 c3 m gs W cs seen st v) (k : Nat) (x : Value) : DW w A0 A1 A2 A3 n0 n1 n2 n3 c0 c1 c2 c3 m gs (W.setCell ⟨w.heap.size + 1 + 1, k, none⟩ x) (cs.set k x) seen st v :=
  ⟨h.lb.set k x, h.blk.same (Below.heap_setCell _ _ _ gs (by have := h.hg; simp; omega)), own_move h.own (fun b o hb ho _ => (Below.heap_setCell _ _ _ b (by have := (h.own.lt b hb).1; have := h.hg; simp; omega)).trans ho), h.hg⟩
theorem DW.mark (h : DW w A0 A1 A2 A3 n0 n1 n2 n3 c0 c1 c2 c3 m gs W cs seen st v) (k : Nat) : DW w A0 A1 A2 A3 n0 n1 n2 n3 c0 c1 c2 c3 m gs (W.setCell ⟨gs, k, none⟩ (.bool true)) cs (seen.set k true) st v :=
  ⟨h.lb.goB h.hg ((Below.refl _ _).setCell (p := ⟨gs, k, none⟩) (Nat.le_refl _) _), by rw [List.map_set]; exact h.blk.set k _, own_move h.own (fun b o hb ho _ => (Below.heap_setCell _ _ _ b (by have := (h.own.lt b hb).1; simp; omega)).trans ho), h.hg⟩
theorem DW.app (h : DW w A0 A1 A2 A3 n0 n1 n2 n3 c0 c1 c2 c3 m gs W cs seen st v) {v' : Value} {x : Nat} (ho : W'.ownsRow (gs + 1) 3 1 v' (st.length + 1) (natsV st ++ [.int .i64 (x : Int)])) (hb : Below (gs + 1) W W') : DW w A0 A1 A2 A3 n0 n1 n2 n3 c0 c1 c2 c3 m gs W' cs seen (st ++ [x]) v' :=
  ⟨h.lb.goB (by have := h.hg; omega) hb, h.blk.below hb (by omega), by simpa [natsV] using ho, h.hg⟩
theorem DW.pop {x c : Nat} {A : Option Addr} (h : DW w A0 A1 A2 A3 n0 n1 n2 n3 c0 c1 c2 c3 m gs W cs seen (st ++ [x]) (.slice A (st.length + 1) c)) : DW w A0 A1 A2 A3 n0 n1 n2 n3 c0 c1 c2 c3 m gs W cs seen st (.slice A st.length c) :=
  ⟨h.lb, h.blk, own_pop (xs := natsV st) (x := .int .i64 (x : Int)) (by have := h.own; simpa [natsV] using this) (by simp [natsV]), h.hg⟩
theorem DW.cell (h : DW w A0 A1 A2 A3 n0 n1 n2 n3 c0 c1 c2 c3 m gs W cs seen st v) {j : Nat} (hj : j < seen.length) : W.cell? ⟨gs, j, none⟩ = some (.bool (seen.getD j false)) := bools_cell h.blk hj
end

/-- the search: what is marked stands on the stack or is done -/
structure Dv (m : Mach) (n : Nat) (seen : List Bool) (st done : List Nat) : Prop where
  len : seen.length = n
  iff : ∀ j, j < n → (seen.getD j false = true ↔ j ∈ st ∨ j ∈ done)
  met : ∀ j, j ∈ st ∨ j ∈ done → Met m j
  zero : 0 ∈ st ∨ 0 ∈ done
  few : falses seen + st.length ≤ n
theorem Dv.start (m : Mach) {n : Nat} (hn : 0 < n) : Dv m n ((List.replicate n false).set 0 true) [0] [] := by
  refine ⟨by simp, fun j hj => ?_, fun j hj => ?_, .inl (by simp), ?_⟩
  · rw [getD_set (by simp; exact hj)]
    by_cases e : j = 0
    · subst e; simp
    · simp [e, hj]
  · have : j = 0 := by simpa using hj
    subst this; exact .start
  · have := falses_set (l := List.replicate n false) (j := 0) (by simp; exact hn) (by simp [hn])
    have h2 : falses (List.replicate n false) = n := by unfold falses; rw [List.countP_replicate]; rfl
    simp only [List.length_singleton]
    omega
theorem Dv.push {m : Mach} {n j : Nat} {seen : List Bool} {st done : List Nat} (h : Dv m n seen st done) (hj : Met m j) (hlt : j < n) (hs : seen.getD j false = false) : Dv m n (seen.set j true) (st ++ [j]) done := by
  refine ⟨by simp [h.len], fun k hk => ?_, fun k hk => ?_, ?_, ?_⟩
  · rw [getD_set (by rw [h.len]; exact hk)]
    by_cases e : k = j
    · subst e; simp
    · rw [if_neg e, h.iff k hk]; simp [e]
  · by_cases e : k = j
    · subst e; exact hj
    · exact h.met k (by simpa [e] using hk)
  · rcases h.zero with h | h
    · exact .inl (by simp [h])
    · exact .inr h
  · have h1 := falses_set (l := seen) (j := j) (by rw [h.len]; exact hlt) hs
    have h2 := h.few
    simp only [List.length_append, List.length_singleton]
    omega
theorem Dv.pop {m : Mach} {n x : Nat} {seen : List Bool} {st done : List Nat} (h : Dv m n seen (st ++ [x]) done) : Dv m n seen st (x :: done) := by
  have key : ∀ j, (j ∈ st ++ [x] ∨ j ∈ done) ↔ (j ∈ st ∨ j ∈ x :: done) := fun j => by
    simp only [List.mem_append, List.mem_cons, List.not_mem_nil, or_false]
    rw [or_assoc]
  exact ⟨h.len, fun j hj => by rw [← key]; exact h.iff j hj, fun j hj => h.met j ((key j).2 hj), (key 0).1 h.zero, by have := h.few; simp only [List.length_append, List.length_singleton] at this; omega⟩
/-- what is done makes one byte of each, and what it leads to is marked -/
def Dn (m : Mach) (seen : List Bool) (done : List Nat) : Prop := ∀ i ∈ done, Same1 m i ∧ ∀ b, b < 256 → seen.getD (nextS m i (UInt8.ofNat b)) false = true
def More (a b : List Bool) : Prop := ∀ j, a.getD j false = true → b.getD j false = true
theorem Dn.more {m : Mach} {seen seen' : List Bool} {done : List Nat} (h : Dn m seen done) (hm : More seen seen') : Dn m seen' done := fun i hi => ⟨(h i hi).1, fun b hb => hm _ ((h i hi).2 b hb)⟩
theorem more_set (seen : List Bool) (j : Nat) : More seen (seen.set j true) := fun k hk => by
  have hl : k < seen.length := by
    apply Classical.byContradiction
    intro h9
    rw [List.getD_eq_getElem?_getD, List.getElem?_eq_none (by omega)] at hk
    simp at hk
  rw [getD_set hl]
  split
  · rfl
  · exact hk
theorem dv_done {m : Mach} {n : Nat} {seen : List Bool} {done : List Nat} (hr : RightM m) (hn : m.next.length = n) (h : Dv m n seen [] done) (hd : Dn m seen done) : BytesOk m := by
  have key : ∀ i, Met m i → i ∈ done := fun i hi => by
    induction hi with
    | start => simpa using h.zero
    | @go i c hi ih =>
      have h1 := (hd i ih).2 c.toNat c.toNat_lt
      rw [ofNat_toNat] at h1
      have h2 := (h.iff _ (by have := (Met.go c hi).lt hr; omega)).1 h1
      simpa using h2
  exact fun i hi => (hd i (key i hi)).1
end Go.Proofs.Ythjnkpoalbddkaa
