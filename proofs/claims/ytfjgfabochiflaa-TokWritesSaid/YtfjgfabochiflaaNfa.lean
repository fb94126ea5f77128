/- Automata with choices: what one is, which may be, where one lies in memory. -/
import Derived.Test.YtfjgfabochiflaaChecked
import Derived.Test.YtfjgfabochiflaaBase
import Derived.Handy
namespace Go.Proofs.Ytfjgfabochiflaa
open Go.RowKit

structure Ed where
  src : Int
  dst : Int
  free : Bool
  s0 : Int
  s1 : Int
  s2 : Int
  s3 : Int
def noEd : Ed := ⟨0, 0, false, 0, 0, 0, 0⟩
def edV (e : Ed) : List Value := [.int .i64 e.src, .int .i64 e.dst, .bool e.free, .int .u64 e.s0, .int .u64 e.s1, .int .u64 e.s2, .int .u64 e.s3]
def EdC (l : List Ed) : Nat → Nat → Value := fun k j => (edV (l.getD k noEd)).getD j undef
structure Nfa where
  st : Int
  a : Int
  z : Int
  edges : List Ed
def BadE (S : Int) (e : Ed) : Prop := e.src < 0 ∨ S ≤ e.src ∨ e.dst < 0 ∨ S ≤ e.dst
structure RightN (N : Nfa) : Prop where
  lo : 1 ≤ N.st
  hi : N.st ≤ 2000
  alo : 0 ≤ N.a
  ahi : N.a < N.st
  zlo : 0 ≤ N.z
  zhi : N.z < N.st
  few : N.edges.length ≤ 16000
  ok : ¬ ∃ i, i < N.edges.length ∧ BadE N.st (N.edges.getD i noEd)
open Classical in
noncomputable def rightN (N : Nfa) : Bool := if RightN N then true else false
theorem rightN_yes {N : Nfa} (h : RightN N) : rightN N = true := by unfold rightN; rw [if_pos h]
theorem rightN_no {N : Nfa} (h : ¬ RightN N) : rightN N = false := by unfold rightN; rw [if_neg h]

/-- element k's seven cells -/
theorem Arr.seven {w : World} {B n k : Nat} {A : Option Addr} {l : List Ed} (h : Arr w B 7 A n (EdC l)) (hk : k < n) : ∃ b off, A = some ⟨b, off, none⟩ ∧ b < B ∧
    w.cell? ⟨b, off + k * 7, none⟩ = some (.int .i64 (l.getD k noEd).src) ∧ w.cell? ⟨b, off + k * 7 + 1, none⟩ = some (.int .i64 (l.getD k noEd).dst) ∧
    w.cell? ⟨b, off + k * 7 + 2, none⟩ = some (.bool (l.getD k noEd).free) ∧ w.cell? ⟨b, off + k * 7 + 3, none⟩ = some (.int .u64 (l.getD k noEd).s0) ∧
    w.cell? ⟨b, off + k * 7 + 4, none⟩ = some (.int .u64 (l.getD k noEd).s1) ∧ w.cell? ⟨b, off + k * 7 + 5, none⟩ = some (.int .u64 (l.getD k noEd).s2) ∧
    w.cell? ⟨b, off + k * 7 + 6, none⟩ = some (.int .u64 (l.getD k noEd).s3) := by
  obtain ⟨b, off, e, hlt, hc⟩ := h (by omega)
  exact ⟨b, off, e, hlt, hc k 0 hk (by omega), hc k 1 hk (by omega), hc k 2 hk (by omega), hc k 3 hk (by omega), hc k 4 hk (by omega), hc k 5 hk (by omega), hc k 6 hk (by omega)⟩
structure NfaIn (w : World) (A : Option Addr) (n : Nat) (N : Nfa) : Prop where
  len : N.edges.length = n
  le : n ≤ 140737488355328
  arr : Arr w w.heap.size 7 A n (EdC N.edges)
theorem NfaIn.keep {w w' : World} {A : Option Addr} {n : Nat} {N : Nfa} (h : NfaIn w A n N) (hb : Below w.heap.size w w') : NfaIn w' A n N := ⟨h.len, h.le, (h.arr.below hb).more hb.size⟩
/-- the automaton's value -/
def nfaV (N : Nfa) (A : Option Addr) (n c : Nat) : Array Value := #[.int .i64 N.st, .int .i64 N.a, .int .i64 N.z, .slice A n c]

def NumC (q : IntKind) (xs : List Int) : Nat → Nat → Value := fun k _ => .int q (xs.getD k 0)
/-- a block that is known whole -/
def Blk (w : World) (g : Nat) (t : TypeId) (cur : List Value) : Prop := w.heap[g]? = some (.cells cur.toArray t (0, 0))
section
variable {w w' : World} {g : Nat} {t : TypeId} {cur : List Value}
theorem Blk.lt (h : Blk w g t cur) : g < w.heap.size := (Array.getElem?_eq_some_iff.1 h).1
theorem Blk.cell (h : Blk w g t cur) (k : Nat) : w.cell? ⟨g, k, none⟩ = cur[k]? := by
  have := cell_of_row w g k cur.toArray t (0, 0) h
  rw [this]; simp
theorem Blk.frozen (h : Blk w g t cur) (k : Nat) : w.frozen? ⟨g, k, none⟩ = false := by simp [World.frozen?, show w.heap[g]? = _ from h]
theorem Blk.new (w : World) (t : TypeId) (cur : List Value) : Blk (w.alloc (.cells cur.toArray t)) w.heap.size t cur := heap_alloc_new w _
theorem Blk.same (h : Blk w g t cur) (hs : w'.heap[g]? = w.heap[g]?) : Blk w' g t cur := hs.trans h
theorem Blk.below {B : Nat} (h : Blk w g t cur) (hb : Below B w w') (hg : g < B) : Blk w' g t cur := (hb.block g hg).trans h
theorem Blk.alloc (h : Blk w g t cur) (o : Obj) : Blk (w.alloc o) g t cur := (Below.heap_alloc w o g h.lt).trans h
theorem Blk.drewN (h : Blk w g t cur) (m : Nat) : Blk (w.drewN m) g t cur := h
theorem Blk.set (h : Blk w g t cur) (k : Nat) (v : Value) : Blk (w.setCell ⟨g, k, none⟩ v) g t (cur.set k v) := by
  obtain ⟨hlt, hk⟩ := Array.getElem?_eq_some_iff.1 h
  show (w.heap.modify g _)[g]? = _
  rw [Array.getElem?_eq_getElem (by rw [Array.size_modify]; exact hlt), Array.getElem_modify_self, hk]
  simp
end
end Go.Proofs.Ytfjgfabochiflaa
