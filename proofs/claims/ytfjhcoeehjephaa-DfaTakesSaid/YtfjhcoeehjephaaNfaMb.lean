/- Nfa, Rows22, DPlain of this seat, in one text. -/
import Derived.Test.YtfjhcoeehjephaaChecked
import Derived.Test.YtfjhcoeehjephaaBase
import Derived.Handy
import Derived.Deep.AppendLies
/- Automata with choices: what one is, which may be, where one lies in memory. -/
namespace Go.Proofs.Ytfjhcoeehjephaa
open Go.RowKit

structure Ed where
  src : Int
  dst : Int
  free : Bool
  s0 : Int
  s1 : Int
  s2 : Int
  s3 : Int
def noEd : Ed := ⟨0, 0, false, 0, 0, 0, 0⟩
def edV (e : Ed) : List Value := [.int .i64 e.src, .int .i64 e.dst, .bool e.free, .int .u64 e.s0, .int .u64 e.s1, .int .u64 e.s2, .int .u64 e.s3]
def EdC (l : List Ed) : Nat → Nat → Value := fun k j => (edV (l.getD k noEd)).getD j undef
structure Nfa where
  st : Int
  a : Int
  z : Int
  edges : List Ed
def BadE (S : Int) (e : Ed) : Prop := e.src < 0 ∨ S ≤ e.src ∨ e.dst < 0 ∨ S ≤ e.dst
structure RightN (N : Nfa) : Prop where
  lo : 1 ≤ N.st
  hi : N.st ≤ 2000
  alo : 0 ≤ N.a
  ahi : N.a < N.st
  zlo : 0 ≤ N.z
  zhi : N.z < N.st
  few : N.edges.length ≤ 16000
  ok : ¬ ∃ i, i < N.edges.length ∧ BadE N.st (N.edges.getD i noEd)
open Classical in
noncomputable def rightN (N : Nfa) : Bool := if RightN N then true else false
theorem rightN_yes {N : Nfa} (h : RightN N) : rightN N = true := by unfold rightN; rw [if_pos h]
theorem rightN_no {N : Nfa} (h : ¬ RightN N) : rightN N = false := by unfold rightN; rw [if_neg h]

/-- element k's seven cells -/
theorem Arr.seven {w : World} {B n k : Nat} {A : Option Addr} {l : List Ed} (h : Arr w B 7 A n (EdC l)) (hk : k < n) : ∃ b off, A = some ⟨b, off, none⟩ ∧ b < B ∧
    w.cell? ⟨b, off + k * 7, none⟩ = some (.int .i64 (l.getD k noEd).src) ∧ w.cell? ⟨b, off + k * 7 + 1, none⟩ = some (.int .i64 (l.getD k noEd).dst) ∧
    w.cell? ⟨b, off + k * 7 + 2, none⟩ = some (.bool (l.getD k noEd).free) ∧ w.cell? ⟨b, off + k * 7 + 3, none⟩ = some (.int .u64 (l.getD k noEd).s0) ∧
    w.cell? ⟨b, off + k * 7 + 4, none⟩ = some (.int .u64 (l.getD k noEd).s1) ∧ w.cell? ⟨b, off + k * 7 + 5, none⟩ = some (.int .u64 (l.getD k noEd).s2) ∧
    w.cell? ⟨b, off + k * 7 + 6, none⟩ = some (.int .u64 (l.getD k noEd).s3) := by
  obtain ⟨b, off, e, hlt, hc⟩ := h (by omega)
  exact ⟨b, off, e, hlt, hc k 0 hk (by omega), hc k 1 hk (by omega), hc k 2 hk (by omega), hc k 3 hk (by omega), hc k 4 hk (by omega), hc k 5 hk (by omega), hc k 6 hk (by omega)⟩
structure NfaIn (w : World) (A : Option Addr) (n : Nat) (N : Nfa) : Prop where
  len : N.edges.length = n
  le : n ≤ 140737488355328
  arr : Arr w w.heap.size 7 A n (EdC N.edges)
theorem NfaIn.keep {w w' : World} {A : Option Addr} {n : Nat} {N : Nfa} (h : NfaIn w A n N) (hb : Below w.heap.size w w') : NfaIn w' A n N := ⟨h.len, h.le, (h.arr.below hb).more hb.size⟩
/-- the automaton's value -/
def nfaV (N : Nfa) (A : Option Addr) (n c : Nat) : Array Value := #[.int .i64 N.st, .int .i64 N.a, .int .i64 N.z, .slice A n c]

def NumC (q : IntKind) (xs : List Int) : Nat → Nat → Value := fun k _ => .int q (xs.getD k 0)
/-- a block that is known whole -/
def Blk (w : World) (g : Nat) (t : TypeId) (cur : List Value) : Prop := w.heap[g]? = some (.cells cur.toArray t (0, 0))
section
variable {w w' : World} {g : Nat} {t : TypeId} {cur : List Value}
theorem Blk.lt (h : Blk w g t cur) : g < w.heap.size := (Array.getElem?_eq_some_iff.1 h).1
theorem Blk.cell (h : Blk w g t cur) (k : Nat) : w.cell? ⟨g, k, none⟩ = cur[k]? := by
  have := cell_of_row w g k cur.toArray t (0, 0) h
  rw [this]; simp
theorem Blk.frozen (h : Blk w g t cur) (k : Nat) : w.frozen? ⟨g, k, none⟩ = false := by simp [World.frozen?, show w.heap[g]? = _ from h]
theorem Blk.new (w : World) (t : TypeId) (cur : List Value) : Blk (w.alloc (.cells cur.toArray t)) w.heap.size t cur := heap_alloc_new w _
theorem Blk.same (h : Blk w g t cur) (hs : w'.heap[g]? = w.heap[g]?) : Blk w' g t cur := hs.trans h
theorem Blk.below {B : Nat} (h : Blk w g t cur) (hb : Below B w w') (hg : g < B) : Blk w' g t cur := (hb.block g hg).trans h
theorem Blk.alloc (h : Blk w g t cur) (o : Obj) : Blk (w.alloc o) g t cur := (Below.heap_alloc w o g h.lt).trans h
theorem Blk.drewN (h : Blk w g t cur) (m : Nat) : Blk (w.drewN m) g t cur := h
theorem Blk.set (h : Blk w g t cur) (k : Nat) (v : Value) : Blk (w.setCell ⟨g, k, none⟩ v) g t (cur.set k v) := by
  obtain ⟨hlt, hk⟩ := Array.getElem?_eq_some_iff.1 h
  show (w.heap.modify g _)[g]? = _
  rw [Array.getElem?_eq_getElem (by rw [Array.size_modify]; exact hlt), Array.getElem_modify_self, hk]
  simp
end
end Go.Proofs.Ytfjhcoeehjephaa
/- Rows of edges in a slice of slices that the call has made itself. -/
namespace Go.Proofs.Ytfjhcoeehjephaa
open Go.RowKit

def edsV (l : List Ed) : List Value := (l.map edV).flatten
theorem edsV_snoc (l : List Ed) (e : Ed) : edsV (l ++ [e]) = edsV l ++ edV e := by simp [edsV]
theorem edV_length (e : Ed) : (edV e).length = 7 := rfl
theorem edsV_length (l : List Ed) : (edsV l).length = l.length * 7 := by
  induction l with
  | nil => rfl
  | cons e l ih =>
    have h : edsV (e :: l) = edV e ++ edsV l := by simp [edsV]
    rw [h, List.length_append, ih, edV_length, List.length_cons]; omega
theorem edsV_get (l : List Ed) : ∀ (k j : Nat), k < l.length → j < 7 → (edsV l)[k * 7 + j]? = some (EdC l k j) := by
  induction l with
  | nil => intro k j h _; exact absurd h (by simp)
  | cons e l ih =>
    intro k j hk hj
    have h : edsV (e :: l) = edV e ++ edsV l := by simp [edsV]
    rw [h]
    cases k with
    | zero =>
      rw [List.getElem?_append_left (by rw [edV_length]; omega)]
      have h1 : 0 * 7 + j < (edV e).length := by rw [edV_length]; omega
      rw [List.getElem?_eq_getElem h1]
      simp [EdC, List.getD_eq_getElem?_getD, List.getElem?_eq_getElem (show j < (edV e).length by rw [edV_length]; omega)]
    | succ k =>
      rw [List.getElem?_append_right (by rw [edV_length]; omega), edV_length, show (k + 1) * 7 + j - 7 = k * 7 + j by omega, ih k j (by simpa using hk) hj]
      simp [EdC]
/-- the edges that leave a state -/
def leave (E : List Ed) (i : Nat) : List Ed := E.filter (fun e => decide (e.src = (i : Int)))
theorem leave_snoc (E : List Ed) (e : Ed) (i : Nat) : leave (E ++ [e]) i = if e.src = (i : Int) then leave E i ++ [e] else leave E i := by
  unfold leave
  rw [List.filter_append]
  by_cases h : e.src = (i : Int)
  · rw [if_pos h]; simp [h]
  · rw [if_neg h]; simp [h]
theorem leave_len (E : List Ed) (i : Nat) : (leave E i).length ≤ E.length := List.length_filter_le _ _

theorem add_plain' (b o j : Nat) : (⟨b, o, none⟩ : Addr).add j = ⟨b, o + j, none⟩ := by unfold Addr.add; split <;> simp_all
theorem own_eds {w : World} {base c n : Nat} {e : TypeId} {A : Option Addr} {l : List Ed} (h : w.ownsRow base e 7 (.slice A n c) n (edsV l)) : Arr w w.heap.size 7 A n (EdC l) := fun hn => by
  have hl : l.length = n := by have := h.1; rw [edsV_length] at this; omega
  obtain ⟨g, cap, hv, _, hlt⟩ := h.form hn
  have hA : A = some ⟨g, 0, none⟩ := by injection hv
  subst hA
  refine ⟨g, 0, rfl, hlt, fun k j hk hj => ?_⟩
  have hc := h.cells (g := g) rfl (k * 7 + j) (EdC l k j) (edsV_get l k j (by omega) hj)
  rw [add_plain'] at hc
  exact hc
theorem far_own {w : World} {base g n size : Nat} {e : TypeId} {v : Value} {xs : List Value} (h : w.ownsRow base e size v n xs) (hg : w.heap.size ≤ g) : some g ≠ v.ownBlock := fun hv => by
  have := (h.lt g hv.symm).2
  omega

structure RW (w1 W : World) (g S : Nat) (vs : List Value) (ls : Nat → List Ed) : Prop where
  blk : Blk W g 22 vs
  len : vs.length = S
  own : ∀ i, i < S → W.ownsRow (g + 1) 70 7 (vs.getD i undef) (ls i).length (edsV (ls i))
  apart : ∀ i j, i < S → j < S → i ≠ j → ∀ b, (vs.getD i undef).ownBlock = some b → (vs.getD j undef).ownBlock ≠ some b
  bel : Below g w1 W
/-- row i has been appended to; the slice of slices does not say so yet -/
structure RM (w1 W : World) (g S : Nat) (vs : List Value) (ls : Nat → List Ed) (i : Nat) (e : Ed) (v : Value) : Prop where
  blk : Blk W g 22 vs
  len : vs.length = S
  own : ∀ j, j < S → j ≠ i → W.ownsRow (g + 1) 70 7 (vs.getD j undef) (ls j).length (edsV (ls j))
  new : W.ownsRow (g + 1) 70 7 v ((ls i).length + 1) (edsV (ls i ++ [e]))
  apart : ∀ i j, i < S → j < S → i ≠ j → ∀ b, (vs.getD i undef).ownBlock = some b → (vs.getD j undef).ownBlock ≠ some b
  fresh : ∀ j, j < S → j ≠ i → ∀ b, v.ownBlock = some b → (vs.getD j undef).ownBlock ≠ some b
  bel : Below g w1 W
section
variable {w1 W : World} {g S : Nat} {vs : List Value} {ls : Nat → List Ed}
theorem RW.lt (h : RW w1 W g S vs ls) : g < W.heap.size := h.blk.lt
theorem RW.drew (h : RW w1 W g S vs ls) : RW w1 W.drew g S vs ls := ⟨h.blk, h.len, fun i hi => (h.own i hi).drew, h.apart, h.bel.drew⟩
theorem RW.alloc (h : RW w1 W g S vs ls) (o : Obj) : RW w1 (W.alloc o) g S vs ls := ⟨h.blk.alloc o, h.len, fun i hi => (h.own i hi).alloc o, h.apart, h.bel.alloc (Nat.le_of_lt h.lt) o⟩
theorem RW.cell (h : RW w1 W g S vs ls) {i : Nat} (hi : i < S) : W.cell? ⟨g, i, none⟩ = some (vs.getD i undef) := by
  rw [h.blk.cell]
  have := h.len
  rw [List.getElem?_eq_getElem (by omega)]
  simp [show i < vs.length by omega]
theorem RW.app (h : RW w1 W g S vs ls) {i : Nat} (hi : i < S) {W' : World} {g5 n5 c5 : Nat} {e : Ed} (hgrow : W.grownBy W' (vs.getD i undef).ownBlock)
    (hown : W'.ownsRow (g + 1) 70 7 (.slice (some ⟨g5, 0, none⟩) n5 c5) ((ls i).length + 1) (edsV (ls i ++ [e]))) (hat : (vs.getD i undef).ownBlock = some g5 ∨ g5 = W.heap.size) :
    RM w1 W' g S vs ls i e (.slice (some ⟨g5, 0, none⟩) n5 c5) := by
  refine ⟨h.blk.same (hgrow.block g h.lt (fun e9 => ?_)), h.len, fun j hj hne => (h.own j hj).kept hgrow ?_, hown, h.apart, fun j hj hne b hb => ?_, h.bel.grown hgrow (Nat.le_of_lt h.lt) (fun k hk => ?_)⟩
  · have := ((h.own i hi).lt g e9.symm).1; omega
  · cases hv : (vs.getD j undef).ownBlock with
    | none => left; rfl
    | some b => right; exact fun e9 => h.apart j i hj hi hne b hv e9.symm
  · obtain rfl : g5 = b := by simpa [Value.ownBlock] using hb
    rcases hat with hat | hat
    · exact h.apart i j hi hj (Ne.symm hne) g5 hat
    · exact fun e9 => by have := ((h.own j hj).lt g5 e9).2; omega
  · have := ((h.own i hi).lt k hk).1; omega
theorem RM.store {i : Nat} {e : Ed} {v : Value} (h : RM w1 W g S vs ls i e v) (hi : i < S) : RW w1 (W.setCell ⟨g, i, none⟩ v) g S (vs.set i v) (fun j => if j = i then ls j ++ [e] else ls j) := by
  have hg : W.grownBy (W.setCell ⟨g, i, none⟩ v) (some g) := ⟨rfl, rfl, rfl, by show W.heap.size ≤ (W.heap.modify g _).size; simp, fun k _ hk => Below.heap_setCell _ _ _ k (fun e => hk (by rw [e]))⟩
  have hlen := h.len
  have hget : ∀ j, j < S → (vs.set i v).getD j undef = if j = i then v else vs.getD j undef := fun j hj => by
    by_cases e9 : j = i
    · subst e9; simp [show j < vs.length by omega]
    · rw [if_neg e9]; simp [List.getD_eq_getElem?_getD, Ne.symm e9]
  have hkeep : ∀ {u : Value} {n : Nat} {xs : List Value}, W.ownsRow (g + 1) 70 7 u n xs → (W.setCell ⟨g, i, none⟩ v).ownsRow (g + 1) 70 7 u n xs := fun {u n xs} hu => hu.kept hg (by
    cases hv : u.ownBlock with
    | none => left; rfl
    | some b => right; exact fun e9 => by have := (hu.lt b hv).1; cases e9; omega)
  refine ⟨h.blk.set i v, by simp [hlen], fun j hj => ?_, fun j k hj hk hne b hb => ?_, h.bel.setCell (p := ⟨g, i, none⟩) (Nat.le_refl _) _⟩
  · rw [hget j hj]
    by_cases e9 : j = i
    · subst e9
      rw [if_pos rfl, if_pos rfl]
      have := hkeep h.new
      rw [List.length_append]; exact this
    · rw [if_neg e9, if_neg e9]
      exact hkeep (h.own j hj e9)
  · rw [hget j hj] at hb
    rw [hget k hk]
    by_cases e1 : j = i
    · rw [if_pos e1] at hb
      rw [if_neg (by omega)]
      exact h.fresh k hk (by omega) b hb
    · rw [if_neg e1] at hb
      by_cases e2 : k = i
      · rw [if_pos e2]
        exact fun e9 => h.fresh j hj e1 b e9 hb
      · rw [if_neg e2]
        exact h.apart j k hj hk hne b hb
end
end Go.Proofs.Ytfjhcoeehjephaa
/- Depth first: which states are reached over nothing. Plain. -/
namespace Go.Proofs.Ytfjhcoeehjephaa
open Go.RowKit

inductive Rch (E : List Ed) (S : Nat) (L : List Int) : Int → Prop
  | root {i : Int} : i ∈ L → 0 ≤ i → i < (S : Int) → Rch E S L i
  | step {e : Ed} : e ∈ E → e.free = true → Rch E S L e.src → Rch E S L e.dst
def OkE (E : List Ed) (S : Nat) : Prop := ∀ e ∈ E, 0 ≤ e.src ∧ e.src < (S : Int) ∧ 0 ≤ e.dst ∧ e.dst < (S : Int)
theorem okE_of {S : Nat} {a z : Int} {E : List Ed} (h : RightN ⟨(S : Int), a, z, E⟩) : OkE E S := fun e he => by
  obtain ⟨k, hk, rfl⟩ := List.getElem_of_mem he
  have h9 : ¬ BadE (S : Int) (E.getD k noEd) := fun h9 => h.ok ⟨k, hk, h9⟩
  have : E.getD k noEd = E[k] := by simp [hk]
  rw [this] at h9
  unfold BadE at h9
  omega
theorem Rch.range {E : List Ed} {S : Nat} {L : List Int} (hE : OkE E S) {i : Int} (h : Rch E S L i) : 0 ≤ i ∧ i < (S : Int) := by
  cases h with
  | root _ h1 h2 => exact ⟨h1, h2⟩
  | step he _ _ => exact ⟨(hE _ he).2.2.1, (hE _ he).2.2.2⟩

structure Dfs (E : List Ed) (S : Nat) (L : List Int) (pre st : List Int) (seen : List Bool) : Prop where
  nodup : (pre ++ st).Nodup
  rch : ∀ i, i ∈ pre ++ st → Rch E S L i
  sn : ∀ j, j < S → (seen.getD j false = true ↔ (j : Int) ∈ pre ++ st)
  len : seen.length = S
section
variable {E : List Ed} {S : Nat} {L pre st : List Int} {seen : List Bool}
theorem Dfs.begin : Dfs E S L [] [] (List.replicate S false) := ⟨by simp, by simp, fun j hj => by simp [hj], by simp⟩
theorem Dfs.push (h : Dfs E S L pre st seen) {j : Nat} (hj : j < S) (hr : Rch E S L (j : Int)) (hs : seen.getD j false = false) : Dfs E S L pre (st ++ [(j : Int)]) (seen.set j true) := by
  have hn : (j : Int) ∉ pre ++ st := fun h9 => by have := (h.sn j hj).2 h9; rw [hs] at this; cases this
  refine ⟨?_, fun i hi => ?_, fun k hk => ?_, by simp [h.len]⟩
  · rw [← List.append_assoc, List.nodup_append]
    refine ⟨h.nodup, by simp, fun a ha b hb => ?_⟩
    obtain rfl : b = (j : Int) := by simpa using hb
    exact fun e => hn (e ▸ ha)
  · rw [← List.append_assoc, List.mem_append] at hi
    rcases hi with hi | hi
    · exact h.rch i hi
    · obtain rfl : i = (j : Int) := by simpa using hi
      exact hr
  · rw [← List.append_assoc, List.mem_append]
    have hl := h.len
    by_cases e9 : k = j
    · subst e9
      simp [show k < seen.length by omega]
    · have := h.sn k hk
      have e8 : (seen.set j true).getD k false = seen.getD k false := by simp [List.getD_eq_getElem?_getD, Ne.symm e9]
      rw [e8, this]
      constructor
      · exact .inl
      · rintro (h9 | h9)
        · exact h9
        · exact absurd (Int.ofNat.inj (by simpa using h9)) e9
theorem mem_pop {x i : Int} : i ∈ (pre ++ [x]) ++ st ↔ i ∈ pre ++ (st ++ [x]) := by
  simp only [List.mem_append, List.mem_singleton]
  constructor
  · rintro ((h | h) | h)
    · exact .inl h
    · exact .inr (.inr h)
    · exact .inr (.inl h)
  · rintro (h | h | h)
    · exact .inl (.inl h)
    · exact .inr h
    · exact .inl (.inr h)
theorem Dfs.pop {x : Int} (h : Dfs E S L pre (st ++ [x]) seen) : Dfs E S L (pre ++ [x]) st seen := by
  refine ⟨?_, fun i hi => h.rch i (mem_pop.1 hi), fun j hj => (h.sn j hj).trans mem_pop.symm, h.len⟩
  have hp : ((pre ++ [x]) ++ st).Perm (pre ++ (st ++ [x])) := by
    rw [List.append_assoc]
    exact List.Perm.append_left _ List.perm_append_comm
  exact (hp.nodup_iff).2 h.nodup
theorem Dfs.fresh {x : Int} (h : Dfs E S L pre (st ++ [x]) seen) : x ∉ pre := fun h9 => by
  have := h.nodup
  rw [List.nodup_append] at this
  exact this.2.2 x h9 x (by simp) rfl
theorem pigeon : ∀ (S : Nat) (l : List Int), l.Nodup → (∀ x ∈ l, 0 ≤ x ∧ x < (S : Int)) → l.length ≤ S
  | 0, l, _, h => by
    cases l with
    | nil => simp
    | cons a l => have := h a (by simp); omega
  | S + 1, l, hn, h => by
    have h1 := pigeon S (l.erase (S : Int)) (hn.erase _) (fun x hx => by
      rw [hn.mem_erase_iff] at hx
      have := h x hx.2
      have := hx.1
      omega)
    rw [List.length_erase] at h1
    split at h1 <;> omega
theorem dfs_few (hE : OkE E S) (h : Dfs E S L pre st seen) : st.length ≤ S := by
  have := pigeon S _ h.nodup (fun x hx => (h.rch x hx).range hE)
  rw [List.length_append] at this
  omega
/-- all edges that leave what has come are followed -/
def Fol (E : List Ed) (pre all : List Int) : Prop := ∀ e ∈ E, e.free = true → e.src ∈ pre → e.dst ∈ all
def Roots (S : Nat) (L all : List Int) : Prop := ∀ i ∈ L, 0 ≤ i → i < (S : Int) → i ∈ all
theorem rch_all (hr : Roots S L pre) (hf : Fol E pre pre) {i : Int} (h : Rch E S L i) : i ∈ pre := by
  induction h with
  | root h1 h2 h3 => exact hr _ h1 h2 h3
  | step he hfr _ ih => exact hf _ he hfr ih
/-- the sum of what is still to be done falls -/
def falses (l : List Bool) : Nat := l.countP (fun b => !b)
theorem falses_set {l : List Bool} {j : Nat} (hj : j < l.length) (h : l.getD j false = false) : falses (l.set j true) + 1 = falses l := by
  unfold falses
  rw [List.countP_set hj]
  have e : l[j] = false := by simpa [hj] using h
  have : 0 < l.countP (fun b => !b) := List.countP_pos_iff.2 ⟨l[j], List.getElem_mem hj, by simp [e]⟩
  simp [e]
  omega
end
end Go.Proofs.Ytfjhcoeehjephaa
