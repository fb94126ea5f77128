/- Nfa, Has, Tr, Deep, Rows22, DPlain, EnPlain, Frag, Right of this seat, in one text. -/
import Derived.Test.YtfjgfabochiflaaChecked
import Derived.Test.YtfjgfabochiflaaBase
import Derived.Handy
import Derived.Laws.BitsLemmas
import Derived.Laws.Bits64
import Derived.OwnWalk
import Derived.Deep.AppendLies
/- Automata with choices: what one is, which may be, where one lies in memory. -/
namespace Go.Proofs.Ytfjgfabochiflaa
open Go.RowKit

structure Ed where
  src : Int
  dst : Int
  free : Bool
  s0 : Int
  s1 : Int
  s2 : Int
  s3 : Int
def noEd : Ed := ⟨0, 0, false, 0, 0, 0, 0⟩
def edV (e : Ed) : List Value := [.int .i64 e.src, .int .i64 e.dst, .bool e.free, .int .u64 e.s0, .int .u64 e.s1, .int .u64 e.s2, .int .u64 e.s3]
def EdC (l : List Ed) : Nat → Nat → Value := fun k j => (edV (l.getD k noEd)).getD j undef
structure Nfa where
  st : Int
  a : Int
  z : Int
  edges : List Ed
def BadE (S : Int) (e : Ed) : Prop := e.src < 0 ∨ S ≤ e.src ∨ e.dst < 0 ∨ S ≤ e.dst
structure RightN (N : Nfa) : Prop where
  lo : 1 ≤ N.st
  hi : N.st ≤ 2000
  alo : 0 ≤ N.a
  ahi : N.a < N.st
  zlo : 0 ≤ N.z
  zhi : N.z < N.st
  few : N.edges.length ≤ 16000
  ok : ¬ ∃ i, i < N.edges.length ∧ BadE N.st (N.edges.getD i noEd)
open Classical in
noncomputable def rightN (N : Nfa) : Bool := if RightN N then true else false
theorem rightN_yes {N : Nfa} (h : RightN N) : rightN N = true := by unfold rightN; rw [if_pos h]
theorem rightN_no {N : Nfa} (h : ¬ RightN N) : rightN N = false := by unfold rightN; rw [if_neg h]

/-- element k's seven cells -/
theorem Arr.seven {w : World} {B n k : Nat} {A : Option Addr} {l : List Ed} (h : Arr w B 7 A n (EdC l)) (hk : k < n) : ∃ b off, A = some ⟨b, off, none⟩ ∧ b < B ∧
    w.cell? ⟨b, off + k * 7, none⟩ = some (.int .i64 (l.getD k noEd).src) ∧ w.cell? ⟨b, off + k * 7 + 1, none⟩ = some (.int .i64 (l.getD k noEd).dst) ∧
    w.cell? ⟨b, off + k * 7 + 2, none⟩ = some (.bool (l.getD k noEd).free) ∧ w.cell? ⟨b, off + k * 7 + 3, none⟩ = some (.int .u64 (l.getD k noEd).s0) ∧
    w.cell? ⟨b, off + k * 7 + 4, none⟩ = some (.int .u64 (l.getD k noEd).s1) ∧ w.cell? ⟨b, off + k * 7 + 5, none⟩ = some (.int .u64 (l.getD k noEd).s2) ∧
    w.cell? ⟨b, off + k * 7 + 6, none⟩ = some (.int .u64 (l.getD k noEd).s3) := by
  obtain ⟨b, off, e, hlt, hc⟩ := h (by omega)
  exact ⟨b, off, e, hlt, hc k 0 hk (by omega), hc k 1 hk (by omega), hc k 2 hk (by omega), hc k 3 hk (by omega), hc k 4 hk (by omega), hc k 5 hk (by omega), hc k 6 hk (by omega)⟩
structure NfaIn (w : World) (A : Option Addr) (n : Nat) (N : Nfa) : Prop where
  len : N.edges.length = n
  le : n ≤ 140737488355328
  arr : Arr w w.heap.size 7 A n (EdC N.edges)
theorem NfaIn.keep {w w' : World} {A : Option Addr} {n : Nat} {N : Nfa} (h : NfaIn w A n N) (hb : Below w.heap.size w w') : NfaIn w' A n N := ⟨h.len, h.le, (h.arr.below hb).more hb.size⟩
/-- the automaton's value -/
def nfaV (N : Nfa) (A : Option Addr) (n c : Nat) : Array Value := #[.int .i64 N.st, .int .i64 N.a, .int .i64 N.z, .slice A n c]

def NumC (q : IntKind) (xs : List Int) : Nat → Nat → Value := fun k _ => .int q (xs.getD k 0)
/-- a block that is known whole -/
def Blk (w : World) (g : Nat) (t : TypeId) (cur : List Value) : Prop := w.heap[g]? = some (.cells cur.toArray t (0, 0))
section
variable {w w' : World} {g : Nat} {t : TypeId} {cur : List Value}
theorem Blk.lt (h : Blk w g t cur) : g < w.heap.size := (Array.getElem?_eq_some_iff.1 h).1
theorem Blk.cell (h : Blk w g t cur) (k : Nat) : w.cell? ⟨g, k, none⟩ = cur[k]? := by
  have := cell_of_row w g k cur.toArray t (0, 0) h
  rw [this]; simp
theorem Blk.frozen (h : Blk w g t cur) (k : Nat) : w.frozen? ⟨g, k, none⟩ = false := by simp [World.frozen?, show w.heap[g]? = _ from h]
theorem Blk.new (w : World) (t : TypeId) (cur : List Value) : Blk (w.alloc (.cells cur.toArray t)) w.heap.size t cur := heap_alloc_new w _
theorem Blk.same (h : Blk w g t cur) (hs : w'.heap[g]? = w.heap[g]?) : Blk w' g t cur := hs.trans h
theorem Blk.below {B : Nat} (h : Blk w g t cur) (hb : Below B w w') (hg : g < B) : Blk w' g t cur := (hb.block g hg).trans h
theorem Blk.alloc (h : Blk w g t cur) (o : Obj) : Blk (w.alloc o) g t cur := (Below.heap_alloc w o g h.lt).trans h
theorem Blk.drewN (h : Blk w g t cur) (m : Nat) : Blk (w.drewN m) g t cur := h
theorem Blk.set (h : Blk w g t cur) (k : Nat) (v : Value) : Blk (w.setCell ⟨g, k, none⟩ v) g t (cur.set k v) := by
  obtain ⟨hlt, hk⟩ := Array.getElem?_eq_some_iff.1 h
  show (w.heap.modify g _)[g]? = _
  rw [Array.getElem?_eq_getElem (by rw [Array.size_modify]; exact hlt), Array.getElem_modify_self, hk]
  simp
end
end Go.Proofs.Ytfjgfabochiflaa
/- set.Has and the reference's Has. -/
namespace Go.Proofs.Ytfjgfabochiflaa
open Go.RowKit

def wordAt (s0 s1 s2 s3 : Int) (c : Nat) : Int := if c / 64 = 0 then s0 else if c / 64 = 1 then s1 else if c / 64 = 2 then s2 else s3
theorem word_cell (s0 s1 s2 s3 : Int) (c : Nat) (hc : c < 256) (w : World) :
    (w.alloc (.cells #[.int .u64 s0, .int .u64 s1, .int .u64 s2, .int .u64 s3] 26)).cell? ⟨w.heap.size, c / 64, none⟩ = some (.int .u64 (wordAt s0 s1 s2 s3 c)) := by
  have h := Blk.cell (Blk.new w 26 [.int .u64 s0, .int .u64 s1, .int .u64 s2, .int .u64 s3]) (c / 64)
  have h2 : ([.int .u64 s0, .int .u64 s1, .int .u64 s2, .int .u64 s3] : List Value)[c / 64]? = some (.int .u64 (wordAt s0 s1 s2 s3 c)) := by
    unfold wordAt
    rcases (by omega : c / 64 = 0 ∨ c / 64 = 1 ∨ c / 64 = 2 ∨ c / 64 = 3) with h | h | h | h <;> rw [h] <;> rfl
  rw [h2] at h
  exact h
theorem ret_bool {a b : Bool} (h : a = b) : Ending.returned (.bool a) = .returned (.bool b) := by rw [h]
def U64w (x : Int) : Prop := 0 ≤ x ∧ x < 18446744073709551616
def hasB (s0 s1 s2 s3 : Int) (c : Nat) : Bool := ((wordAt s0 s1 s2 s3 c / 2 ^ (c % 64)) % 2 == 1)
theorem word_ok {s0 s1 s2 s3 : Int} (c : Nat) (h0 : U64w s0) (h1 : U64w s1) (h2 : U64w s2) (h3 : U64w s3) : U64w (wordAt s0 s1 s2 s3 c) := by
  unfold wordAt
  repeat first | assumption | split
theorem shr_ok {x : Int} (h : U64w x) (k : Nat) : 0 ≤ x / 2 ^ k ∧ x / 2 ^ k < 18446744073709551616 := by
  obtain ⟨a, rfl⟩ := Int.eq_ofNat_of_zero_le h.1
  have h2 := h.2
  have e : ((a : Int) / 2 ^ k) = ((a / 2 ^ k : Nat) : Int) := by simp
  have := Nat.div_le_self a (2 ^ k)
  obtain ⟨b, hb⟩ : ∃ b, b = a / 2 ^ k := ⟨_, rfl⟩
  rw [e, ← hb]
  rw [← hb] at this
  omega
theorem wraps_u64 (n : Int) (h₀ : 0 ≤ n) (h₁ : n < 2 ^ 64) : IntKind.u64.wrap n = n := by rw [IntKind.wrap_u64]; omega
theorem and_one {x : Int} (h0 : 0 ≤ x) (h1 : x < 18446744073709551616) : bits .and .u64 x 1 = x % 2 := bits_mask .u64 64 (by decide) wraps_u64 1 (by decide) x h0 h1
set_option maxRecDepth 100000 in
theorem has_any (s0 s1 s2 s3 : Int) (h0 : U64w s0) (h1 : U64w s1) (h2 : U64w s2) (h3 : U64w s3) (c : Nat) (hc : c < 256) (w : World) :
    Calls Try.prog 126 #[.agg #[.int .u64 s0, .int .u64 s1, .int .u64 s2, .int .u64 s3], .int .u8 (c : Int)] w fun e w' => e = .returned (.bool (hasB s0 s1 s2 s3 c)) ∧ w' = w.alloc (.cells #[.int .u64 s0, .int .u64 s1, .int .u64 s2, .int .u64 s3] 26) := by
  have hcl := word_cell s0 s1 s2 s3 c hc w
  have hw := shr_ok (word_ok c h0 h1 h2 h3) (c % 64)
  have ha := and_one hw.1 hw.2
  obtain ⟨hb, hhb⟩ : ∃ hb, hb = hasB s0 s1 s2 s3 c := ⟨_, rfl⟩
  have HB := Lib.hid hhb
  unfold hasB at hhb
  rw [← HB.out]
  obtain ⟨x, hx⟩ : ∃ x, x = wordAt s0 s1 s2 s3 c := ⟨_, rfl⟩
  rw [← hx] at hcl hw ha hhb
  rw [← ha] at hhb
  have HHB := Lib.hid hhb
  clear hx h0 h1 h2 h3 hw hhb ha
  go_enter Try.func126, Try.ntmps126
  go_wp2_with fail
  go_returns
  exact ⟨ret_bool HHB.out.symm, by first | rfl | trivial⟩
end Go.Proofs.Ytfjgfabochiflaa
/- Trees of expressions: what one is, where one lies in memory. -/
namespace Go.Proofs.Ytfjgfabochiflaa
open Go.RowKit

inductive Tr where
  | mk (kind s0 s1 s2 s3 lo hi : Int) (kids : List Tr)
def noTr : Tr := .mk 0 0 0 0 0 0 0 []
def Tr.kind : Tr → Int
  | .mk k _ _ _ _ _ _ _ => k
def Tr.s0 : Tr → Int
  | .mk _ s _ _ _ _ _ _ => s
def Tr.s1 : Tr → Int
  | .mk _ _ s _ _ _ _ _ => s
def Tr.s2 : Tr → Int
  | .mk _ _ _ s _ _ _ _ => s
def Tr.s3 : Tr → Int
  | .mk _ _ _ _ s _ _ _ => s
def Tr.lo : Tr → Int
  | .mk _ _ _ _ _ s _ _ => s
def Tr.hi : Tr → Int
  | .mk _ _ _ _ _ _ s _ => s
def Tr.kids : Tr → List Tr
  | .mk _ _ _ _ _ _ _ l => l
theorem Tr.size_kid {t k : Tr} (h : k ∈ t.kids) : SizeOf.sizeOf k < SizeOf.sizeOf t := by
  obtain ⟨a, b, c, d, e, f, g, l⟩ := t
  have := List.sizeOf_lt_of_mem h
  simp [Tr.kids] at this
  simp
  omega
theorem Tr.ind {P : Tr → Prop} (h : ∀ t, (∀ k, k ∈ t.kids → P k) → P t) (t : Tr) : P t :=
  h t (fun k _hk => Tr.ind h k)
termination_by SizeOf.sizeOf t
decreasing_by exact Tr.size_kid _hk

/-- the cells of a node -/
def reV (t : Tr) (A : Option Addr) (n c : Nat) : List Value :=
  [.int .i64 t.kind, .int .u64 t.s0, .int .u64 t.s1, .int .u64 t.s2, .int .u64 t.s3, .int .i64 t.lo, .int .i64 t.hi, .slice A n c]
def ReC (l : List Tr) (KA : Nat → Option Addr) (KN KC : Nat → Nat) : Nat → Nat → Value := fun k j => (reV (l.getD k noTr) (KA k) (KN k) (KC k)).getD j undef
/-- a node's kids lie at A -/
inductive TrIn (w : World) : Tr → Option Addr → Nat → Prop
  | mk {t : Tr} {A : Option Addr} {n : Nat} (KA : Nat → Option Addr) (KN KC : Nat → Nat) : t.kids.length = n → n ≤ 140737488355328 → Arr w w.heap.size 8 A n (ReC t.kids KA KN KC) →
      (∀ k, k < n → TrIn w (t.kids.getD k noTr) (KA k) (KN k)) → TrIn w t A n
/-- what lies at A, one step deep -/
structure KidsIn (w : World) (t : Tr) (A : Option Addr) (n : Nat) (KA : Nat → Option Addr) (KN KC : Nat → Nat) : Prop where
  len : t.kids.length = n
  le : n ≤ 140737488355328
  arr : Arr w w.heap.size 8 A n (ReC t.kids KA KN KC)
  kid : ∀ k, k < n → TrIn w (t.kids.getD k noTr) (KA k) (KN k)
theorem TrIn.out {w : World} {t : Tr} {A : Option Addr} {n : Nat} (h : TrIn w t A n) : ∃ KA KN KC, KidsIn w t A n KA KN KC := by
  cases h with
  | mk KA KN KC h1 h2 h3 h4 => exact ⟨KA, KN, KC, h1, h2, h3, h4⟩
theorem TrIn.keep {w w' : World} (hb : Below w.heap.size w w') {t : Tr} {A : Option Addr} {n : Nat} (h : TrIn w t A n) : TrIn w' t A n := by
  induction h with
  | mk KA KN KC h1 h2 h3 _ ih => exact .mk KA KN KC h1 h2 ((h3.below hb).more hb.size) ih
theorem KidsIn.keep {w w' : World} {t : Tr} {A : Option Addr} {n : Nat} {KA : Nat → Option Addr} {KN KC : Nat → Nat} (h : KidsIn w t A n KA KN KC) (hb : Below w.heap.size w w') : KidsIn w' t A n KA KN KC :=
  ⟨h.len, h.le, (h.arr.below hb).more hb.size, fun k hk => (h.kid k hk).keep hb⟩
theorem KidsIn.tr {w : World} {t : Tr} {A : Option Addr} {n : Nat} {KA : Nat → Option Addr} {KN KC : Nat → Nat} (h : KidsIn w t A n KA KN KC) : TrIn w t A n := .mk KA KN KC h.len h.le h.arr h.kid
theorem getD_mem {α : Type} {l : List α} {k : Nat} {d : α} (h : k < l.length) : l.getD k d ∈ l := by
  simp [h]
/-- element k's eight cells -/
theorem KidsIn.eight {w : World} {t : Tr} {A : Option Addr} {n k : Nat} {KA : Nat → Option Addr} {KN KC : Nat → Nat} (h : KidsIn w t A n KA KN KC) (hk : k < n) : ∃ b off, A = some ⟨b, off, none⟩ ∧ b < w.heap.size ∧
    w.cell? ⟨b, off + k * 8, none⟩ = some (.int .i64 (t.kids.getD k noTr).kind) ∧ w.cell? ⟨b, off + k * 8 + 1, none⟩ = some (.int .u64 (t.kids.getD k noTr).s0) ∧
    w.cell? ⟨b, off + k * 8 + 2, none⟩ = some (.int .u64 (t.kids.getD k noTr).s1) ∧ w.cell? ⟨b, off + k * 8 + 3, none⟩ = some (.int .u64 (t.kids.getD k noTr).s2) ∧
    w.cell? ⟨b, off + k * 8 + 4, none⟩ = some (.int .u64 (t.kids.getD k noTr).s3) ∧ w.cell? ⟨b, off + k * 8 + 5, none⟩ = some (.int .i64 (t.kids.getD k noTr).lo) ∧
    w.cell? ⟨b, off + k * 8 + 6, none⟩ = some (.int .i64 (t.kids.getD k noTr).hi) ∧ w.cell? ⟨b, off + k * 8 + 7, none⟩ = some (.slice (KA k) (KN k) (KC k)) := by
  obtain ⟨b, off, e, hlt, hc⟩ := h.arr (by omega)
  exact ⟨b, off, e, hlt, hc k 0 hk (by omega), hc k 1 hk (by omega), hc k 2 hk (by omega), hc k 3 hk (by omega), hc k 4 hk (by omega), hc k 5 hk (by omega), hc k 6 hk (by omega), hc k 7 hk (by omega)⟩
/-- a node's value -/
def reA (t : Tr) (A : Option Addr) (n c : Nat) : Value :=
  .agg #[.int .i64 t.kind, .int .u64 t.s0, .int .u64 t.s1, .int .u64 t.s2, .int .u64 t.s3, .int .i64 t.lo, .int .i64 t.hi, .slice A n c]

inductive TrWf : Tr → Prop
  | mk {t : Tr} : U64w t.s0 → U64w t.s1 → U64w t.s2 → U64w t.s3 → (∀ k, k ∈ t.kids → TrWf k) → TrWf t

/-- how many nodes within one another -/
def Tr.height (t : Tr) : Nat := (t.kids.attach.map (fun k => k.1.height)).foldl max 0 + 1
termination_by SizeOf.sizeOf t
decreasing_by exact Tr.size_kid k.2
def heightL (l : List Tr) : Nat := (l.map Tr.height).foldl max 0
theorem Tr.height_eq (t : Tr) : t.height = heightL t.kids + 1 := by
  rw [Tr.height]
  unfold heightL
  congr 2
  simp
theorem heightL_snoc (l : List Tr) (k : Tr) : heightL (l ++ [k]) = max (heightL l) k.height := by simp [heightL]
/-- how many nodes -/
def Tr.nodes (t : Tr) : Nat := (t.kids.attach.map (fun k => k.1.nodes)).foldl (· + ·) 1
termination_by SizeOf.sizeOf t
decreasing_by exact Tr.size_kid k.2
def nodesL (l : List Tr) : Nat := (l.map Tr.nodes).foldl (· + ·) 1
theorem Tr.nodes_eq (t : Tr) : t.nodes = nodesL t.kids := by
  rw [Tr.nodes]
  unfold nodesL
  congr 1
  simp
theorem nodesL_snoc (l : List Tr) (k : Tr) : nodesL (l ++ [k]) = nodesL l + k.nodes := by simp [nodesL]
theorem nodesL_take_le (l : List Tr) (i : Nat) : nodesL (l.take i) ≤ nodesL l := by
  have : ∀ (m : List Tr), nodesL l ≤ nodesL (l ++ m) := fun m => by
    unfold nodesL
    rw [List.map_append, List.foldl_append]
    have : ∀ (q : List Nat) (a : Nat), a ≤ q.foldl (· + ·) a := fun q => by
      induction q with
      | nil => intro a; exact Nat.le_refl _
      | cons x q ih => intro a; exact Nat.le_trans (Nat.le_add_right a x) (ih _)
    exact this _ _
  have h2 : ∀ (l m : List Tr), nodesL l ≤ nodesL (l ++ m) := fun l m => by
    unfold nodesL
    rw [List.map_append, List.foldl_append]
    have : ∀ (q : List Nat) (a : Nat), a ≤ q.foldl (· + ·) a := fun q => by
      induction q with
      | nil => intro a; exact Nat.le_refl _
      | cons x q ih => intro a; exact Nat.le_trans (Nat.le_add_right a x) (ih _)
    exact this _ _
  have := h2 (l.take i) (l.drop i)
  rwa [List.take_append_drop] at this
theorem heightL_take_le (l : List Tr) (i : Nat) : heightL (l.take i) ≤ heightL l := by
  have h2 : ∀ (l m : List Tr), heightL l ≤ heightL (l ++ m) := fun l m => by
    unfold heightL
    rw [List.map_append, List.foldl_append]
    have : ∀ (q : List Nat) (a : Nat), a ≤ q.foldl max a := fun q => by
      induction q with
      | nil => intro a; exact Nat.le_refl _
      | cons x q ih => intro a; exact Nat.le_trans (Nat.le_max_left a x) (ih _)
    exact this _ _
  have := h2 (l.take i) (l.drop i)
  rwa [List.take_append_drop] at this
theorem take_next {α : Type} (l : List α) (i : Nat) (d : α) (h : i < l.length) : l.take (i + 1) = l.take i ++ [l.getD i d] := by
  rw [List.take_succ_eq_append_getElem h]
  simp [h]
theorem Tr.height_pos (t : Tr) : 1 ≤ t.height := by rw [Tr.height_eq]; omega
theorem nodesL_pos (l : List Tr) : 1 ≤ nodesL l := by
  have := nodesL_take_le l 0
  simpa [nodesL] using this
theorem Tr.nodes_pos (t : Tr) : 1 ≤ t.nodes := by rw [Tr.nodes_eq]; exact nodesL_pos _
/-- a kid is lower -/
theorem height_kid (l : List Tr) (i : Nat) (h : i < l.length) : (l.getD i noTr).height ≤ heightL l := by
  have := heightL_take_le l (i + 1)
  rw [take_next l i noTr h, heightL_snoc] at this
  omega
end Go.Proofs.Ytfjgfabochiflaa
/- regex.deep. -/
namespace Go.Proofs.Ytfjgfabochiflaa
open Go.RowKit

/-- what deep says of a tree, in every world -/
def DeepAt (t : Tr) : Prop := ∀ (m : Nat) (A : Option Addr) (n c : Nat) (w : World), m ≤ 1000 → TrIn w t A n →
  Calls Try.prog 100 #[.agg #[.int .i64 t.kind, .int .u64 t.s0, .int .u64 t.s1, .int .u64 t.s2, .int .u64 t.s3, .int .i64 t.lo, .int .i64 t.hi, .slice A n c], .int .i64 (m : Int)] w fun e w' =>
    e = .returned (.bool (decide (m < t.height))) ∧ Below w.heap.size w w'

theorem clo37 (k : Tr) (ih : DeepAt k) (m : Nat) (hm : m + 1 ≤ 1000) (A : Option Addr) (n c p : Nat) (w : World) (h : TrIn w k A n) (hp : w.cell? ⟨p, 0, none⟩ = some (.int .i64 ((m : Int) + 1))) (hpl : p < w.heap.size) :
    Calls Try.prog 130 #[.agg #[.int .i64 k.kind, .int .u64 k.s0, .int .u64 k.s1, .int .u64 k.s2, .int .u64 k.s3, .int .i64 k.lo, .int .i64 k.hi, .slice A n c], .pointer (some ⟨p, 0, none⟩)] w fun e w' =>
      e = .returned (.bool (decide (m < k.height))) ∧ Below w.heap.size w w' := by
  obtain ⟨q, hq⟩ : ∃ q, q = decide (m < k.height) := ⟨_, rfl⟩
  rw [← hq]
  have HQ := Lib.hid hq
  clear hq
  have e1 : ((m : Int) + 1 - 1) = (m : Int) := by omega
  have hp2 : (w.alloc (.cells #[.int .i64 k.kind, .int .u64 k.s0, .int .u64 k.s1, .int .u64 k.s2, .int .u64 k.s3, .int .i64 k.lo, .int .i64 k.hi, .slice A n c] 29)).cell? ⟨p, 0, none⟩ = some (.int .i64 ((m : Int) + 1)) := (World.cell?_alloc_lt _ _ _ hpl).trans hp
  go_enter Try.func130, Try.ntmps130
  have hb0 : Below w.heap.size w (w.alloc (.cells #[.int .i64 k.kind, .int .u64 k.s0, .int .u64 k.s1, .int .u64 k.s2, .int .u64 k.s3, .int .i64 k.lo, .int .i64 k.hi, .slice A n c] 29)) := (Below.refl _ _).alloc (Nat.le_refl _) _
  have HT := Lib.hid (h.keep hb0)
  have HB := Lib.hid hb0
  clear h hb0
  go_wp2_with (go_at_call 100; (first | rw [e1] | skip); refine (ih m A n c _ (by omega) HT.out).mono ?_; rintro e w2 ⟨rfl, hb2⟩; rw [← HQ.out]; have HB2 := Lib.hid hb2; clear hb2)
  go_returns
  exact ⟨by first | rfl | simp, HB.out.trans (HB2.out.mono (by simp))⟩

/-- does any of the first so many meet it? -/
def AnyK (f : Tr → Bool) (l : List Tr) (k : Nat) : Prop := ∃ j, j < k ∧ f (l.getD j noTr) = true
open Classical in
noncomputable def anyK (f : Tr → Bool) (l : List Tr) (k : Nat) : Bool := decide (AnyK f l k)
theorem anyK_yes {f : Tr → Bool} {l : List Tr} {k : Nat} (h : AnyK f l k) : anyK f l k = true := by unfold anyK; simpa using h
theorem anyK_no {f : Tr → Bool} {l : List Tr} {k : Nat} (h : ¬ AnyK f l k) : anyK f l k = false := by unfold anyK; simpa using h

set_option maxRecDepth 100000 in
set_option maxHeartbeats 4000000 in
theorem idx37 (t : Tr) (ih : ∀ k, k ∈ t.kids → DeepAt k) (m : Nat) (hm : m + 1 ≤ 1000) (A : Option Addr) (n c p : Nat) (w : World) (h : TrIn w t A n) (hp : w.cell? ⟨p, 0, none⟩ = some (.int .i64 ((m : Int) + 1))) (hpl : p < w.heap.size) :
    Calls Try.prog 140 #[.slice A n c, .func (.func 130) #[] #[.pointer (some ⟨p, 0, none⟩)]] w fun e w' =>
      (∃ r : Int, e = .returned (.int .i64 r) ∧ decide (0 ≤ r) = anyK (fun k => decide (m < k.height)) t.kids n) ∧ Below w.heap.size w w' := by
  obtain ⟨KA, KN, KC, hk⟩ := h.out
  have hle := hk.le
  have hlen := hk.len
  have HK := Lib.hid hk
  clear h hk
  obtain ⟨f, hf⟩ : ∃ f : Tr → Bool, f = fun k => decide (m < k.height) := ⟨_, rfl⟩
  rw [← hf]
  have HF := Lib.hid hf
  clear hf
  go_enter Try.func140, Try.ntmps140
  go_wp2_with fail
  go_loopw [8] (fun i wr => ∃ k : Nat, k ≤ n ∧ i = .int .i64 k ∧ Below w.heap.size w wr ∧ ¬ AnyK f t.kids k) (fun i _ => n - (intOf i).toNat)
  case atStart => exact ⟨0, by omega, rfl, Below.refl _ _, fun ⟨j, hj, _⟩ => absurd hj (by omega)⟩
  case round =>
    obtain ⟨k, hkn, rfl, hb, hno⟩ := hrel
    obtain ⟨w3, rfl⟩ : ∃ w3 : World, w3 = wr := ⟨_, rfl⟩
    have HB := Lib.hid hb
    have HNO := Lib.hid hno
    have hp3 : w3.cell? ⟨p, 0, none⟩ = some (.int .i64 ((m : Int) + 1)) := (hb.cell hpl).trans hp
    have hpl3 : p < w3.heap.size := Nat.lt_of_lt_of_le hpl hb.size
    clear hb hno
    by_cases hlt : k < n
    · obtain ⟨b, o, rfl, hbl, p0, p1, p2, p3, p4, p5, p6, p7⟩ := (HK.out.keep HB.out).eight hlt
      have hkid := (HK.out.keep HB.out).kid k hlt
      have hmem : t.kids.getD k noTr ∈ t.kids := getD_mem (by omega)
      have IH := ih _ hmem
      obtain ⟨kid, hkid'⟩ : ∃ kid, kid = t.kids.getD k noTr := ⟨_, rfl⟩
      rw [← hkid'] at p0 p1 p2 p3 p4 p5 p6 hkid IH
      have HKE := Lib.hid hkid'
      have HKI := Lib.hid hkid
      have HIH := Lib.hid IH
      clear hkid' hmem hkid IH
      have hval : decide (m < kid.height) = f kid := by rw [HF.out]
      obtain ⟨q, hq⟩ : ∃ q, q = f kid := ⟨_, rfl⟩
      have HQ := Lib.hid hq
      have HV := Lib.hid hval
      clear hq hval
      cases q with
      | true =>
        go_wp2_with (go_at_call 130; refine (clo37 kid HIH.out m hm _ _ _ p _ HKI.out hp3 hpl3).mono ?_; rintro e w4 ⟨rfl, hb4⟩; rw [HV.out, ← HQ.out]; have HB4 := Lib.hid hb4; clear hb4)
        go_returns
        refine ⟨⟨_, rfl, ?_⟩, HB.out.trans (HB4.out.mono HB.out.size)⟩
        rw [anyK_yes ⟨k, hlt, by rw [← HKE.out]; exact HQ.out.symm⟩]
        simp
      | false =>
        go_wp2_with (go_at_call 130; refine (clo37 kid HIH.out m hm _ _ _ p _ HKI.out hp3 hpl3).mono ?_; rintro e w4 ⟨rfl, hb4⟩; rw [HV.out, ← HQ.out]; have HB4 := Lib.hid hb4; clear hb4)
        go_roundw
        case rel => exact ⟨k + 1, by omega, by go_num, HB.out.trans (HB4.out.mono HB.out.size), fun ⟨j, hj, h9⟩ => by
                      by_cases e9 : j = k
                      · rw [e9, ← HKE.out, ← HQ.out] at h9; cases h9
                      · exact HNO.out ⟨j, by omega, h9⟩⟩
        case measure => simp [intOf]; omega
    · obtain rfl : k = n := by omega
      go_wp2_with fail
      go_returns
      exact ⟨⟨_, rfl, by rw [anyK_no HNO.out]; simp⟩, HB.out⟩

set_option maxRecDepth 100000 in
theorem cf37 (t : Tr) (ih : ∀ k, k ∈ t.kids → DeepAt k) (m : Nat) (hm : m + 1 ≤ 1000) (A : Option Addr) (n c p : Nat) (w : World) (h : TrIn w t A n) (hp : w.cell? ⟨p, 0, none⟩ = some (.int .i64 ((m : Int) + 1))) (hpl : p < w.heap.size) :
    Calls Try.prog 129 #[.slice A n c, .func (.func 130) #[] #[.pointer (some ⟨p, 0, none⟩)]] w fun e w' =>
      e = .returned (.bool (anyK (fun k => decide (m < k.height)) t.kids n)) ∧ Below w.heap.size w w' := by
  have HC := Lib.hid (idx37 t ih m hm A n c p w h hp hpl)
  clear h ih
  go_enter Try.func129, Try.ntmps129
  go_wp2_with (go_at_call 140; refine HC.out.mono ?_; rintro e w4 ⟨⟨r, rfl, hr⟩, hb4⟩; have HB4 := Lib.hid hb4; have HR := Lib.hid hr; clear hb4 hr)
  go_returns
  exact ⟨by first | rfl | rw [← HR.out]; simp, HB4.out⟩

theorem anyK_height (l : List Tr) (m n : Nat) (hn : l.length = n) : anyK (fun k => decide (m < k.height)) l n = decide (m < heightL l) := by
  have key : ∀ n, n ≤ l.length → (AnyK (fun k => decide (m < k.height)) l n ↔ m < heightL (l.take n)) := fun n => by
    induction n with
    | zero => intro _; simp [AnyK, heightL]
    | succ n ih =>
      intro hn
      rw [take_next l n noTr (by omega), heightL_snoc]
      have ih := ih (by omega)
      constructor
      · rintro ⟨j, hj, h9⟩
        by_cases e9 : j = n
        · subst e9
          have : m < (l.getD j noTr).height := by simpa using h9
          omega
        · have := ih.1 ⟨j, by omega, h9⟩
          omega
      · intro h9
        by_cases e9 : m < (l.getD n noTr).height
        · exact ⟨n, by omega, by simpa using e9⟩
        · obtain ⟨j, hj, h8⟩ := ih.2 (by omega)
          exact ⟨j, by omega, h8⟩
  have h9 := key n (by omega)
  rw [List.take_of_length_le (by omega)] at h9
  by_cases hx : m < heightL l
  · rw [anyK_yes (h9.2 hx)]; simp [hx]
  · rw [anyK_no (fun h => hx (h9.1 h))]; simp [hx]

set_option maxRecDepth 100000 in
theorem deep_any (t : Tr) : DeepAt t := by
  induction t using Tr.ind with
  | h t ih =>
    intro m A n c w hm h
    have hb0 : Below w.heap.size w ((w.alloc (.cells #[.int .i64 t.kind, .int .u64 t.s0, .int .u64 t.s1, .int .u64 t.s2, .int .u64 t.s3, .int .i64 t.lo, .int .i64 t.hi, .slice A n c] 29)).alloc (.cells #[.int .i64 (m : Int)] 3)) :=
      ((Below.refl _ _).alloc (Nat.le_refl _) _).alloc (by simp) _
    have HT := Lib.hid (h.keep hb0)
    obtain ⟨_, _, _, hk⟩ := h.out
    have hlen := hk.len
    have hh : t.height = heightL t.kids + 1 := Tr.height_eq t
    have HH := Lib.hid hh
    have HB := Lib.hid hb0
    clear hk hh h hb0
    cases m with
    | zero =>
      go_enter Try.func100, Try.ntmps100
      have d0 : decide ((0 : Int) = 0) = true := rfl
      go_wp2_with fail
      go_returns
      exact ⟨by rw [HH.out]; simp, HB.out⟩
    | succ m =>
      have hany := anyK_height t.kids m n hlen
      have HANY := Lib.hid hany
      clear hany
      have e1 : (((m + 1 : Nat) : Int) == 0) = false := by simp; omega
      have ec : ((m + 1 : Nat) : Int) = (m : Int) + 1 := by omega
      rw [ec] at e1 HT HB ⊢
      clear ec
      have hcl := cf37 t ih m (by omega) A n c
      have HCL := Lib.hid hcl
      clear hcl ih
      go_enter Try.func100, Try.ntmps100
      go_wp2_with (go_at_call 129; refine (HCL.out (w.heap.size + 1) _ HT.out (by simp) (by simp)).mono ?_; rintro e w4 ⟨rfl, hb4⟩; rw [HANY.out]; have HB4 := Lib.hid hb4; clear hb4)
      go_returns
      exact ⟨by first | rfl | (rw [HH.out]; simp), HB.out.trans (HB4.out.mono HB.out.size)⟩
end Go.Proofs.Ytfjgfabochiflaa
/- Rows of edges in a slice of slices that the call has made itself. -/
namespace Go.Proofs.Ytfjgfabochiflaa
open Go.RowKit

def edsV (l : List Ed) : List Value := (l.map edV).flatten
theorem edsV_snoc (l : List Ed) (e : Ed) : edsV (l ++ [e]) = edsV l ++ edV e := by simp [edsV]
theorem edV_length (e : Ed) : (edV e).length = 7 := rfl
theorem edsV_length (l : List Ed) : (edsV l).length = l.length * 7 := by
  induction l with
  | nil => rfl
  | cons e l ih =>
    have h : edsV (e :: l) = edV e ++ edsV l := by simp [edsV]
    rw [h, List.length_append, ih, edV_length, List.length_cons]; omega
theorem edsV_get (l : List Ed) : ∀ (k j : Nat), k < l.length → j < 7 → (edsV l)[k * 7 + j]? = some (EdC l k j) := by
  induction l with
  | nil => intro k j h _; exact absurd h (by simp)
  | cons e l ih =>
    intro k j hk hj
    have h : edsV (e :: l) = edV e ++ edsV l := by simp [edsV]
    rw [h]
    cases k with
    | zero =>
      rw [List.getElem?_append_left (by rw [edV_length]; omega)]
      have h1 : 0 * 7 + j < (edV e).length := by rw [edV_length]; omega
      rw [List.getElem?_eq_getElem h1]
      simp [EdC, List.getD_eq_getElem?_getD, List.getElem?_eq_getElem (show j < (edV e).length by rw [edV_length]; omega)]
    | succ k =>
      rw [List.getElem?_append_right (by rw [edV_length]; omega), edV_length, show (k + 1) * 7 + j - 7 = k * 7 + j by omega, ih k j (by simpa using hk) hj]
      simp [EdC]
/-- the edges that leave a state -/
def leave (E : List Ed) (i : Nat) : List Ed := E.filter (fun e => decide (e.src = (i : Int)))
theorem leave_snoc (E : List Ed) (e : Ed) (i : Nat) : leave (E ++ [e]) i = if e.src = (i : Int) then leave E i ++ [e] else leave E i := by
  unfold leave
  rw [List.filter_append]
  by_cases h : e.src = (i : Int)
  · rw [if_pos h]; simp [h]
  · rw [if_neg h]; simp [h]
theorem leave_len (E : List Ed) (i : Nat) : (leave E i).length ≤ E.length := List.length_filter_le _ _

theorem add_plain' (b o j : Nat) : (⟨b, o, none⟩ : Addr).add j = ⟨b, o + j, none⟩ := by unfold Addr.add; split <;> simp_all
theorem own_eds {w : World} {base c n : Nat} {e : TypeId} {A : Option Addr} {l : List Ed} (h : w.ownsRow base e 7 (.slice A n c) n (edsV l)) : Arr w w.heap.size 7 A n (EdC l) := fun hn => by
  have hl : l.length = n := by have := h.1; rw [edsV_length] at this; omega
  obtain ⟨g, cap, hv, _, hlt⟩ := h.form hn
  have hA : A = some ⟨g, 0, none⟩ := by injection hv
  subst hA
  refine ⟨g, 0, rfl, hlt, fun k j hk hj => ?_⟩
  have hc := h.cells (g := g) rfl (k * 7 + j) (EdC l k j) (edsV_get l k j (by omega) hj)
  rw [add_plain'] at hc
  exact hc
theorem far_own {w : World} {base g n size : Nat} {e : TypeId} {v : Value} {xs : List Value} (h : w.ownsRow base e size v n xs) (hg : w.heap.size ≤ g) : some g ≠ v.ownBlock := fun hv => by
  have := (h.lt g hv.symm).2
  omega

structure RW (w1 W : World) (g S : Nat) (vs : List Value) (ls : Nat → List Ed) : Prop where
  blk : Blk W g 116 vs
  len : vs.length = S
  own : ∀ i, i < S → W.ownsRow (g + 1) 203 7 (vs.getD i undef) (ls i).length (edsV (ls i))
  apart : ∀ i j, i < S → j < S → i ≠ j → ∀ b, (vs.getD i undef).ownBlock = some b → (vs.getD j undef).ownBlock ≠ some b
  bel : Below g w1 W
/-- row i has been appended to; the slice of slices does not say so yet -/
structure RM (w1 W : World) (g S : Nat) (vs : List Value) (ls : Nat → List Ed) (i : Nat) (e : Ed) (v : Value) : Prop where
  blk : Blk W g 116 vs
  len : vs.length = S
  own : ∀ j, j < S → j ≠ i → W.ownsRow (g + 1) 203 7 (vs.getD j undef) (ls j).length (edsV (ls j))
  new : W.ownsRow (g + 1) 203 7 v ((ls i).length + 1) (edsV (ls i ++ [e]))
  apart : ∀ i j, i < S → j < S → i ≠ j → ∀ b, (vs.getD i undef).ownBlock = some b → (vs.getD j undef).ownBlock ≠ some b
  fresh : ∀ j, j < S → j ≠ i → ∀ b, v.ownBlock = some b → (vs.getD j undef).ownBlock ≠ some b
  bel : Below g w1 W
section
variable {w1 W : World} {g S : Nat} {vs : List Value} {ls : Nat → List Ed}
theorem RW.lt (h : RW w1 W g S vs ls) : g < W.heap.size := h.blk.lt
theorem RW.drew (h : RW w1 W g S vs ls) : RW w1 W.drew g S vs ls := ⟨h.blk, h.len, fun i hi => (h.own i hi).drew, h.apart, h.bel.drew⟩
theorem RW.alloc (h : RW w1 W g S vs ls) (o : Obj) : RW w1 (W.alloc o) g S vs ls := ⟨h.blk.alloc o, h.len, fun i hi => (h.own i hi).alloc o, h.apart, h.bel.alloc (Nat.le_of_lt h.lt) o⟩
theorem RW.cell (h : RW w1 W g S vs ls) {i : Nat} (hi : i < S) : W.cell? ⟨g, i, none⟩ = some (vs.getD i undef) := by
  rw [h.blk.cell]
  have := h.len
  rw [List.getElem?_eq_getElem (by omega)]
  simp [show i < vs.length by omega]
theorem RW.app (h : RW w1 W g S vs ls) {i : Nat} (hi : i < S) {W' : World} {g5 n5 c5 : Nat} {e : Ed} (hgrow : W.grownBy W' (vs.getD i undef).ownBlock)
    (hown : W'.ownsRow (g + 1) 203 7 (.slice (some ⟨g5, 0, none⟩) n5 c5) ((ls i).length + 1) (edsV (ls i ++ [e]))) (hat : (vs.getD i undef).ownBlock = some g5 ∨ g5 = W.heap.size) :
    RM w1 W' g S vs ls i e (.slice (some ⟨g5, 0, none⟩) n5 c5) := by
  refine ⟨h.blk.same (hgrow.block g h.lt (fun e9 => ?_)), h.len, fun j hj hne => (h.own j hj).kept hgrow ?_, hown, h.apart, fun j hj hne b hb => ?_, h.bel.grown hgrow (Nat.le_of_lt h.lt) (fun k hk => ?_)⟩
  · have := ((h.own i hi).lt g e9.symm).1; omega
  · cases hv : (vs.getD j undef).ownBlock with
    | none => left; rfl
    | some b => right; exact fun e9 => h.apart j i hj hi hne b hv e9.symm
  · obtain rfl : g5 = b := by simpa [Value.ownBlock] using hb
    rcases hat with hat | hat
    · exact h.apart i j hi hj (Ne.symm hne) g5 hat
    · exact fun e9 => by have := ((h.own j hj).lt g5 e9).2; omega
  · have := ((h.own i hi).lt k hk).1; omega
theorem RM.store {i : Nat} {e : Ed} {v : Value} (h : RM w1 W g S vs ls i e v) (hi : i < S) : RW w1 (W.setCell ⟨g, i, none⟩ v) g S (vs.set i v) (fun j => if j = i then ls j ++ [e] else ls j) := by
  have hg : W.grownBy (W.setCell ⟨g, i, none⟩ v) (some g) := ⟨rfl, rfl, rfl, by show W.heap.size ≤ (W.heap.modify g _).size; simp, fun k _ hk => Below.heap_setCell _ _ _ k (fun e => hk (by rw [e]))⟩
  have hlen := h.len
  have hget : ∀ j, j < S → (vs.set i v).getD j undef = if j = i then v else vs.getD j undef := fun j hj => by
    by_cases e9 : j = i
    · subst e9; simp [show j < vs.length by omega]
    · rw [if_neg e9]; simp [List.getD_eq_getElem?_getD, Ne.symm e9]
  have hkeep : ∀ {u : Value} {n : Nat} {xs : List Value}, W.ownsRow (g + 1) 203 7 u n xs → (W.setCell ⟨g, i, none⟩ v).ownsRow (g + 1) 203 7 u n xs := fun {u n xs} hu => hu.kept hg (by
    cases hv : u.ownBlock with
    | none => left; rfl
    | some b => right; exact fun e9 => by have := (hu.lt b hv).1; cases e9; omega)
  refine ⟨h.blk.set i v, by simp [hlen], fun j hj => ?_, fun j k hj hk hne b hb => ?_, h.bel.setCell (p := ⟨g, i, none⟩) (Nat.le_refl _) _⟩
  · rw [hget j hj]
    by_cases e9 : j = i
    · subst e9
      rw [if_pos rfl, if_pos rfl]
      have := hkeep h.new
      rw [List.length_append]; exact this
    · rw [if_neg e9, if_neg e9]
      exact hkeep (h.own j hj e9)
  · rw [hget j hj] at hb
    rw [hget k hk]
    by_cases e1 : j = i
    · rw [if_pos e1] at hb
      rw [if_neg (by omega)]
      exact h.fresh k hk (by omega) b hb
    · rw [if_neg e1] at hb
      by_cases e2 : k = i
      · rw [if_pos e2]
        exact fun e9 => h.fresh j hj e1 b e9 hb
      · rw [if_neg e2]
        exact h.apart j k hj hk hne b hb
end
end Go.Proofs.Ytfjgfabochiflaa
/- Depth first: which states are reached over nothing. Plain. -/
namespace Go.Proofs.Ytfjgfabochiflaa
open Go.RowKit

inductive Rch (E : List Ed) (S : Nat) (L : List Int) : Int → Prop
  | root {i : Int} : i ∈ L → 0 ≤ i → i < (S : Int) → Rch E S L i
  | step {e : Ed} : e ∈ E → e.free = true → Rch E S L e.src → Rch E S L e.dst
def OkE (E : List Ed) (S : Nat) : Prop := ∀ e ∈ E, 0 ≤ e.src ∧ e.src < (S : Int) ∧ 0 ≤ e.dst ∧ e.dst < (S : Int)
theorem okE_of {S : Nat} {a z : Int} {E : List Ed} (h : RightN ⟨(S : Int), a, z, E⟩) : OkE E S := fun e he => by
  obtain ⟨k, hk, rfl⟩ := List.getElem_of_mem he
  have h9 : ¬ BadE (S : Int) (E.getD k noEd) := fun h9 => h.ok ⟨k, hk, h9⟩
  have : E.getD k noEd = E[k] := by simp [hk]
  rw [this] at h9
  unfold BadE at h9
  omega
theorem Rch.range {E : List Ed} {S : Nat} {L : List Int} (hE : OkE E S) {i : Int} (h : Rch E S L i) : 0 ≤ i ∧ i < (S : Int) := by
  cases h with
  | root _ h1 h2 => exact ⟨h1, h2⟩
  | step he _ _ => exact ⟨(hE _ he).2.2.1, (hE _ he).2.2.2⟩

structure Dfs (E : List Ed) (S : Nat) (L : List Int) (pre st : List Int) (seen : List Bool) : Prop where
  nodup : (pre ++ st).Nodup
  rch : ∀ i, i ∈ pre ++ st → Rch E S L i
  sn : ∀ j, j < S → (seen.getD j false = true ↔ (j : Int) ∈ pre ++ st)
  len : seen.length = S
section
variable {E : List Ed} {S : Nat} {L pre st : List Int} {seen : List Bool}
theorem Dfs.begin : Dfs E S L [] [] (List.replicate S false) := ⟨by simp, by simp, fun j hj => by simp [hj], by simp⟩
theorem Dfs.push (h : Dfs E S L pre st seen) {j : Nat} (hj : j < S) (hr : Rch E S L (j : Int)) (hs : seen.getD j false = false) : Dfs E S L pre (st ++ [(j : Int)]) (seen.set j true) := by
  have hn : (j : Int) ∉ pre ++ st := fun h9 => by have := (h.sn j hj).2 h9; rw [hs] at this; cases this
  refine ⟨?_, fun i hi => ?_, fun k hk => ?_, by simp [h.len]⟩
  · rw [← List.append_assoc, List.nodup_append]
    refine ⟨h.nodup, by simp, fun a ha b hb => ?_⟩
    obtain rfl : b = (j : Int) := by simpa using hb
    exact fun e => hn (e ▸ ha)
  · rw [← List.append_assoc, List.mem_append] at hi
    rcases hi with hi | hi
    · exact h.rch i hi
    · obtain rfl : i = (j : Int) := by simpa using hi
      exact hr
  · rw [← List.append_assoc, List.mem_append]
    have hl := h.len
    by_cases e9 : k = j
    · subst e9
      simp [show k < seen.length by omega]
    · have := h.sn k hk
      have e8 : (seen.set j true).getD k false = seen.getD k false := by simp [List.getD_eq_getElem?_getD, Ne.symm e9]
      rw [e8, this]
      constructor
      · exact .inl
      · rintro (h9 | h9)
        · exact h9
        · exact absurd (Int.ofNat.inj (by simpa using h9)) e9
theorem mem_pop {x i : Int} : i ∈ (pre ++ [x]) ++ st ↔ i ∈ pre ++ (st ++ [x]) := by
  simp only [List.mem_append, List.mem_singleton]
  constructor
  · rintro ((h | h) | h)
    · exact .inl h
    · exact .inr (.inr h)
    · exact .inr (.inl h)
  · rintro (h | h | h)
    · exact .inl (.inl h)
    · exact .inr h
    · exact .inl (.inr h)
theorem Dfs.pop {x : Int} (h : Dfs E S L pre (st ++ [x]) seen) : Dfs E S L (pre ++ [x]) st seen := by
  refine ⟨?_, fun i hi => h.rch i (mem_pop.1 hi), fun j hj => (h.sn j hj).trans mem_pop.symm, h.len⟩
  have hp : ((pre ++ [x]) ++ st).Perm (pre ++ (st ++ [x])) := by
    rw [List.append_assoc]
    exact List.Perm.append_left _ List.perm_append_comm
  exact (hp.nodup_iff).2 h.nodup
theorem Dfs.fresh {x : Int} (h : Dfs E S L pre (st ++ [x]) seen) : x ∉ pre := fun h9 => by
  have := h.nodup
  rw [List.nodup_append] at this
  exact this.2.2 x h9 x (by simp) rfl
theorem pigeon : ∀ (S : Nat) (l : List Int), l.Nodup → (∀ x ∈ l, 0 ≤ x ∧ x < (S : Int)) → l.length ≤ S
  | 0, l, _, h => by
    cases l with
    | nil => simp
    | cons a l => have := h a (by simp); omega
  | S + 1, l, hn, h => by
    have h1 := pigeon S (l.erase (S : Int)) (hn.erase _) (fun x hx => by
      rw [hn.mem_erase_iff] at hx
      have := h x hx.2
      have := hx.1
      omega)
    rw [List.length_erase] at h1
    split at h1 <;> omega
theorem dfs_few (hE : OkE E S) (h : Dfs E S L pre st seen) : st.length ≤ S := by
  have := pigeon S _ h.nodup (fun x hx => (h.rch x hx).range hE)
  rw [List.length_append] at this
  omega
/-- all edges that leave what has come are followed -/
def Fol (E : List Ed) (pre all : List Int) : Prop := ∀ e ∈ E, e.free = true → e.src ∈ pre → e.dst ∈ all
def Roots (S : Nat) (L all : List Int) : Prop := ∀ i ∈ L, 0 ≤ i → i < (S : Int) → i ∈ all
theorem rch_all (hr : Roots S L pre) (hf : Fol E pre pre) {i : Int} (h : Rch E S L i) : i ∈ pre := by
  induction h with
  | root h1 h2 h3 => exact hr _ h1 h2 h3
  | step he hfr _ ih => exact hf _ he hfr ih
/-- the sum of what is still to be done falls -/
def falses (l : List Bool) : Nat := l.countP (fun b => !b)
theorem falses_set {l : List Bool} {j : Nat} (hj : j < l.length) (h : l.getD j false = false) : falses (l.set j true) + 1 = falses l := by
  unfold falses
  rw [List.countP_set hj]
  have e : l[j] = false := by simpa [hj] using h
  have : 0 < l.countP (fun b => !b) := List.countP_pos_iff.2 ⟨l[j], List.getElem_mem hj, by simp [e]⟩
  simp [e]
  omega
end
end Go.Proofs.Ytfjgfabochiflaa
/- What an automaton takes of a text, place by place. Plain. -/
namespace Go.Proofs.Ytfjgfabochiflaa
open Go.RowKit

def byteAt (s : ByteArray) (p : Nat) : Nat := (s.data.toList.getD p 0).toNat
theorem byteAt_lt (s : ByteArray) (p : Nat) : byteAt s p < 256 := UInt8.toNat_lt _
def hasE (e : Ed) (c : Nat) : Bool := hasB e.s0 e.s1 e.s2 e.s3 c
/-- the edge reads the text's byte -/
def Rd (e : Ed) (s : ByteArray) (p : Nat) : Prop := e.free = false ∧ hasE e (byteAt s p) = true
inductive On (E : List Ed) (S : Nat) (a : Int) (s : ByteArray) (p0 : Nat) : Nat → Int → Prop
  | start : 0 ≤ a → a < (S : Int) → On E S a s p0 p0 a
  | free {p : Nat} {e : Ed} : e ∈ E → e.free = true → On E S a s p0 p e.src → On E S a s p0 p e.dst
  | read {p : Nat} {e : Ed} : e ∈ E → p < s.size → Rd e s p → On E S a s p0 p e.src → On E S a s p0 (p + 1) e.dst
section
variable {E : List Ed} {S : Nat} {a : Int} {s : ByteArray} {p0 p : Nat} {i : Int}
theorem On.lo (h : On E S a s p0 p i) : p0 ≤ p := by
  induction h with
  | start _ _ => exact Nat.le_refl _
  | free _ _ _ ih => exact ih
  | read _ _ _ _ ih => omega
theorem On.range (hE : OkE E S) (h : On E S a s p0 p i) : 0 ≤ i ∧ i < (S : Int) := by
  cases h with
  | start h1 h2 => exact ⟨h1, h2⟩
  | free he _ _ => exact ⟨(hE _ he).2.2.1, (hE _ he).2.2.2⟩
  | read he _ _ _ => exact ⟨(hE _ he).2.2.1, (hE _ he).2.2.2⟩
/-- the first layer -/
theorem on_start {L : List Int} (hL : ∀ i, i ∈ L ↔ i = a) (ha : 0 ≤ a ∧ a < (S : Int)) (i : Int) : Rch E S L i ↔ On E S a s p0 p0 i := by
  constructor
  · intro h
    induction h with
    | root h1 _ _ => rw [(hL _).1 h1]; exact .start ha.1 ha.2
    | step he hf _ ih => exact .free he hf ih
  · intro h
    have key : ∀ q j, On E S a s p0 q j → q = p0 → Rch E S L j := fun q j h => by
      induction h with
      | start h1 h2 => intro _; exact .root ((hL _).2 rfl) h1 h2
      | free he hf _ ih => intro e; exact .step he hf (ih e)
      | read _ _ _ h9 _ => intro e; have := h9.lo; omega
    exact key _ _ h rfl
/-- the next layer -/
theorem on_next {L' : List Int} (hE : OkE E S) (hlo : p0 ≤ p) (hp : p < s.size) (hL : ∀ i, i ∈ L' ↔ ∃ e ∈ E, Rd e s p ∧ On E S a s p0 p e.src ∧ e.dst = i) (i : Int) : Rch E S L' i ↔ On E S a s p0 (p + 1) i := by
  constructor
  · intro h
    induction h with
    | root h1 _ _ =>
      obtain ⟨e, he, hr, ho, rfl⟩ := (hL _).1 h1
      exact .read he hp hr ho
    | step he hf _ ih => exact .free he hf ih
  · intro h
    have key : ∀ q j, On E S a s p0 q j → q = p + 1 → Rch E S L' j := fun q j h => by
      induction h with
      | start _ _ => intro e; omega
      | free he hf _ ih => intro e; exact .step he hf (ih e)
      | @read p' e he _ hr ho _ =>
        intro e9
        obtain rfl : p' = p := by omega
        exact .root ((hL _).2 ⟨e, he, hr, ho, rfl⟩) (hE _ he).2.2.1 (hE _ he).2.2.2
    exact key _ _ h rfl
/-- behind a place that nothing leaves there is nothing -/
theorem on_stop (hlo : p0 ≤ p) (hno : ∀ e ∈ E, p < s.size → Rd e s p → On E S a s p0 p e.src → False) {q : Nat} (h : On E S a s p0 q i) : q ≤ p := by
  induction h with
  | start _ _ => exact hlo
  | free _ _ _ ih => exact ih
  | @read p' e he hp hr ho ih =>
    rcases Nat.lt_or_ge p' p with h9 | h9
    · omega
    · obtain rfl : p' = p := by omega
      exact (hno e he hp hr ho).elim
end
open Classical in
noncomputable def onB (E : List Ed) (S : Nat) (a z : Int) (s : ByteArray) (p0 : Nat) (k : Nat) : Bool := decide (On E S a s p0 (p0 + k) z)
theorem onB_iff {E : List Ed} {S : Nat} {a z : Int} {s : ByteArray} {p0 k : Nat} : onB E S a z s p0 k = true ↔ On E S a s p0 (p0 + k) z := by
  unfold onB; simp
def outsTo (f : Nat → Bool) (p0 m : Nat) : List Int := ((List.range m).filter f).map (fun k => ((p0 + k : Nat) : Int))
theorem outsTo_next (f : Nat → Bool) (p0 m : Nat) : outsTo f p0 (m + 1) = if f m = true then outsTo f p0 m ++ [((p0 + m : Nat) : Int)] else outsTo f p0 m := by
  unfold outsTo
  rw [List.range_succ, List.filter_append, List.map_append]
  by_cases h : f m = true
  · rw [if_pos h]; simp [h]
  · rw [if_neg h]; simp [h]
theorem outsTo_stop (f : Nat → Bool) (p0 m k : Nat) (h : ∀ j, m ≤ j → f j = false) : outsTo f p0 (m + k) = outsTo f p0 m := by
  induction k with
  | zero => rfl
  | succ k ih => rw [Nat.add_succ, Nat.succ_eq_add_one, outsTo_next, if_neg (by rw [h (m + k) (by omega)]; decide)]; exact ih
theorem outsTo_len (f : Nat → Bool) (p0 m : Nat) : (outsTo f p0 m).length ≤ m := by
  unfold outsTo
  rw [List.length_map]
  exact Nat.le_trans (List.length_filter_le _ _) (by simp)
/-- the places at which it may end -/
noncomputable def endsN (E : List Ed) (S : Nat) (a z : Int) (s : ByteArray) (p0 : Nat) : List Int := outsTo (onB E S a z s p0) p0 (s.size + 1 - p0)

/-- the states that are read to -/
structure Nxt (S : Nat) (s : ByteArray) (p : Nat) (D : Ed → Prop) (next : List Int) (inl : List Bool) : Prop where
  len : inl.length = S
  nodup : next.Nodup
  mark : ∀ j, j < S → (inl.getD j false = true ↔ (j : Int) ∈ next)
  mem : ∀ i, i ∈ next ↔ p < s.size ∧ ∃ e, D e ∧ Rd e s p ∧ e.dst = i
  range : ∀ i ∈ next, 0 ≤ i ∧ i < (S : Int)
section
variable {S : Nat} {s : ByteArray} {p : Nat} {D D' : Ed → Prop} {next : List Int} {inl : List Bool}
theorem Nxt.begin : Nxt S s p (fun _ => False) [] (List.replicate S false) := ⟨by simp, by simp, fun j hj => by simp [hj], fun i => by simp, by simp⟩
theorem Nxt.iff (h : Nxt S s p D next inl) (hD : ∀ e, D' e ↔ D e) : Nxt S s p D' next inl := ⟨h.len, h.nodup, h.mark, fun i => by
  rw [h.mem i]
  constructor
  · rintro ⟨h1, e, h2, h3⟩; exact ⟨h1, e, (hD e).2 h2, h3⟩
  · rintro ⟨h1, e, h2, h3⟩; exact ⟨h1, e, (hD e).1 h2, h3⟩, h.range⟩
theorem Nxt.skip (h : Nxt S s p D next inl) {e : Ed} (hD : ∀ e', D' e' ↔ D e' ∨ e' = e) (hn : ¬ (p < s.size ∧ Rd e s p)) : Nxt S s p D' next inl := ⟨h.len, h.nodup, h.mark, fun i => by
  rw [h.mem i]
  constructor
  · rintro ⟨h1, e', h2, h3⟩; exact ⟨h1, e', (hD e').2 (.inl h2), h3⟩
  · rintro ⟨h1, e', h2, h3, h4⟩
    rcases (hD e').1 h2 with h2 | rfl
    · exact ⟨h1, e', h2, h3, h4⟩
    · exact absurd ⟨h1, h3⟩ hn, h.range⟩
theorem Nxt.dup (h : Nxt S s p D next inl) {e : Ed} {j : Nat} (hD : ∀ e', D' e' ↔ D e' ∨ e' = e) (hj : j < S) (he : e.dst = (j : Int)) (hm : inl.getD j false = true) : Nxt S s p D' next inl := ⟨h.len, h.nodup, h.mark, fun i => by
  constructor
  · intro h9
    obtain ⟨h1, e', h2, h3⟩ := (h.mem i).1 h9
    exact ⟨h1, e', (hD e').2 (.inl h2), h3⟩
  · rintro ⟨h1, e', h2, h3, h4⟩
    rcases (hD e').1 h2 with h2 | rfl
    · exact (h.mem i).2 ⟨h1, e', h2, h3, h4⟩
    · rw [← h4, he]; exact (h.mark j hj).1 hm, h.range⟩
theorem Nxt.push (h : Nxt S s p D next inl) {e : Ed} {j : Nat} (hD : ∀ e', D' e' ↔ D e' ∨ e' = e) (hj : j < S) (he : e.dst = (j : Int)) (hm : inl.getD j false = false) (hp : p < s.size) (hr : Rd e s p) : Nxt S s p D' (next ++ [(j : Int)]) (inl.set j true) := by
  have hn : (j : Int) ∉ next := fun h9 => by have := (h.mark j hj).2 h9; rw [hm] at this; cases this
  have hl := h.len
  refine ⟨by simp [hl], ?_, fun k hk => ?_, fun i => ?_, fun i hi => ?_⟩
  · rw [List.nodup_append]
    refine ⟨h.nodup, by simp, fun a ha b hb => ?_⟩
    obtain rfl : b = (j : Int) := by simpa using hb
    exact fun e => hn (e ▸ ha)
  · rw [List.mem_append]
    by_cases e9 : k = j
    · subst e9; simp [show k < inl.length by omega]
    · have e8 : (inl.set j true).getD k false = inl.getD k false := by simp [List.getD_eq_getElem?_getD, Ne.symm e9]
      rw [e8, h.mark k hk]
      constructor
      · exact .inl
      · rintro (h9 | h9)
        · exact h9
        · exact absurd (Int.ofNat.inj (by simpa using h9)) e9
  · rw [List.mem_append]
    constructor
    · rintro (h9 | h9)
      · obtain ⟨h1, e', h2, h3⟩ := (h.mem i).1 h9
        exact ⟨h1, e', (hD e').2 (.inl h2), h3⟩
      · obtain rfl : i = (j : Int) := by simpa using h9
        exact ⟨hp, e, (hD e).2 (.inr rfl), hr, he⟩
    · rintro ⟨h1, e', h2, h3, h4⟩
      rcases (hD e').1 h2 with h2 | rfl
      · exact .inl ((h.mem i).2 ⟨h1, e', h2, h3, h4⟩)
      · right; rw [← h4, he]; simp
  · rw [List.mem_append] at hi
    rcases hi with hi | hi
    · exact h.range i hi
    · obtain rfl : i = (j : Int) := by simpa using hi
      omega
theorem Nxt.few (h : Nxt S s p D next inl) : next.length ≤ S := pigeon S _ h.nodup h.range
end
end Go.Proofs.Ytfjgfabochiflaa
/- Parts of automata: what takes an expression between two states. Plain. -/
namespace Go.Proofs.Ytfjgfabochiflaa
open Go.RowKit

abbrev Lg := Nat → Nat → Prop
/-- the paths over some edges -/
inductive Pth (N : List Ed) (s : ByteArray) (i : Nat) (f : Int) : Nat → Int → Prop
  | refl : Pth N s i f i f
  | free {p : Nat} {e : Ed} : Pth N s i f p e.src → e ∈ N → e.free = true → Pth N s i f p e.dst
  | read {p : Nat} {e : Ed} : Pth N s i f p e.src → e ∈ N → p < s.size → Rd e s p → Pth N s i f (p + 1) e.dst
section
variable {N N' N1 N2 : List Ed} {s : ByteArray} {i p k : Nat} {f q n o : Int}
theorem Pth.trans (h : Pth N s i f p q) {j : Nat} {r : Int} (h2 : Pth N s p q j r) : Pth N s i f j r := by
  induction h2 with
  | refl => exact h
  | free _ h9 h8 ih => exact .free ih h9 h8
  | read _ h9 h8 h7 ih => exact .read ih h9 h8 h7
theorem Pth.mono (h : Pth N s i f p q) (hs : ∀ e, e ∈ N → e ∈ N') : Pth N' s i f p q := by
  induction h with
  | refl => exact .refl
  | free _ h9 h8 ih => exact .free ih (hs _ h9) h8
  | read _ h9 h8 h7 ih => exact .read ih (hs _ h9) h8 h7
theorem Pth.at_ (h : Pth N s i f p q) : (q = f ∧ p = i) ∨ ∃ e ∈ N, e.dst = q := by
  cases h with
  | refl => exact .inl ⟨rfl, rfl⟩
  | free _ h9 _ => exact .inr ⟨_, h9, rfl⟩
  | read _ h9 _ _ => exact .inr ⟨_, h9, rfl⟩
/-- a step over an edge -/
def Stp (e : Ed) (s : ByteArray) (p p' : Nat) : Prop := (e.free = true ∧ p' = p) ∨ (p < s.size ∧ Rd e s p ∧ p' = p + 1)
theorem Pth.step (h : Pth N s i f p q) {e : Ed} (he : e ∈ N) (hq : e.src = q) {p' : Nat} (hs : Stp e s p p') : Pth N s i f p' e.dst := by
  subst hq
  rcases hs with ⟨h1, rfl⟩ | ⟨h1, h2, rfl⟩
  · exact .free h he h1
  · exact .read h he h1 h2
/-- what holds at the start and is kept by each step holds of all that is reached -/
theorem Pth.inv (h : Pth N s i f p q) (I : Nat → Int → Prop) (h0 : I i f) (hst : ∀ e ∈ N, ∀ p p', I p e.src → Stp e s p p' → I p' e.dst) : I p q := by
  induction h with
  | refl => exact h0
  | free _ h9 h8 ih => exact hst _ h9 _ _ ih (.inl ⟨h8, rfl⟩)
  | read _ h9 h8 h7 ih => exact hst _ h9 _ _ ih (.inr ⟨h8, h7, rfl⟩)
end
/-- own states lie in [lo, hi) -/
def Own (lo hi : Nat) (q : Int) : Prop := (lo : Int) ≤ q ∧ q < (hi : Int)
structure Frag (s : ByteArray) (L : Lg) (f o : Int) (lo hi : Nat) (N : List Ed) : Prop where
  src : ∀ e ∈ N, (e.src = f ∨ Own lo hi e.src) ∧ e.src ≠ o
  dst : ∀ e ∈ N, (e.dst = o ∨ Own lo hi e.dst) ∧ e.dst ≠ f
  lang : ∀ i j, Pth N s i f j o ↔ L i j
section
variable {s : ByteArray} {L L1 L2 : Lg} {f o n : Int} {lo mid hi lo' hi' : Nat} {N N1 N2 : List Ed}
theorem Frag.at_ (h : Frag s L f o lo hi N) {i p : Nat} {q : Int} (hp : Pth N s i f p q) : (q = f ∧ p = i) ∨ ((q = o ∨ Own lo hi q) ∧ q ≠ f) := by
  rcases hp.at_ with h9 | ⟨e, he, rfl⟩
  · exact .inl h9
  · exact .inr (h.dst e he)
theorem Frag.widen (h : Frag s L f o lo hi N) (h1 : lo' ≤ lo) (h2 : hi ≤ hi') : Frag s L f o lo' hi' N :=
  ⟨fun e he => ⟨(h.src e he).1.imp id (fun x => ⟨by have := x.1; omega, by have := x.2; omega⟩), (h.src e he).2⟩,
   fun e he => ⟨(h.dst e he).1.imp id (fun x => ⟨by have := x.1; omega, by have := x.2; omega⟩), (h.dst e he).2⟩, h.lang⟩
theorem Frag.lg (h : Frag s L f o lo hi N) (hL : ∀ i j, L i j ↔ L1 i j) : Frag s L1 f o lo hi N := ⟨h.src, h.dst, fun i j => (h.lang i j).trans (hL i j)⟩
theorem Frag.nil (s : ByteArray) (f : Int) (lo hi : Nat) : Frag s (fun i j => j = i) f f lo hi [] :=
  ⟨fun e he => absurd he (by simp), fun e he => absurd he (by simp), fun i j => ⟨fun h => by
    rcases h.at_ with h9 | ⟨e, he, _⟩
    · exact h9.2
    · exact absurd he (by simp), fun h => by have h : j = i := h; subst h; exact .refl⟩⟩
theorem Frag.none (s : ByteArray) {f o : Int} (hfo : f ≠ o) (lo hi : Nat) : Frag s (fun _ _ => False) f o lo hi [] :=
  ⟨fun e he => absurd he (by simp), fun e he => absurd he (by simp), fun i j => ⟨fun h => by
    rcases h.at_ with h9 | ⟨e, he, _⟩
    · exact hfo h9.1.symm
    · exact absurd he (by simp), fun h => h.elim⟩⟩
/-- one edge -/
theorem Frag.edge (s : ByteArray) (e : Ed) (hfo : e.src ≠ e.dst) (lo hi : Nat) : Frag s (fun i j => Stp e s i j) e.src e.dst lo hi [e] := by
  refine ⟨fun x hx => ?_, fun x hx => ?_, fun i j => ⟨fun h => ?_, fun h => (Pth.refl).step (by simp) rfl h⟩⟩
  · obtain rfl : x = e := by simpa using hx
    exact ⟨.inl rfl, hfo⟩
  · obtain rfl : x = e := by simpa using hx
    exact ⟨.inl rfl, Ne.symm hfo⟩
  · have := h.inv (fun p q => (q = e.src ∧ p = i) ∨ (q = e.dst ∧ Stp e s i p)) (.inl ⟨rfl, rfl⟩) (fun x hx p p' hI hs => by
      obtain rfl : x = e := by simpa using hx
      rcases hI with ⟨_, rfl⟩ | ⟨h1, _⟩
      · exact .inr ⟨rfl, hs⟩
      · exact absurd h1 hfo)
    rcases this with ⟨h1, _⟩ | ⟨_, h1⟩
    · exact absurd h1.symm hfo
    · exact h1
/-- the one or the other -/
theorem Frag.alt (h1 : Frag s L1 f o lo mid N1) (h2 : Frag s L2 f o mid hi N2) (hlm : lo ≤ mid) (hmh : mid ≤ hi) :
    Frag s (fun i j => L1 i j ∨ L2 i j) f o lo hi (N1 ++ N2) := by
  have w1 := h1.widen (Nat.le_refl _) hmh
  have w2 := h2.widen hlm (Nat.le_refl _)
  refine ⟨fun e he => ?_, fun e he => ?_, fun i j => ⟨fun h => ?_, fun h => ?_⟩⟩
  · rcases List.mem_append.1 he with he | he
    · exact w1.src e he
    · exact w2.src e he
  · rcases List.mem_append.1 he with he | he
    · exact w1.dst e he
    · exact w2.dst e he
  · have := h.inv (fun p q => Pth N1 s i f p q ∨ Pth N2 s i f p q) (.inl .refl) (fun e he p p' hI hs => by
      rcases List.mem_append.1 he with he | he
      · have hsrc := h1.src e he
        rcases hI with hI | hI
        · exact .inl (hI.step he rfl hs)
        · rcases h2.at_ hI with ⟨h8, h9⟩ | ⟨h8, h9⟩
          · exact .inl ((show Pth N1 s i f p e.src by rw [h8, h9]; exact .refl).step he rfl hs)
          · unfold Own at hsrc h8
            omega
      · have hsrc := h2.src e he
        rcases hI with hI | hI
        · rcases h1.at_ hI with ⟨h8, h9⟩ | ⟨h8, h9⟩
          · exact .inr ((show Pth N2 s i f p e.src by rw [h8, h9]; exact .refl).step he rfl hs)
          · unfold Own at hsrc h8
            omega
        · exact .inr (hI.step he rfl hs))
    exact this.imp (fun h => (h1.lang i j).1 h) (fun h => (h2.lang i j).1 h)
  · rcases h with h | h
    · exact ((h1.lang i j).2 h).mono (fun e he => List.mem_append.2 (.inl he))
    · exact ((h2.lang i j).2 h).mono (fun e he => List.mem_append.2 (.inr he))
def seqL (L1 L2 : Lg) : Lg := fun i j => ∃ k, L1 i k ∧ L2 k j
/-- the one, then the other -/
theorem Frag.seq (h1 : Frag s L1 f n lo mid N1) (h2 : Frag s L2 n o mid hi N2) (hlm : lo ≤ mid) (hmh : mid ≤ hi) (hn : n = f ∨ Own lo mid n) (hf : ¬ Own lo hi f) (hof : o ≠ f) (ho : ¬ Own lo mid o) :
    Frag s (seqL L1 L2) f o lo hi (N1 ++ N2) := by
  have hno : n ≠ o := by
    rcases hn with rfl | hn
    · exact fun h => hof h.symm
    · exact fun h => ho (h ▸ hn)
  refine ⟨fun e he => ?_, fun e he => ?_, fun i j => ⟨fun h => ?_, fun ⟨k, hk1, hk2⟩ => ?_⟩⟩
  · rcases List.mem_append.1 he with he | he
    · have := h1.src e he
      unfold Own at this ho hf ⊢
      omega
    · have := h2.src e he
      unfold Own at this ho hf hn ⊢
      omega
  · rcases List.mem_append.1 he with he | he
    · have := h1.dst e he
      unfold Own at this ho hf hn ⊢
      omega
    · have := h2.dst e he
      unfold Own at this ho hf hn ⊢
      omega
  · have := h.inv (fun p q => Pth N1 s i f p q ∨ ∃ k, L1 i k ∧ Pth N2 s k n p q) (.inl .refl) (fun e he p p' hI hs => by
      rcases List.mem_append.1 he with he | he
      · have hsrc := h1.src e he
        rcases hI with hI | ⟨k, hk, hI⟩
        · exact .inl (hI.step he rfl hs)
        · exfalso
          rcases h2.at_ hI with ⟨h8, h9⟩ | ⟨h8, h9⟩
          · exact hsrc.2 h8
          · unfold Own at hsrc h8 hf ho hn
            omega
      · have hsrc := h2.src e he
        rcases hI with hI | ⟨k, hk, hI⟩
        · have hx : e.src = n := by
            rcases h1.at_ hI with ⟨h8, h9⟩ | ⟨h8, h9⟩
            · unfold Own at hsrc hf
              omega
            · unfold Own at hsrc h8
              omega
          rw [hx] at hI
          exact .inr ⟨p, (h1.lang i p).1 hI, (show Pth N2 s p n p e.src by rw [hx]; exact .refl).step he rfl hs⟩
        · exact .inr ⟨k, hk, hI.step he rfl hs⟩)
    rcases this with h9 | ⟨k, hk, h9⟩
    · exfalso
      rcases h1.at_ h9 with ⟨h8, _⟩ | ⟨h8, _⟩
      · exact hof h8
      · unfold Own at h8 ho
        omega
    · exact ⟨k, hk, (h2.lang k j).1 h9⟩
  · exact (((h1.lang i k).2 hk1).mono (fun e he => List.mem_append.2 (.inl he))).trans (((h2.lang k j).2 hk2).mono (fun e he => List.mem_append.2 (.inr he)))
def powL (K : Lg) : Nat → Lg
  | 0 => fun i j => j = i
  | c + 1 => seqL (powL K c) K
/-- so many times -/
def repL (K : Lg) (lo hi : Int) : Lg := fun i j => ∃ c : Nat, lo ≤ (c : Int) ∧ (hi < 0 ∨ (c : Int) ≤ hi) ∧ powL K c i j
def freeE (a b : Int) : Ed := ⟨a, b, true, 0, 0, 0, 0⟩
theorem stp_free {a b : Int} {p p' : Nat} : Stp (freeE a b) s p p' ↔ p' = p := by
  unfold Stp freeE Rd
  constructor
  · rintro (⟨_, h⟩ | ⟨_, h, _⟩)
    · exact h
    · cases h.1
  · exact fun h => .inl ⟨rfl, h⟩
theorem Frag.free (s : ByteArray) {f o : Int} (hfo : f ≠ o) (lo hi : Nat) : Frag s (fun i j => j = i) f o lo hi [freeE f o] :=
  (Frag.edge s (freeE f o) hfo lo hi).lg (fun _ _ => stp_free)
/-- round and round: at least so many (0 or 1) -/
theorem Frag.loop {K : Lg} {l a : Int} {z : Bool} (h : Frag s K l a mid hi N) (hl : l = (lo : Int)) (ha : a = (lo : Int) + 1) (hm : mid = lo + 2) (hmh : mid ≤ hi) (hf : ¬ Own lo hi f) (ho : ¬ Own lo hi o) (hfo : f ≠ o) :
    Frag s (fun i j => ∃ c : Nat, (if z = true then 0 else 1) ≤ c ∧ powL K c i j) f o lo hi (freeE f l :: (N ++ (freeE a l :: freeE a o :: (if z = true then [freeE l o] else [])))) := by
  subst hl ha hm
  obtain ⟨W, hW⟩ : ∃ W, W = (freeE f (lo : Int) :: (N ++ (freeE ((lo : Int) + 1) (lo : Int) :: freeE ((lo : Int) + 1) o :: (if z = true then [freeE (lo : Int) o] else [])))) := ⟨_, rfl⟩
  rw [← hW]
  have hmem : ∀ e, e ∈ W ↔ e = freeE f lo ∨ e ∈ N ∨ e = freeE ((lo : Int) + 1) lo ∨ e = freeE ((lo : Int) + 1) o ∨ (z = true ∧ e = freeE lo o) := fun e => by
    rw [hW]
    cases z <;> simp
  have hN : ∀ e, e ∈ N → e ∈ W := fun e he => (hmem e).2 (.inr (.inl he))
  clear hW
  have hfl : f ≠ (lo : Int) := fun h => hf (by unfold Own; omega)
  have hol : o ≠ (lo : Int) := fun h => ho (by unfold Own; omega)
  have hfa : f ≠ (lo : Int) + 1 := fun h => hf (by unfold Own; omega)
  have hoa : o ≠ (lo : Int) + 1 := fun h => ho (by unfold Own; omega)
  have hnd : ∀ e ∈ N, e.src ≠ f ∧ e.src ≠ o ∧ e.src ≠ (lo : Int) + 1 ∧ e.dst ≠ f ∧ e.dst ≠ o ∧ e.dst ≠ (lo : Int) ∧ Own lo hi e.src ∧ Own lo hi e.dst := fun e he => by
    have h1 := h.src e he
    have h2 := h.dst e he
    unfold Own at h1 h2 hf ho ⊢
    omega
  refine ⟨fun e he => ?_, fun e he => ?_, fun i j => ⟨fun h9 => ?_, fun h9 => ?_⟩⟩
  · rcases (hmem e).1 he with rfl | h1 | rfl | rfl | ⟨_, rfl⟩
    · exact ⟨.inl rfl, hfo⟩
    · exact ⟨.inr (hnd e h1).2.2.2.2.2.2.1, (hnd e h1).2.1⟩
    · exact ⟨.inr ⟨by simp [freeE] <;> omega, by simp [freeE] <;> omega⟩, Ne.symm hoa⟩
    · exact ⟨.inr ⟨by simp [freeE] <;> omega, by simp [freeE] <;> omega⟩, Ne.symm hoa⟩
    · exact ⟨.inr ⟨by simp [freeE], by simp [freeE] <;> omega⟩, Ne.symm hol⟩
  · rcases (hmem e).1 he with rfl | h1 | rfl | rfl | ⟨_, rfl⟩
    · exact ⟨.inr ⟨by simp [freeE], by simp [freeE] <;> omega⟩, Ne.symm hfl⟩
    · exact ⟨.inr (hnd e h1).2.2.2.2.2.2.2, (hnd e h1).2.2.2.1⟩
    · exact ⟨.inr ⟨by simp [freeE], by simp [freeE] <;> omega⟩, Ne.symm hfl⟩
    · exact ⟨.inl rfl, Ne.symm hfo⟩
    · exact ⟨.inl rfl, Ne.symm hfo⟩
  · have := h9.inv (fun p q => (q = f ∧ p = i) ∨ (∃ c k, powL K c i k ∧ Pth N s k (lo : Int) p q) ∨ (q = o ∧ ∃ c : Nat, (if z = true then 0 else 1) ≤ c ∧ powL K c i p)) (.inl ⟨rfl, rfl⟩) (fun e he p p' hI hs => by
      rcases (hmem e).1 he with rfl | h1 | rfl | rfl | ⟨hz, rfl⟩
      · obtain rfl := stp_free.1 hs
        rcases hI with ⟨_, rfl⟩ | ⟨c, k, hk, hI⟩ | ⟨h8, _⟩
        · exact .inr (.inl ⟨0, _, rfl, .refl⟩)
        · exfalso
          rcases h.at_ hI with ⟨h8, _⟩ | ⟨h8, _⟩
          · exact hfl h8
          · simp only [freeE] at h8
            unfold Own at h8 hf
            omega
        · exact absurd h8 hfo
      · rcases hI with ⟨h8, _⟩ | ⟨c, k, hk, hI⟩ | ⟨h8, _⟩
        · exact absurd h8 (hnd e h1).1
        · exact .inr (.inl ⟨c, k, hk, hI.step h1 rfl hs⟩)
        · exact absurd h8 (hnd e h1).2.1
      · obtain rfl := stp_free.1 hs
        rcases hI with ⟨h8, _⟩ | ⟨c, k, hk, hI⟩ | ⟨h8, _⟩
        · exact absurd h8.symm hfa
        · exact .inr (.inl ⟨c + 1, _, ⟨k, hk, (h.lang _ _).1 hI⟩, .refl⟩)
        · exact absurd h8.symm hoa
      · obtain rfl := stp_free.1 hs
        rcases hI with ⟨h8, _⟩ | ⟨c, k, hk, hI⟩ | ⟨h8, _⟩
        · exact absurd h8.symm hfa
        · exact .inr (.inr ⟨rfl, c + 1, by split <;> omega, ⟨k, hk, (h.lang _ _).1 hI⟩⟩)
        · exact absurd h8.symm hoa
      · obtain rfl := stp_free.1 hs
        rcases hI with ⟨h8, _⟩ | ⟨c, k, hk, hI⟩ | ⟨h8, _⟩
        · exact absurd h8.symm hfl
        · rcases h.at_ hI with ⟨_, h8⟩ | ⟨_, h8⟩
          · exact .inr (.inr ⟨rfl, c, by rw [if_pos hz]; omega, by rw [h8]; exact hk⟩)
          · exact absurd rfl h8
        · exact absurd h8.symm hol)
    rcases this with ⟨h8, _⟩ | ⟨c, k, hk, h8⟩ | ⟨_, h8⟩
    · exact absurd h8.symm hfo
    · exfalso
      rcases h.at_ h8 with ⟨h7, _⟩ | ⟨h7, _⟩
      · exact hol h7
      · unfold Own at h7 ho
        omega
    · exact h8
  · obtain ⟨c, hc, hp⟩ := h9
    have key : ∀ c j, powL K c i j → Pth W s i f j (lo : Int) ∧ (c ≠ 0 → Pth W s i f j ((lo : Int) + 1)) := fun c => by
      induction c with
      | zero =>
        intro j hj
        have hj : j = i := hj
        subst hj
        exact ⟨(Pth.refl).step (e := freeE f lo) ((hmem _).2 (.inl rfl)) rfl (stp_free.2 rfl), fun h => absurd rfl h⟩
      | succ c ih =>
        intro j ⟨k, hk, hj⟩
        have h1 : Pth W s i f j ((lo : Int) + 1) := (ih k hk).1.trans (((h.lang k j).2 hj).mono hN)
        exact ⟨h1.step (e := freeE ((lo : Int) + 1) lo) ((hmem _).2 (.inr (.inr (.inl rfl)))) rfl (stp_free.2 rfl), fun _ => h1⟩
    by_cases hc0 : c = 0
    · subst hc0
      have hz : z = true := by
        cases z
        · simp at hc
        · rfl
      exact (key 0 j hp).1.step (e := freeE lo o) ((hmem _).2 (.inr (.inr (.inr (.inr ⟨hz, rfl⟩))))) rfl (stp_free.2 rfl)
    · exact ((key c j hp).2 hc0).step (e := freeE ((lo : Int) + 1) o) ((hmem _).2 (.inr (.inr (.inr (.inl rfl))))) rfl (stp_free.2 rfl)
/-- a way that is still open at cur, and may be left to o -/
structure Frag2 (s : ByteArray) (Lc Lo : Lg) (f cur o : Int) (lo hi : Nat) (N : List Ed) : Prop where
  src : ∀ e ∈ N, (e.src = f ∨ Own lo hi e.src) ∧ e.src ≠ cur ∧ e.src ≠ o
  dst : ∀ e ∈ N, (e.dst = o ∨ Own lo hi e.dst) ∧ e.dst ≠ f
  at_ : cur = f ∨ Own lo hi cur
  langc : ∀ i j, Pth N s i f j cur ↔ Lc i j
  lango : ∀ i j, Pth N s i f j o ↔ Lo i j
theorem Frag2.of {cur : Int} (h : Frag s L f cur lo hi N) (hc : cur = f ∨ Own lo hi cur) (ho : ¬ Own lo hi o) (hof : o ≠ f) : Frag2 s L (fun _ _ => False) f cur o lo hi N := by
  refine ⟨fun e he => ?_, fun e he => ?_, hc, h.lang, fun i j => ⟨fun h9 => ?_, fun h9 => h9.elim⟩⟩
  · have := h.src e he
    refine ⟨this.1, this.2, fun h9 => ?_⟩
    rcases this.1 with h8 | h8
    · exact hof (h9.symm.trans h8)
    · exact ho (h9 ▸ h8)
  · have := h.dst e he
    refine ⟨.inr ?_, this.2⟩
    rcases this.1 with h8 | h8
    · rcases hc with h7 | h7
      · exact absurd (h8.trans h7) this.2
      · rw [h8]; exact h7
    · exact h8
  · rcases h.at_ h9 with ⟨h8, _⟩ | ⟨h8 | h8, h7⟩
    · exact hof h8
    · rcases hc with h6 | h6
      · exact h7 (h8.trans h6)
      · exact ho (h8 ▸ h6)
    · exact ho h8
theorem Frag2.reach {Lc Lo : Lg} {cur : Int} (h : Frag2 s Lc Lo f cur o lo hi N) {i p : Nat} {q : Int} (hp : Pth N s i f p q) : (q = f ∧ p = i) ∨ ((q = o ∨ Own lo hi q) ∧ q ≠ f) := by
  rcases hp.at_ with h9 | ⟨e, he, rfl⟩
  · exact .inl h9
  · exact .inr (h.dst e he)
theorem Frag2.close {Lc Lo : Lg} {cur : Int} (h : Frag2 s Lc Lo f cur o lo hi N) (ho : ¬ Own lo hi o) (hof : o ≠ f) : Frag s (fun i j => Lo i j ∨ Lc i j) f o lo hi (N ++ [freeE cur o]) := by
  have hco : cur ≠ o := by
    rcases h.at_ with h9 | h9
    · exact fun h8 => hof (h8.symm.trans h9)
    · exact fun h8 => ho (h8 ▸ h9)
  refine ⟨fun e he => ?_, fun e he => ?_, fun i j => ⟨fun h9 => ?_, fun h9 => ?_⟩⟩
  · rcases List.mem_append.1 he with he | he
    · exact ⟨(h.src e he).1, (h.src e he).2.2⟩
    · obtain rfl : e = freeE cur o := by simpa using he
      exact ⟨h.at_, hco⟩
  · rcases List.mem_append.1 he with he | he
    · exact h.dst e he
    · obtain rfl : e = freeE cur o := by simpa using he
      exact ⟨.inl rfl, hof⟩
  · have := h9.inv (fun p q => Pth N s i f p q ∨ (q = o ∧ Lc i p)) (.inl .refl) (fun e he p p' hI hs => by
      rcases List.mem_append.1 he with he | he
      · rcases hI with hI | ⟨h8, _⟩
        · exact .inl (hI.step he rfl hs)
        · exact absurd h8 (h.src e he).2.2
      · obtain rfl : e = freeE cur o := by simpa using he
        obtain rfl := stp_free.1 hs
        rcases hI with hI | ⟨h8, _⟩
        · exact .inr ⟨rfl, (h.langc _ _).1 hI⟩
        · exact absurd h8 hco)
    exact this.imp (fun h8 => (h.lango i j).1 h8) (fun h8 => h8.2)
  · rcases h9 with h9 | h9
    · exact ((h.lango i j).2 h9).mono (fun e he => List.mem_append.2 (.inl he))
    · exact (((h.langc i j).2 h9).mono (fun e he => List.mem_append.2 (.inl he))).step (e := freeE cur o) (by simp) rfl (stp_free.2 rfl)
theorem Frag2.more {Lc Lo K : Lg} {cur nx b : Int} {NK : List Ed} (h : Frag2 s Lc Lo f cur o lo mid N) (hn : nx = (mid : Int)) (hb : b = (mid : Int) + 1) (hk : Frag s K b nx (mid + 2) hi NK) (hlm : lo ≤ mid) (hmh : mid + 2 ≤ hi)
    (hf : ¬ Own lo hi f) (ho : ¬ Own lo hi o) (hof : o ≠ f) : Frag2 s (seqL Lc K) (fun i j => Lo i j ∨ Lc i j) f nx o lo hi (N ++ (freeE cur o :: freeE cur b :: NK)) := by
  subst hn hb
  have hcl : cur ≠ o := by
    rcases h.at_ with h9 | h9
    · exact fun h8 => hof (h8.symm.trans h9)
    · exact fun h8 => ho (by rw [← h8]; exact ⟨h9.1, by have := h9.2; omega⟩)
  have hcc : cur = f ∨ Own lo mid cur := h.at_
  have hl : ∀ e, e ∈ N → e ∈ N ++ (freeE cur o :: freeE cur ((mid : Int) + 1) :: NK) := fun e he => List.mem_append.2 (.inl he)
  have hr : ∀ e, e ∈ NK → e ∈ N ++ (freeE cur o :: freeE cur ((mid : Int) + 1) :: NK) := fun e he => by simp [he]
  have hsplit : ∀ e, e ∈ N ++ (freeE cur o :: freeE cur ((mid : Int) + 1) :: NK) → e ∈ N ∨ e = freeE cur o ∨ e = freeE cur ((mid : Int) + 1) ∨ e ∈ NK := fun e he => by simpa using he
  have hsrc : ∀ e ∈ N ++ (freeE cur o :: freeE cur ((mid : Int) + 1) :: NK), (e.src = f ∨ Own lo hi e.src) ∧ e.src ≠ (mid : Int) ∧ e.src ≠ o := fun e he => by
    rcases hsplit e he with he | rfl | rfl | he
    · have := h.src e he
      unfold Own at this hf ho ⊢
      omega
    · simp only [freeE]
      unfold Own at hcc hf ho ⊢
      omega
    · simp only [freeE]
      unfold Own at hcc hf ho ⊢
      omega
    · have := hk.src e he
      unfold Own at this hf ho ⊢
      omega
  have hdst : ∀ e ∈ N ++ (freeE cur o :: freeE cur ((mid : Int) + 1) :: NK), (e.dst = o ∨ Own lo hi e.dst) ∧ e.dst ≠ f := fun e he => by
    rcases hsplit e he with he | rfl | rfl | he
    · have := h.dst e he
      unfold Own at this hf ho ⊢
      omega
    · exact ⟨.inl rfl, hof⟩
    · simp only [freeE]
      unfold Own at hcc hf ho ⊢
      omega
    · have := hk.dst e he
      unfold Own at this hf ho ⊢
      omega
  have hinv : ∀ i p q, Pth (N ++ (freeE cur o :: freeE cur ((mid : Int) + 1) :: NK)) s i f p q → Pth N s i f p q ∨ (∃ k, Lc i k ∧ Pth NK s k ((mid : Int) + 1) p q) ∨ (q = o ∧ Lc i p) := fun i p q h9 => by
    refine h9.inv (fun p q => Pth N s i f p q ∨ (∃ k, Lc i k ∧ Pth NK s k ((mid : Int) + 1) p q) ∨ (q = o ∧ Lc i p)) (.inl .refl) (fun e he p p' hI hs => ?_)
    rcases hsplit e he with he | rfl | rfl | he
    · have h1 := h.src e he
      rcases hI with hI | ⟨k, _, hI⟩ | ⟨h8, _⟩
      · exact .inl (hI.step he rfl hs)
      · exfalso
        have h2 := hk.at_ hI
        unfold Own at h1 h2 hf ho
        omega
      · exact absurd h8 h1.2.2
    · obtain rfl := stp_free.1 hs
      rcases hI with hI | ⟨k, _, hI⟩ | ⟨h8, _⟩
      · exact .inr (.inr ⟨rfl, (h.langc _ _).1 hI⟩)
      · exfalso
        have h2 := hk.at_ hI
        simp only [freeE] at h2
        unfold Own at h2 hf ho hcc
        omega
      · exact absurd h8 hcl
    · obtain rfl := stp_free.1 hs
      rcases hI with hI | ⟨k, _, hI⟩ | ⟨h8, _⟩
      · exact .inr (.inl ⟨_, (h.langc _ _).1 hI, .refl⟩)
      · exfalso
        have h2 := hk.at_ hI
        simp only [freeE] at h2
        unfold Own at h2 hf ho hcc
        omega
      · exact absurd h8 hcl
    · have h1 := hk.src e he
      rcases hI with hI | ⟨k, hk', hI⟩ | ⟨h8, _⟩
      · exfalso
        have h2 := h.reach hI
        unfold Own at h1 h2 hf ho
        omega
      · exact .inr (.inl ⟨k, hk', hI.step he rfl hs⟩)
      · exfalso
        unfold Own at h1 hf ho
        omega
  refine ⟨hsrc, hdst, .inr ⟨by omega, by omega⟩, fun i j => ⟨fun h9 => ?_, fun ⟨k, h1, h2⟩ => ?_⟩, fun i j => ⟨fun h9 => ?_, fun h9 => ?_⟩⟩
  · rcases hinv _ _ _ h9 with h8 | ⟨k, hk', h8⟩ | ⟨h8, _⟩
    · exfalso
      have h2 := h.reach h8
      unfold Own at h2 hf ho
      omega
    · exact ⟨k, hk', (hk.lang k j).1 h8⟩
    · exfalso
      unfold Own at ho
      omega
  · exact ((((h.langc i k).2 h1).mono hl).step (e := freeE cur ((mid : Int) + 1)) (by simp) rfl (stp_free.2 rfl)).trans (((hk.lang k j).2 h2).mono hr)
  · rcases hinv _ _ _ h9 with h8 | ⟨k, hk', h8⟩ | ⟨_, h8⟩
    · exact .inl ((h.lango i j).1 h8)
    · exfalso
      have h2 := hk.at_ h8
      unfold Own at h2 ho
      omega
    · exact .inr h8
  · rcases h9 with h9 | h9
    · exact ((h.lango i j).2 h9).mono hl
    · exact (((h.langc i j).2 h9).mono hl).step (e := freeE cur o) (by simp) rfl (stp_free.2 rfl)
end
end Go.Proofs.Ytfjgfabochiflaa
/- nfa.Right; the reference's Right; few. -/
namespace Go.Proofs.Ytfjgfabochiflaa
open Go.RowKit

theorem clo17 (x S : Int) (p : Nat) (w : World) (hp : w.cell? ⟨p, 0, none⟩ = some (.int .i64 S)) :
    Calls Try.prog 121 #[.int .i64 x, .pointer (some ⟨p, 0, none⟩)] w fun e w' => e = .returned (.bool (decide (0 ≤ x) && decide (x < S))) ∧ w' = w := by
  go_enter Try.func121, Try.ntmps121
  by_cases h : 0 ≤ x
  · have d : decide (0 ≤ x) = true := by simpa using h
    go_wp2_with fail
    go_returns
    exact ⟨by first | rfl | simp [d], rfl⟩
  · have d : decide (0 ≤ x) = false := by simpa using h
    go_wp2_with fail
    go_returns
    exact ⟨by first | rfl | simp [d], rfl⟩

set_option maxRecDepth 100000 in
set_option maxHeartbeats 8000000 in
theorem nright_any (A : Option Addr) (n c : Nat) (S a z : Int) (E : List Ed) (w : World) (h : NfaIn w A n ⟨S, a, z, E⟩) :
    Calls Try.prog 90 #[.agg #[.int .i64 S, .int .i64 a, .int .i64 z, .slice A n c]] w fun e w' => e = .returned (.bool (rightN ⟨S, a, z, E⟩)) ∧ Below w.heap.size w w' := by
  have hb0 : Below w.heap.size w (w.alloc (.cells #[.int .i64 S, .int .i64 a, .int .i64 z, .slice A n c] 118)) := (Below.refl _ _).alloc (Nat.le_refl _) _
  have hsz : w.heap.size < (w.alloc (.cells #[.int .i64 S, .int .i64 a, .int .i64 z, .slice A n c] 118)).heap.size := by simp
  have q0 : (w.alloc (.cells #[.int .i64 S, .int .i64 a, .int .i64 z, .slice A n c] 118)).cell? ⟨w.heap.size, 0, none⟩ = some (.int .i64 S) := by simp
  have q1 : (w.alloc (.cells #[.int .i64 S, .int .i64 a, .int .i64 z, .slice A n c] 118)).cell? ⟨w.heap.size, 1, none⟩ = some (.int .i64 a) := by simp
  have q2 : (w.alloc (.cells #[.int .i64 S, .int .i64 a, .int .i64 z, .slice A n c] 118)).cell? ⟨w.heap.size, 2, none⟩ = some (.int .i64 z) := by simp
  have q3 : (w.alloc (.cells #[.int .i64 S, .int .i64 a, .int .i64 z, .slice A n c] 118)).cell? ⟨w.heap.size, 3, none⟩ = some (.slice A n c) := by simp
  have hl : E.length = n := h.len
  have hle := h.le
  have H1 := Lib.hid (show Arr _ _ 7 A n (EdC E) from (h.keep hb0).arr)
  have HB := Lib.hid hb0
  obtain ⟨bq, hbq⟩ : ∃ bq, bq = rightN ⟨S, a, z, E⟩ := ⟨_, rfl⟩
  rw [← hbq]
  have HBQ := Lib.hid hbq
  have hno : Hid (¬ RightN ⟨S, a, z, E⟩ → bq = false) := fun h => by rw [HBQ.out]; exact rightN_no h
  clear h hb0 hbq
  go_enter Try.func90, Try.ntmps90
  by_cases c1 : S < 1
  · have dc1 : decide (S < 1) = true := by simp; omega
    have hb : bq = false := hno.out (fun h9 => by have h8 : 1 ≤ S := h9.lo; omega)
    subst hb
    go_wp2_with (go_at_call 121; refine (clo17 _ S w.heap.size _ (by assumption)).mono ?_; rintro e w9 ⟨rfl, rfl⟩)
    go_returns
    exact ⟨by first | rfl | simp, HB.out⟩
  · have dc1 : decide (S < 1) = false := by simp; omega
    by_cases c2 : 2000 < S
    · have dc2 : decide (2000 < S) = true := by simp; omega
      have hb : bq = false := hno.out (fun h9 => by have h8 : S ≤ 2000 := h9.hi; omega)
      subst hb
      go_wp2_with (go_at_call 121; refine (clo17 _ S w.heap.size _ (by assumption)).mono ?_; rintro e w9 ⟨rfl, rfl⟩)
      go_returns
      exact ⟨by first | rfl | simp, HB.out⟩
    · have dc2 : decide (2000 < S) = false := by simp; omega
      by_cases c3 : a < 0
      · have dc3 : decide ((0 : Int) ≤ a) = false := by simp; omega
        have hb : bq = false := hno.out (fun h9 => by have h8 : 0 ≤ a := h9.alo; omega)
        subst hb
        go_wp2_with (go_at_call 121; refine (clo17 _ S w.heap.size _ (by assumption)).mono ?_; rintro e w9 ⟨rfl, rfl⟩)
        go_returns
        exact ⟨by first | rfl | simp, HB.out⟩
      · have dc3 : decide ((0 : Int) ≤ a) = true := by simp; omega
        by_cases c4 : S ≤ a
        · have dc4 : decide (a < S) = false := by simp; omega
          have hb : bq = false := hno.out (fun h9 => by have h8 : a < S := h9.ahi; omega)
          subst hb
          go_wp2_with (go_at_call 121; refine (clo17 _ S w.heap.size _ (by assumption)).mono ?_; rintro e w9 ⟨rfl, rfl⟩)
          go_returns
          exact ⟨by first | rfl | simp, HB.out⟩
        · have dc4 : decide (a < S) = true := by simp; omega
          by_cases c5 : z < 0
          · have dc5 : decide ((0 : Int) ≤ z) = false := by simp; omega
            have hb : bq = false := hno.out (fun h9 => by have h8 : 0 ≤ z := h9.zlo; omega)
            subst hb
            go_wp2_with (go_at_call 121; refine (clo17 _ S w.heap.size _ (by assumption)).mono ?_; rintro e w9 ⟨rfl, rfl⟩)
            go_returns
            exact ⟨by first | rfl | simp, HB.out⟩
          · have dc5 : decide ((0 : Int) ≤ z) = true := by simp; omega
            by_cases c6 : S ≤ z
            · have dc6 : decide (z < S) = false := by simp; omega
              have hb : bq = false := hno.out (fun h9 => by have h8 : z < S := h9.zhi; omega)
              subst hb
              go_wp2_with (go_at_call 121; refine (clo17 _ S w.heap.size _ (by assumption)).mono ?_; rintro e w9 ⟨rfl, rfl⟩)
              go_returns
              exact ⟨by first | rfl | simp, HB.out⟩
            · have dc6 : decide (z < S) = true := by simp; omega
              by_cases c7 : 16000 < n
              · have dc7 : decide ((16000 : Int) < (n : Int)) = true := by simp; omega
                have hb : bq = false := hno.out (fun h9 => by have h8 : E.length ≤ 16000 := h9.few; omega)
                subst hb
                go_wp2_with (go_at_call 121; refine (clo17 _ S w.heap.size _ (by assumption)).mono ?_; rintro e w9 ⟨rfl, rfl⟩)
                go_returns
                exact ⟨by first | rfl | simp, HB.out⟩
              · have dc7 : decide ((16000 : Int) < (n : Int)) = false := by simp; omega
                go_wp2_with (go_at_call 121; refine (clo17 _ S w.heap.size _ (by assumption)).mono ?_; rintro e w9 ⟨rfl, rfl⟩)
                generalize w.alloc (.cells #[.int .i64 S, .int .i64 a, .int .i64 z, .slice A n c] 118) = w1 at H1 HB q0 q1 q2 q3 hsz ⊢
                go_loopw [38] (fun i wr => ∃ k : Nat, k ≤ n ∧ i = .int .i64 k ∧ (¬ ∃ i, i < k ∧ BadE S (E.getD i noEd)) ∧ Below w1.heap.size w1 wr) (fun i _ => n - (intOf i).toNat)
                case atStart => exact ⟨0, by omega, rfl, fun ⟨j, hj, _⟩ => absurd hj (by omega), Below.refl _ _⟩
                case round =>
                  obtain ⟨k, hk, rfl, hnk, hbe⟩ := hrel
                  obtain ⟨w2, rfl⟩ : ∃ w2 : World, w2 = wr := ⟨_, rfl⟩
                  have HNK := Lib.hid hnk
                  have HBE := Lib.hid hbe
                  clear hnk
                  by_cases hlt : k < n
                  · obtain ⟨b, o, rfl, hbl, p0, p1, p2, p3, p4, p5, p6⟩ := (H1.out.below hbe).seven hlt
                    obtain ⟨e, he⟩ : ∃ e, e = E.getD k noEd := ⟨_, rfl⟩
                    rw [← he] at p0 p1 p2 p3 p4 p5 p6
                    have HE := Lib.hid he
                    clear he
                    obtain ⟨x, y, f, s0, s1, s2, s3⟩ := e
                    simp only at p0 p1 p2 p3 p4 p5 p6
                    have hbe2 : Below w1.heap.size w1 (w2.alloc (.cells #[.int .i64 x, .int .i64 y, .bool f, .int .u64 s0, .int .u64 s1, .int .u64 s2, .int .u64 s3] 203)) := hbe.alloc hbe.size _
                    have r0 := (hbe2.cell (p := ⟨w.heap.size, 0, none⟩) hsz).trans q0
                    have HBE2 := Lib.hid hbe2
                    have HBQ2 := Lib.hid (HB.out.trans (hbe2.mono (Nat.le_of_lt hsz)))
                    clear hbe hbe2
                    by_cases gx : x < 0
                    · have ex : decide ((0 : Int) ≤ x) = false := by simp; omega
                      have hb : bq = false := hno.out (fun h9 => h9.ok ⟨k, by show k < E.length; omega, by show BadE S (E.getD k noEd); rw [← HE.out]; exact .inl gx⟩)
                      subst hb
                      go_wp2_with (go_at_call 121; refine (clo17 _ S w.heap.size _ (by assumption)).mono ?_; rintro e w9 ⟨rfl, rfl⟩)
                      go_returns
                      exact ⟨by first | rfl | simp, HBQ2.out⟩
                    · have ex : decide ((0 : Int) ≤ x) = true := by simp; omega
                      by_cases gX : S ≤ x
                      · have eX : decide (x < S) = false := by simp; omega
                        have hb : bq = false := hno.out (fun h9 => h9.ok ⟨k, by show k < E.length; omega, by show BadE S (E.getD k noEd); rw [← HE.out]; exact .inr (.inl gX)⟩)
                        subst hb
                        go_wp2_with (go_at_call 121; refine (clo17 _ S w.heap.size _ (by assumption)).mono ?_; rintro e w9 ⟨rfl, rfl⟩)
                        go_returns
                        exact ⟨by first | rfl | simp, HBQ2.out⟩
                      · have eX : decide (x < S) = true := by simp; omega
                        by_cases gy : y < 0
                        · have ey : decide ((0 : Int) ≤ y) = false := by simp; omega
                          have hb : bq = false := hno.out (fun h9 => h9.ok ⟨k, by show k < E.length; omega, by show BadE S (E.getD k noEd); rw [← HE.out]; exact .inr (.inr (.inl gy))⟩)
                          subst hb
                          go_wp2_with (go_at_call 121; refine (clo17 _ S w.heap.size _ (by assumption)).mono ?_; rintro e w9 ⟨rfl, rfl⟩)
                          go_returns
                          exact ⟨by first | rfl | simp, HBQ2.out⟩
                        · have ey : decide ((0 : Int) ≤ y) = true := by simp; omega
                          by_cases gY : S ≤ y
                          · have eY : decide (y < S) = false := by simp; omega
                            have hb : bq = false := hno.out (fun h9 => h9.ok ⟨k, by show k < E.length; omega, by show BadE S (E.getD k noEd); rw [← HE.out]; exact .inr (.inr (.inr gY))⟩)
                            subst hb
                            go_wp2_with (go_at_call 121; refine (clo17 _ S w.heap.size _ (by assumption)).mono ?_; rintro e w9 ⟨rfl, rfl⟩)
                            go_returns
                            exact ⟨by first | rfl | simp, HBQ2.out⟩
                          · have eY : decide (y < S) = true := by simp; omega
                            go_wp2_with (go_at_call 121; refine (clo17 _ S w.heap.size _ (by assumption)).mono ?_; rintro e w9 ⟨rfl, rfl⟩)
                            go_roundw
                            case rel => exact ⟨k + 1, by omega, by go_num, fun ⟨j, hj, h5⟩ => by
                                          by_cases e : j = k
                                          · rw [e, ← HE.out] at h5
                                            unfold BadE at h5
                                            simp only at h5
                                            omega
                                          · exact HNK.out ⟨j, by omega, h5⟩, HBE2.out⟩
                            case measure => simp [intOf]; omega
                  · obtain rfl : k = n := by omega
                    have hb : bq = true := by
                      rw [HBQ.out]
                      exact rightN_yes ⟨by show 1 ≤ S; omega, by show S ≤ 2000; omega, by show 0 ≤ a; omega, by show a < S; omega, by show 0 ≤ z; omega, by show z < S; omega, by show E.length ≤ 16000; omega, by show ¬ ∃ i, i < E.length ∧ _; rw [hl]; exact HNK.out⟩
                    subst hb
                    go_wp2_with (go_at_call 121; refine (clo17 _ S w.heap.size _ (by assumption)).mono ?_; rintro e w9 ⟨rfl, rfl⟩)
                    go_returns
                    exact ⟨by first | rfl | simp, HB.out.trans (HBE.out.mono (Nat.le_of_lt hsz))⟩

end Go.Proofs.Ytfjgfabochiflaa
