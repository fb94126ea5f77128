/- Trees of expressions: what one is, where one lies in memory. -/
import Derived.Test.YtfjgfabochiflaaHas
namespace Go.Proofs.Ytfjgfabochiflaa
open Go.RowKit

inductive Tr where
  | mk (kind s0 s1 s2 s3 lo hi : Int) (kids : List Tr)
def noTr : Tr := .mk 0 0 0 0 0 0 0 []
def Tr.kind : Tr → Int
  | .mk k _ _ _ _ _ _ _ => k
def Tr.s0 : Tr → Int
  | .mk _ s _ _ _ _ _ _ => s
def Tr.s1 : Tr → Int
  | .mk _ _ s _ _ _ _ _ => s
def Tr.s2 : Tr → Int
  | .mk _ _ _ s _ _ _ _ => s
def Tr.s3 : Tr → Int
  | .mk _ _ _ _ s _ _ _ => s
def Tr.lo : Tr → Int
  | .mk _ _ _ _ _ s _ _ => s
def Tr.hi : Tr → Int
  | .mk _ _ _ _ _ _ s _ => s
def Tr.kids : Tr → List Tr
  | .mk _ _ _ _ _ _ _ l => l
theorem Tr.size_kid {t k : Tr} (h : k ∈ t.kids) : SizeOf.sizeOf k < SizeOf.sizeOf t := by
  obtain ⟨a, b, c, d, e, f, g, l⟩ := t
  have := List.sizeOf_lt_of_mem h
  simp [Tr.kids] at this
  simp
  omega
theorem Tr.ind {P : Tr → Prop} (h : ∀ t, (∀ k, k ∈ t.kids → P k) → P t) (t : Tr) : P t :=
  h t (fun k _hk => Tr.ind h k)
termination_by SizeOf.sizeOf t
decreasing_by exact Tr.size_kid _hk

/-- the cells of a node -/
def reV (t : Tr) (A : Option Addr) (n c : Nat) : List Value :=
  [.int .i64 t.kind, .int .u64 t.s0, .int .u64 t.s1, .int .u64 t.s2, .int .u64 t.s3, .int .i64 t.lo, .int .i64 t.hi, .slice A n c]
def ReC (l : List Tr) (KA : Nat → Option Addr) (KN KC : Nat → Nat) : Nat → Nat → Value := fun k j => (reV (l.getD k noTr) (KA k) (KN k) (KC k)).getD j undef
/-- a node's kids lie at A -/
inductive TrIn (w : World) : Tr → Option Addr → Nat → Prop
  | mk {t : Tr} {A : Option Addr} {n : Nat} (KA : Nat → Option Addr) (KN KC : Nat → Nat) : t.kids.length = n → n ≤ 140737488355328 → Arr w w.heap.size 8 A n (ReC t.kids KA KN KC) →
      (∀ k, k < n → TrIn w (t.kids.getD k noTr) (KA k) (KN k)) → TrIn w t A n
/-- what lies at A, one step deep -/
structure KidsIn (w : World) (t : Tr) (A : Option Addr) (n : Nat) (KA : Nat → Option Addr) (KN KC : Nat → Nat) : Prop where
  len : t.kids.length = n
  le : n ≤ 140737488355328
  arr : Arr w w.heap.size 8 A n (ReC t.kids KA KN KC)
  kid : ∀ k, k < n → TrIn w (t.kids.getD k noTr) (KA k) (KN k)
theorem TrIn.out {w : World} {t : Tr} {A : Option Addr} {n : Nat} (h : TrIn w t A n) : ∃ KA KN KC, KidsIn w t A n KA KN KC := by
  cases h with
  | mk KA KN KC h1 h2 h3 h4 => exact ⟨KA, KN, KC, h1, h2, h3, h4⟩
theorem TrIn.keep {w w' : World} (hb : Below w.heap.size w w') {t : Tr} {A : Option Addr} {n : Nat} (h : TrIn w t A n) : TrIn w' t A n := by
  induction h with
  | mk KA KN KC h1 h2 h3 _ ih => exact .mk KA KN KC h1 h2 ((h3.below hb).more hb.size) ih
theorem KidsIn.keep {w w' : World} {t : Tr} {A : Option Addr} {n : Nat} {KA : Nat → Option Addr} {KN KC : Nat → Nat} (h : KidsIn w t A n KA KN KC) (hb : Below w.heap.size w w') : KidsIn w' t A n KA KN KC :=
  ⟨h.len, h.le, (h.arr.below hb).more hb.size, fun k hk => (h.kid k hk).keep hb⟩
theorem KidsIn.tr {w : World} {t : Tr} {A : Option Addr} {n : Nat} {KA : Nat → Option Addr} {KN KC : Nat → Nat} (h : KidsIn w t A n KA KN KC) : TrIn w t A n := .mk KA KN KC h.len h.le h.arr h.kid
theorem getD_mem {α : Type} {l : List α} {k : Nat} {d : α} (h : k < l.length) : l.getD k d ∈ l := by
  simp [h]
/-- element k's eight cells -/
theorem KidsIn.eight {w : World} {t : Tr} {A : Option Addr} {n k : Nat} {KA : Nat → Option Addr} {KN KC : Nat → Nat} (h : KidsIn w t A n KA KN KC) (hk : k < n) : ∃ b off, A = some ⟨b, off, none⟩ ∧ b < w.heap.size ∧
    w.cell? ⟨b, off + k * 8, none⟩ = some (.int .i64 (t.kids.getD k noTr).kind) ∧ w.cell? ⟨b, off + k * 8 + 1, none⟩ = some (.int .u64 (t.kids.getD k noTr).s0) ∧
    w.cell? ⟨b, off + k * 8 + 2, none⟩ = some (.int .u64 (t.kids.getD k noTr).s1) ∧ w.cell? ⟨b, off + k * 8 + 3, none⟩ = some (.int .u64 (t.kids.getD k noTr).s2) ∧
    w.cell? ⟨b, off + k * 8 + 4, none⟩ = some (.int .u64 (t.kids.getD k noTr).s3) ∧ w.cell? ⟨b, off + k * 8 + 5, none⟩ = some (.int .i64 (t.kids.getD k noTr).lo) ∧
    w.cell? ⟨b, off + k * 8 + 6, none⟩ = some (.int .i64 (t.kids.getD k noTr).hi) ∧ w.cell? ⟨b, off + k * 8 + 7, none⟩ = some (.slice (KA k) (KN k) (KC k)) := by
  obtain ⟨b, off, e, hlt, hc⟩ := h.arr (by omega)
  exact ⟨b, off, e, hlt, hc k 0 hk (by omega), hc k 1 hk (by omega), hc k 2 hk (by omega), hc k 3 hk (by omega), hc k 4 hk (by omega), hc k 5 hk (by omega), hc k 6 hk (by omega), hc k 7 hk (by omega)⟩
/-- a node's value -/
def reA (t : Tr) (A : Option Addr) (n c : Nat) : Value :=
  .agg #[.int .i64 t.kind, .int .u64 t.s0, .int .u64 t.s1, .int .u64 t.s2, .int .u64 t.s3, .int .i64 t.lo, .int .i64 t.hi, .slice A n c]

inductive TrWf : Tr → Prop
  | mk {t : Tr} : U64w t.s0 → U64w t.s1 → U64w t.s2 → U64w t.s3 → (∀ k, k ∈ t.kids → TrWf k) → TrWf t

/-- how many nodes within one another -/
def Tr.height (t : Tr) : Nat := (t.kids.attach.map (fun k => k.1.height)).foldl max 0 + 1
termination_by SizeOf.sizeOf t
decreasing_by exact Tr.size_kid k.2
def heightL (l : List Tr) : Nat := (l.map Tr.height).foldl max 0
theorem Tr.height_eq (t : Tr) : t.height = heightL t.kids + 1 := by
  rw [Tr.height]
  unfold heightL
  congr 2
  simp
theorem heightL_snoc (l : List Tr) (k : Tr) : heightL (l ++ [k]) = max (heightL l) k.height := by simp [heightL]
/-- how many nodes -/
def Tr.nodes (t : Tr) : Nat := (t.kids.attach.map (fun k => k.1.nodes)).foldl (· + ·) 1
termination_by SizeOf.sizeOf t
decreasing_by exact Tr.size_kid k.2
def nodesL (l : List Tr) : Nat := (l.map Tr.nodes).foldl (· + ·) 1
theorem Tr.nodes_eq (t : Tr) : t.nodes = nodesL t.kids := by
  rw [Tr.nodes]
  unfold nodesL
  congr 1
  simp
theorem nodesL_snoc (l : List Tr) (k : Tr) : nodesL (l ++ [k]) = nodesL l + k.nodes := by simp [nodesL]
theorem nodesL_take_le (l : List Tr) (i : Nat) : nodesL (l.take i) ≤ nodesL l := by
  have : ∀ (m : List Tr), nodesL l ≤ nodesL (l ++ m) := fun m => by
    unfold nodesL
    rw [List.map_append, List.foldl_append]
    have : ∀ (q : List Nat) (a : Nat), a ≤ q.foldl (· + ·) a := fun q => by
      induction q with
      | nil => intro a; exact Nat.le_refl _
      | cons x q ih => intro a; exact Nat.le_trans (Nat.le_add_right a x) (ih _)
    exact this _ _
  have h2 : ∀ (l m : List Tr), nodesL l ≤ nodesL (l ++ m) := fun l m => by
    unfold nodesL
    rw [List.map_append, List.foldl_append]
    have : ∀ (q : List Nat) (a : Nat), a ≤ q.foldl (· + ·) a := fun q => by
      induction q with
      | nil => intro a; exact Nat.le_refl _
      | cons x q ih => intro a; exact Nat.le_trans (Nat.le_add_right a x) (ih _)
    exact this _ _
  have := h2 (l.take i) (l.drop i)
  rwa [List.take_append_drop] at this
theorem heightL_take_le (l : List Tr) (i : Nat) : heightL (l.take i) ≤ heightL l := by
  have h2 : ∀ (l m : List Tr), heightL l ≤ heightL (l ++ m) := fun l m => by
    unfold heightL
    rw [List.map_append, List.foldl_append]
    have : ∀ (q : List Nat) (a : Nat), a ≤ q.foldl max a := fun q => by
      induction q with
      | nil => intro a; exact Nat.le_refl _
      | cons x q ih => intro a; exact Nat.le_trans (Nat.le_max_left a x) (ih _)
    exact this _ _
  have := h2 (l.take i) (l.drop i)
  rwa [List.take_append_drop] at this
theorem take_next {α : Type} (l : List α) (i : Nat) (d : α) (h : i < l.length) : l.take (i + 1) = l.take i ++ [l.getD i d] := by
  rw [List.take_succ_eq_append_getElem h]
  simp [h]
theorem Tr.height_pos (t : Tr) : 1 ≤ t.height := by rw [Tr.height_eq]; omega
theorem nodesL_pos (l : List Tr) : 1 ≤ nodesL l := by
  have := nodesL_take_le l 0
  simpa [nodesL] using this
theorem Tr.nodes_pos (t : Tr) : 1 ≤ t.nodes := by rw [Tr.nodes_eq]; exact nodesL_pos _
/-- a kid is lower -/
theorem height_kid (l : List Tr) (i : Nat) (h : i < l.length) : (l.getD i noTr).height ≤ heightL l := by
  have := heightL_take_le l (i + 1)
  rw [take_next l i noTr h, heightL_snoc] at this
  omega
end Go.Proofs.Ytfjgfabochiflaa
