/- HMergeQ, HHeapG, HMergeR, TRPlain of this seat, in one text. -/
import Derived.Lib.Hide
/- Merging two side by side, the least rank first: by definition, and by a queue over a linked list. Plain. -/
namespace Go.Proofs.Ytfjgfabochiflaa.H14

/-! By definition. -/
section
variable (get : Int → Int → Option (Int × Int)) (signs : Int)
/-- which of the first k pairs comes first: its place, rank and what it becomes -/
def bestTo (l : List Int) : Nat → Option (Nat × Int × Int)
  | 0 => none
  | k + 1 => match get (l.getD k 0) (l.getD (k + 1) 0), bestTo l k with
    | none, b => b
    | some (r, x), none => some (k, r, x)
    | some (r, x), some (a, r', x') => if r < r' then some (k, r, x) else some (a, r', x')
def bestOf (l : List Int) : Option (Nat × Int × Int) := bestTo get l (l.length - 1)
def mergeAt (l : List Int) (a : Nat) (x : Int) : List Int := l.take a ++ x :: l.drop (a + 2)
def mergeN : Nat → List Int → Option (List Int)
  | 0, l => some l
  | n + 1, l => match bestOf get l with
    | none => some l
    | some (a, _, x) => if signs ≤ x then none else mergeN n (mergeAt l a x)
def mergeF (l : List Int) : Option (List Int) := mergeN get signs l.length l
end
section
variable {get : Int → Int → Option (Int × Int)} {signs : Int}
theorem bestTo_spec (l : List Int) : ∀ k, match bestTo get l k with
    | none => ∀ j, j < k → get (l.getD j 0) (l.getD (j + 1) 0) = none
    | some (a, r, x) => a < k ∧ get (l.getD a 0) (l.getD (a + 1) 0) = some (r, x) ∧ ∀ j r' x', j < k → get (l.getD j 0) (l.getD (j + 1) 0) = some (r', x') → r ≤ r' ∧ (j < a → r < r') := fun k => by
  induction k with
  | zero => exact fun j hj => by omega
  | succ k ih =>
    unfold bestTo
    cases hg : get (l.getD k 0) (l.getD (k + 1) 0) with
    | none =>
      cases hb : bestTo get l k with
      | none =>
        simp only [hb] at ih ⊢
        intro j hj
        rcases (by omega : j < k ∨ j = k) with h | rfl
        · exact ih j h
        · exact hg
      | some b =>
        obtain ⟨a, r, x⟩ := b
        simp only [hb] at ih ⊢
        obtain ⟨h1, h2, h3⟩ := ih
        refine ⟨by omega, h2, fun j r' x' hj h => ?_⟩
        rcases (by omega : j < k ∨ j = k) with h9 | rfl
        · exact h3 j r' x' h9 h
        · rw [hg] at h; cases h
    | some v =>
      obtain ⟨r, x⟩ := v
      cases hb : bestTo get l k with
      | none =>
        simp only [hb] at ih ⊢
        refine ⟨by omega, hg, fun j r' x' hj h => ?_⟩
        rcases (by omega : j < k ∨ j = k) with h9 | rfl
        · rw [ih j h9] at h; cases h
        · rw [hg] at h; cases h; omega
      | some b =>
        obtain ⟨a, r', x'⟩ := b
        simp only [hb] at ih ⊢
        obtain ⟨h1, h2, h3⟩ := ih
        by_cases hlt : r < r'
        · rw [if_pos hlt]
          refine ⟨by omega, hg, fun j r2 x2 hj h => ?_⟩
          rcases (by omega : j < k ∨ j = k) with h9 | rfl
          · have := h3 j r2 x2 h9 h; omega
          · rw [hg] at h; cases h; omega
        · rw [if_neg hlt]
          refine ⟨by omega, h2, fun j r2 x2 hj h => ?_⟩
          rcases (by omega : j < k ∨ j = k) with h9 | rfl
          · exact h3 j r2 x2 h9 h
          · rw [hg] at h; cases h; omega
theorem bestOf_none {l : List Int} (h : ∀ j, j + 1 < l.length → get (l.getD j 0) (l.getD (j + 1) 0) = none) : bestOf get l = none := by
  have := bestTo_spec (get := get) l (l.length - 1)
  unfold bestOf
  cases hb : bestTo get l (l.length - 1) with
  | none => rfl
  | some b =>
    obtain ⟨a, r, x⟩ := b
    rw [hb] at this
    obtain ⟨h1, h2, _⟩ := this
    rw [h a (by omega)] at h2
    cases h2
theorem bestOf_some {l : List Int} {a : Nat} {r x : Int} (h1 : a + 1 < l.length) (h2 : get (l.getD a 0) (l.getD (a + 1) 0) = some (r, x)) (h3 : ∀ j r' x', j + 1 < l.length → get (l.getD j 0) (l.getD (j + 1) 0) = some (r', x') → r ≤ r' ∧ (j < a → r < r')) : bestOf get l = some (a, r, x) := by
  have := bestTo_spec (get := get) l (l.length - 1)
  unfold bestOf
  cases hb : bestTo get l (l.length - 1) with
  | none =>
    rw [hb] at this
    rw [this a (by omega)] at h2
    cases h2
  | some b =>
    obtain ⟨a', r', x'⟩ := b
    rw [hb] at this
    obtain ⟨g1, g2, g3⟩ := this
    have c1 := g3 a r x (by omega) h2
    have c2 := h3 a' r' x' (by omega) g2
    have : a = a' := by
      rcases Nat.lt_trichotomy a a' with h | h | h
      · have := c1.2 h; omega
      · exact h
      · have := c2.2 h; omega
    subst this
    rw [h2] at g2
    cases g2
    rfl
theorem bestOf_at {l : List Int} {a : Nat} {r x : Int} (h : bestOf get l = some (a, r, x)) : a + 1 < l.length ∧ get (l.getD a 0) (l.getD (a + 1) 0) = some (r, x) := by
  have := bestTo_spec (get := get) l (l.length - 1)
  unfold bestOf at h
  rw [h] at this
  exact ⟨by have := this.1; omega, this.2.1⟩
theorem length_mergeAt {l : List Int} {a : Nat} {x : Int} (h : a + 1 < l.length) : (mergeAt l a x).length + 1 = l.length := by
  unfold mergeAt
  simp
  omega
theorem mergeF_none {l : List Int} (h : bestOf get l = none) : mergeF get signs l = some l := by
  unfold mergeF
  cases hl : l.length with
  | zero => rfl
  | succ n => unfold mergeN; rw [h]
theorem mergeF_some {l : List Int} {a : Nat} {r x : Int} (h : bestOf get l = some (a, r, x)) : mergeF get signs l = if signs ≤ x then none else mergeF get signs (mergeAt l a x) := by
  have h1 := (bestOf_at h).1
  have h2 := length_mergeAt (x := x) h1
  unfold mergeF
  rw [show l.length = (mergeAt l a x).length + 1 by omega]
  show mergeN get signs ((mergeAt l a x).length + 1) l = _
  conv => lhs; unfold mergeN
  rw [h]
end

/-! The linked list. -/
structure Nd where
  id : Int
  next : Int
  last : Int
structure Pr where
  rank : Int
  left : Int
  first : Int
  second : Int
  id : Int
def nd0 : Nd := ⟨0, 0, 0⟩
def pr0 : Pr := ⟨0, 0, 0, 0, 0⟩
def ndAt (nd : List Nd) (i : Nat) : Nd := nd.getD i nd0
theorem ndAt_set {nd : List Nd} {i : Nat} (hi : i < nd.length) (v : Nd) (k : Nat) : ndAt (nd.set i v) k = if k = i then v else ndAt nd k := by
  unfold ndAt
  simp only [List.getD_eq_getElem?_getD, List.getElem?_set, hi, if_true]
  by_cases h : i = k
  · simp [h]
  · simp [h, show ¬ k = i from fun e => h e.symm]
theorem ndAt_set2 {nd : List Nd} {i g : Nat} {v u : Nd} (hg : g < nd.length) (k : Nat) : ndAt ((nd.set i v).set g u) k = if k = g then u else ndAt (nd.set i v) k := ndAt_set (by simpa using hg) u k
theorem ndAt_set3 {nd : List Nd} {i g m : Nat} {v u t : Nd} (hm : m < nd.length) (k : Nat) : ndAt (((nd.set i v).set g u).set m t) k = if k = m then t else ndAt ((nd.set i v).set g u) k := ndAt_set (by simpa using hm) t k
structure Chain (nd : List Nd) (c : List Nat) : Prop where
  pos : 0 < c.length
  first : c.getD 0 0 = 0
  lt : ∀ j, j < c.length → c.getD j 0 < nd.length
  mono : ∀ i j, i < j → j < c.length → c.getD i 0 < c.getD j 0
  next : ∀ j, j + 1 < c.length → (ndAt nd (c.getD j 0)).next = (c.getD (j + 1) 0 : Nat)
  nextEnd : ∀ j, j + 1 = c.length → (ndAt nd (c.getD j 0)).next = -1
  last : ∀ j, j + 1 < c.length → (ndAt nd (c.getD (j + 1) 0)).last = (c.getD j 0 : Nat)
  last0 : (ndAt nd 0).last = -1
  id : ∀ j, j < c.length → 0 ≤ (ndAt nd (c.getD j 0)).id
  dead : ∀ i, i < nd.length → (∀ j, j < c.length → c.getD j 0 ≠ i) → (ndAt nd i).id = -1
def idsC (nd : List Nd) (c : List Nat) : List Int := c.map fun i => (ndAt nd i).id
theorem idsC_getD {nd : List Nd} {c : List Nat} {j : Nat} (h : j < c.length) : (idsC nd c).getD j 0 = (ndAt nd (c.getD j 0)).id := by
  simp [idsC, h]
theorem length_idsC (nd : List Nd) (c : List Nat) : (idsC nd c).length = c.length := by simp [idsC]
section
variable {nd : List Nd} {c : List Nat}
theorem Chain.inj (h : Chain nd c) {i j : Nat} (hi : i < c.length) (hj : j < c.length) (he : c.getD i 0 = c.getD j 0) : i = j := by
  rcases Nat.lt_trichotomy i j with h1 | h1 | h1
  · have := h.mono i j h1 hj; omega
  · exact h1
  · have := h.mono j i h1 hi; omega
theorem Chain.le (h : Chain nd c) {i j : Nat} (hi : i < c.length) (he : c.getD i 0 ≤ c.getD j 0) : i ≤ j := by
  rcases Nat.lt_or_ge j i with h1 | h1
  · have := h.mono j i h1 hi; omega
  · exact h1
/-- a node that lives stands in the chain -/
theorem Chain.live (h : Chain nd c) {i : Nat} (hi : i < nd.length) (hid : 0 ≤ (ndAt nd i).id) : ∃ j, j < c.length ∧ c.getD j 0 = i := by
  apply Classical.byContradiction
  intro h9
  have := h.dead i hi (fun j hj e => h9 ⟨j, hj, e⟩)
  omega
end
/-- the pair at a place, if there is one -/
def lookP (get : Int → Int → Option (Int × Int)) (nd : List Nd) (i : Int) : Option Pr :=
  if i < 0 ∨ (ndAt nd i.toNat).next < 0 then none
  else
    let a := (ndAt nd i.toNat).id
    let b := (ndAt nd (ndAt nd i.toNat).next.toNat).id
    (get a b).map fun v => ⟨v.1, i, a, b, v.2⟩
structure QInv (get : Int → Int → Option (Int × Int)) (nd : List Nd) (c : List Nat) (q : List Pr) : Prop where
  ok : ∀ p ∈ q, 0 ≤ p.left ∧ p.left.toNat < nd.length ∧ 0 ≤ p.first ∧ 0 ≤ p.second ∧ get p.first p.second = some (p.rank, p.id)
  all : ∀ j, j + 1 < c.length → ∀ r x, get (ndAt nd (c.getD j 0)).id (ndAt nd (c.getD (j + 1) 0)).id = some (r, x) → (⟨r, (c.getD j 0 : Nat), (ndAt nd (c.getD j 0)).id, (ndAt nd (c.getD (j + 1) 0)).id, x⟩ : Pr) ∈ q
def prKey (p : Pr) : Int := p.rank * 4294967296 + p.left
/-- is a pair still there? -/
def isCur (nd : List Nd) (p : Pr) : Prop := (ndAt nd p.left.toNat).id = p.first ∧ 0 ≤ (ndAt nd p.left.toNat).next ∧ (ndAt nd (ndAt nd p.left.toNat).next.toNat).id = p.second
/-- the list behind a merge -/
def mergeNd (nd : List Nd) (i : Nat) (x : Int) : List Nd :=
  let g := (ndAt nd i).next.toNat
  let nx := (ndAt nd g).next
  let nd1 := nd.set i ⟨x, nx, (ndAt nd i).last⟩
  let nd2 := nd1.set g ⟨-1, (ndAt nd1 g).next, (ndAt nd1 g).last⟩
  if 0 ≤ nx then nd2.set nx.toNat ⟨(ndAt nd2 nx.toNat).id, (ndAt nd2 nx.toNat).next, (i : Int)⟩ else nd2
section
variable {get : Int → Int → Option (Int × Int)} {nd : List Nd} {c : List Nat} {q : List Pr}
theorem cur_place (h : Chain nd c) (hq : QInv get nd c q) {p : Pr} (hp : p ∈ q) (hc : isCur nd p) : ∃ j, j + 1 < c.length ∧ p.left = (c.getD j 0 : Nat) ∧ (ndAt nd (c.getD j 0)).id = p.first ∧ (ndAt nd (c.getD (j + 1) 0)).id = p.second ∧ (ndAt nd (c.getD j 0)).next = (c.getD (j + 1) 0 : Nat) := by
  obtain ⟨o1, o2, o3, o4, o5⟩ := hq.ok p hp
  obtain ⟨c1, c2, c3⟩ := hc
  obtain ⟨j, hj, hje⟩ := h.live o2 (by omega)
  have hj1 : j + 1 < c.length := by
    apply Classical.byContradiction
    intro h9
    have := h.nextEnd j (by omega)
    rw [hje] at this
    omega
  have hn := h.next j hj1
  refine ⟨j, hj1, by omega, by rw [hje]; exact c1, ?_, hn⟩
  rw [hje] at hn
  rw [hn] at c3
  exact c3
theorem QInv.drop (h : Chain nd c) (hq : QInv get nd c q) {p : Pr} {q' : List Pr} (hp : q.Perm (p :: q')) (hc : ¬ isCur nd p) : QInv get nd c q' := by
  refine ⟨fun p' hp' => hq.ok p' (hp.mem_iff.mpr (by simp [hp'])), fun j hj r x hg => ?_⟩
  have := hp.mem_iff.mp (hq.all j hj r x hg)
  rcases List.mem_cons.mp this with h9 | h9
  · exfalso
    apply hc
    subst h9
    have hn := h.next j hj
    refine ⟨rfl, ?_, ?_⟩
    · show 0 ≤ (ndAt nd (c.getD j 0)).next
      omega
    · show (ndAt nd (ndAt nd (c.getD j 0)).next.toNat).id = _
      rw [hn]; rfl
  · exact h9
/-- the least of the queue, if it is still there, is the one that comes first -/
theorem cur_best (h : Chain nd c) (hq : QInv get nd c q) (hn : nd.length ≤ 4294967296) {p : Pr} (hp : p ∈ q) (hc : isCur nd p) (hmin : ∀ p' ∈ q, prKey p ≤ prKey p') :
    ∃ j, j + 1 < c.length ∧ p.left = (c.getD j 0 : Nat) ∧ (ndAt nd (c.getD j 0)).next = (c.getD (j + 1) 0 : Nat) ∧ bestOf get (idsC nd c) = some (j, p.rank, p.id) := by
  obtain ⟨j, hj, hl, h1, h2, h3⟩ := cur_place h hq hp hc
  refine ⟨j, hj, hl, h3, bestOf_some (by rw [length_idsC]; exact hj) ?_ (fun i r' x' hi hg => ?_)⟩
  · rw [idsC_getD (by omega), idsC_getD hj, h1, h2]
    exact (hq.ok p hp).2.2.2.2
  · rw [length_idsC] at hi
    rw [idsC_getD (by omega), idsC_getD hi] at hg
    have hm := hmin _ (hq.all i hi r' x' hg)
    have l1 := h.lt j (by omega)
    have l2 := h.lt i (by omega)
    simp only [prKey, hl] at hm
    refine ⟨by omega, fun hij => ?_⟩
    have := h.mono i j hij (by omega)
    omega
theorem bestOf_empty (hq : QInv get nd c []) : bestOf get (idsC nd c) = none := by
  refine bestOf_none (fun j hj => ?_)
  rw [length_idsC] at hj
  rw [idsC_getD (by omega), idsC_getD hj]
  cases hg : get (ndAt nd (c.getD j 0)).id (ndAt nd (c.getD (j + 1) 0)).id with
  | none => rfl
  | some v =>
    have := hq.all j hj v.1 v.2 hg
    cases this
theorem er_lt {c : List Nat} {k j : Nat} (h : j < k) : (c.eraseIdx k).getD j 0 = c.getD j 0 := by
  simp only [List.getD_eq_getElem?_getD, List.getElem?_eraseIdx, h, if_true]
theorem er_ge {c : List Nat} {k j : Nat} (h : k ≤ j) : (c.eraseIdx k).getD j 0 = c.getD (j + 1) 0 := by
  simp only [List.getD_eq_getElem?_getD, List.getElem?_eraseIdx, show ¬ j < k by omega, if_false]
theorem length_mergeNd (nd : List Nd) (i : Nat) (x : Int) : (mergeNd nd i x).length = nd.length := by
  unfold mergeNd
  simp only
  split <;> simp
/-- the nodes behind a merge, one by one -/
theorem mergeNd_at (h : Chain nd c) {j : Nat} (hj : j + 1 < c.length) (x : Int) (k : Nat) :
    ndAt (mergeNd nd (c.getD j 0) x) k = if k = c.getD j 0 then ⟨x, (ndAt nd (c.getD (j + 1) 0)).next, (ndAt nd k).last⟩ else if k = c.getD (j + 1) 0 then ⟨-1, (ndAt nd k).next, (ndAt nd k).last⟩
      else if j + 2 < c.length ∧ k = c.getD (j + 2) 0 then ⟨(ndAt nd k).id, (ndAt nd k).next, (c.getD j 0 : Nat)⟩ else ndAt nd k := by
  have hlt := h.mono j (j + 1) (by omega) hj
  have l1 := h.lt j (by omega)
  have l2 := h.lt (j + 1) hj
  have hn1 := h.next j hj
  generalize hg0 : c.getD j 0 = g0 at *
  generalize hg1 : c.getD (j + 1) 0 = g1 at *
  have n1 : ¬ g1 = g0 := by omega
  have n2 : ¬ g0 = g1 := by omega
  unfold mergeNd
  simp only [hn1, Int.toNat_natCast]
  by_cases h2 : j + 2 < c.length
  · have hn := h.next (j + 1) h2
    have l3 := h.lt (j + 2) h2
    have hlt2 := h.mono (j + 1) (j + 2) (by omega) h2
    rw [show j + 1 + 1 = j + 2 from rfl] at hn
    generalize hg2 : c.getD (j + 2) 0 = g2 at *
    rw [hg1] at hn hlt2
    have n3 : ¬ g2 = g0 := by omega
    have n4 : ¬ g2 = g1 := by omega
    have n5 : ¬ g0 = g2 := by omega
    have n6 : ¬ g1 = g2 := by omega
    simp only [hn, Int.toNat_natCast, show (0 : Int) ≤ (g2 : Int) by omega, if_true]
    simp only [ndAt_set3 l3, ndAt_set2 l2, ndAt_set l1, if_neg n1, if_neg n3, if_neg n4]
    by_cases e1 : k = g2
    · subst e1; simp [n3, n4, h2]
    · by_cases e2 : k = g1
      · subst e2; simp [n1, n6]
      · by_cases e3 : k = g0
        · subst e3; simp [n2, n5]
        · simp [e1, e2, e3]
  · have hn := h.nextEnd (j + 1) (by omega)
    rw [hg1] at hn
    simp only [hn, show ¬ (0 : Int) ≤ -1 by omega, if_false]
    simp only [ndAt_set2 l2, ndAt_set l1, if_neg n1]
    by_cases e2 : k = g1
    · subst e2; simp [n1, hn]
    · by_cases e3 : k = g0
      · subst e3; simp [n2]
      · simp [e2, e3, h2]
section
variable (h : Chain nd c) {j : Nat} (hj : j + 1 < c.length) (x : Int)
include h hj
theorem mg_at : ndAt (mergeNd nd (c.getD j 0) x) (c.getD j 0) = ⟨x, (ndAt nd (c.getD (j + 1) 0)).next, (ndAt nd (c.getD j 0)).last⟩ := by
  rw [mergeNd_at h hj, if_pos rfl]
theorem mg_gone : (ndAt (mergeNd nd (c.getD j 0) x) (c.getD (j + 1) 0)).id = -1 := by
  have := h.mono j (j + 1) (by omega) hj
  rw [mergeNd_at h hj, if_neg (by omega), if_pos rfl]
theorem mg_other {m : Nat} (hm : m < c.length) (h1 : m ≠ j) (h2 : m ≠ j + 1) : (ndAt (mergeNd nd (c.getD j 0) x) (c.getD m 0)).id = (ndAt nd (c.getD m 0)).id ∧ (ndAt (mergeNd nd (c.getD j 0) x) (c.getD m 0)).next = (ndAt nd (c.getD m 0)).next := by
  rw [mergeNd_at h hj, if_neg (fun e => h1 (h.inj hm (by omega) e)), if_neg (fun e => h2 (h.inj hm hj e))]
  split <;> exact ⟨rfl, rfl⟩
theorem mg_last {m : Nat} (hm : m < c.length) (h2 : m ≠ j + 1) (h3 : m ≠ j + 2) : (ndAt (mergeNd nd (c.getD j 0) x) (c.getD m 0)).last = (ndAt nd (c.getD m 0)).last := by
  rw [mergeNd_at h hj]
  split
  · rfl
  · rw [if_neg (fun e => h2 (h.inj hm hj e)), if_neg (fun e => h3 (h.inj hm e.1 e.2))]
theorem mg_last2 (h2 : j + 2 < c.length) : (ndAt (mergeNd nd (c.getD j 0) x) (c.getD (j + 2) 0)).last = (c.getD j 0 : Nat) := by
  rw [mergeNd_at h hj, if_neg (fun e => by have := h.inj h2 (by omega) e; omega), if_neg (fun e => by have := h.inj h2 hj e; omega), if_pos ⟨h2, rfl⟩]
theorem mg_out {i : Nat} (hd : ∀ k, k < c.length → c.getD k 0 ≠ i) : ndAt (mergeNd nd (c.getD j 0) x) i = ndAt nd i := by
  rw [mergeNd_at h hj, if_neg (fun e => hd j (by omega) e.symm), if_neg (fun e => hd (j + 1) hj e.symm), if_neg (fun e => hd (j + 2) e.1 e.2.symm)]
end
theorem Chain.merge (h : Chain nd c) {j : Nat} (hj : j + 1 < c.length) {x : Int} (hx : 0 ≤ x) : Chain (mergeNd nd (c.getD j 0) x) (c.eraseIdx (j + 1)) ∧ idsC (mergeNd nd (c.getD j 0) x) (c.eraseIdx (j + 1)) = mergeAt (idsC nd c) j x := by
  have hlen : (c.eraseIdx (j + 1)).length + 1 = c.length := by rw [List.length_eraseIdx]; split <;> omega
  have a1 := mg_at h hj x
  have a2 := mg_gone h hj x
  have a3 := fun {m : Nat} => mg_other h hj x (m := m)
  have a4 := fun {m : Nat} => mg_last h hj x (m := m)
  have a5 := mg_last2 h hj x
  have a6 := fun {i : Nat} => mg_out h hj x (i := i)
  constructor
  · refine ⟨by omega, ?_, fun k hk => ?_, fun a b hab hb => ?_, fun k hk => ?_, fun k hk => ?_, fun k hk => ?_, ?_, fun k hk => ?_, fun i hi hd => ?_⟩
    · rw [er_lt (by omega)]; exact h.first
    · rw [length_mergeNd]
      by_cases e : k < j + 1
      · rw [er_lt e]; exact h.lt k (by omega)
      · rw [er_ge (by omega)]; exact h.lt (k + 1) (by omega)
    · by_cases e : a < j + 1
      · rw [er_lt e]
        by_cases e2 : b < j + 1
        · rw [er_lt e2]; exact h.mono _ _ hab (by omega)
        · rw [er_ge (by omega)]; exact h.mono _ _ (by omega) (by omega)
      · rw [er_ge (by omega), er_ge (by omega)]; exact h.mono _ _ (by omega) (by omega)
    · rcases Nat.lt_trichotomy k j with e | e | e
      · rw [er_lt (by omega), er_lt (by omega), (a3 (by omega) (by omega) (by omega)).2]
        exact h.next k (by omega)
      · subst e
        rw [er_lt (by omega), er_ge (by omega), a1]
        exact h.next (k + 1) (by omega)
      · rw [er_ge (by omega), er_ge (by omega), (a3 (by omega) (by omega) (by omega)).2]
        exact h.next (k + 1) (by omega)
    · by_cases e : k = j
      · subst e
        rw [er_lt (by omega), a1]
        exact h.nextEnd (k + 1) (by omega)
      · rw [er_ge (by omega), (a3 (by omega) (by omega) (by omega)).2]
        exact h.nextEnd (k + 1) (by omega)
    · rcases Nat.lt_trichotomy k j with e | e | e
      · rw [er_lt (by omega), er_lt (by omega), a4 (by omega) (by omega) (by omega)]
        exact h.last k (by omega)
      · subst e
        rw [er_ge (by omega), er_lt (by omega)]
        exact a5 (by omega)
      · rw [er_ge (by omega), er_ge (by omega), a4 (by omega) (by omega) (by omega)]
        exact h.last (k + 1) (by omega)
    · have := a4 (m := 0) (by omega) (by omega) (by omega)
      rw [h.first] at this
      rw [this]
      exact h.last0
    · rcases Nat.lt_trichotomy k j with e | e | e
      · rw [er_lt (by omega), (a3 (by omega) (by omega) (by omega)).1]
        exact h.id k (by omega)
      · subst e
        rw [er_lt (by omega), a1]
        exact hx
      · rw [er_ge (by omega), (a3 (by omega) (by omega) (by omega)).1]
        exact h.id (k + 1) (by omega)
    · rw [length_mergeNd] at hi
      by_cases e1 : i = c.getD (j + 1) 0
      · rw [e1]; exact a2
      · have hd' : ∀ k, k < c.length → c.getD k 0 ≠ i := fun k hk e => by
          rcases Nat.lt_trichotomy k (j + 1) with h1 | h1 | h1
          · have := hd k (by omega)
            rw [er_lt h1] at this
            exact this e
          · subst h1; exact e1 e.symm
          · have := hd (k - 1) (by omega)
            rw [er_ge (by omega), show k - 1 + 1 = k by omega] at this
            exact this e
        rw [a6 hd']
        exact h.dead i hi hd'
  · have hl2 : (mergeAt (idsC nd c) j x).length + 1 = c.length := by rw [length_mergeAt (by rw [length_idsC]; exact hj), length_idsC]
    have htl : (List.take j (idsC nd c)).length = j := by rw [List.length_take, length_idsC]; omega
    apply List.ext_getElem?
    intro k
    have e : ∀ l : List Int, ∀ k, k < l.length → l[k]? = some (l.getD k 0) := fun l k hk => by simp [hk]
    by_cases hk : k + 1 < c.length
    · have g1 : k < (c.eraseIdx (j + 1)).length := by omega
      rw [e _ _ (by rw [length_idsC]; exact g1), idsC_getD g1]
      unfold mergeAt
      rcases Nat.lt_trichotomy k j with e1 | e1 | e1
      · rw [er_lt (by omega), (a3 (by omega) (by omega) (by omega)).1, List.getElem?_append_left (by omega), List.getElem?_take, if_pos e1, e _ _ (by rw [length_idsC]; omega), idsC_getD (by omega)]
      · subst e1
        rw [er_lt (by omega), a1, List.getElem?_append_right (by omega), htl, Nat.sub_self, List.getElem?_cons_zero]
      · rw [er_ge (by omega), (a3 (by omega) (by omega) (by omega)).1, List.getElem?_append_right (by omega), htl, show k - j = (k - j - 1) + 1 by omega, List.getElem?_cons_succ, List.getElem?_drop,
          show j + 2 + (k - j - 1) = k + 1 by omega, e _ _ (by rw [length_idsC]; omega), idsC_getD (by omega)]
    · rw [List.getElem?_eq_none (by rw [length_idsC]; omega), List.getElem?_eq_none (by omega)]
/-- what a look finds may stand in the queue -/
theorem lookP_at (h : Chain nd c) {j : Nat} (hj : j + 1 < c.length) : lookP get nd (c.getD j 0 : Nat) = (get (ndAt nd (c.getD j 0)).id (ndAt nd (c.getD (j + 1) 0)).id).map fun v => ⟨v.1, (c.getD j 0 : Nat), (ndAt nd (c.getD j 0)).id, (ndAt nd (c.getD (j + 1) 0)).id, v.2⟩ := by
  have hn := h.next j hj
  unfold lookP
  rw [Int.toNat_natCast, if_neg (by rw [hn]; omega)]
  simp only [hn, Int.toNat_natCast]
theorem lookP_ok (h : Chain nd c) {i : Int} {p : Pr} (hl : lookP get nd i = some p) (hi : ∃ j, j < c.length ∧ i = (c.getD j 0 : Nat)) : 0 ≤ p.left ∧ p.left.toNat < nd.length ∧ 0 ≤ p.first ∧ 0 ≤ p.second ∧ get p.first p.second = some (p.rank, p.id) := by
  obtain ⟨j, hj, rfl⟩ := hi
  by_cases hj1 : j + 1 < c.length
  · rw [lookP_at h hj1] at hl
    cases hg : get (ndAt nd (c.getD j 0)).id (ndAt nd (c.getD (j + 1) 0)).id with
    | none => rw [hg] at hl; cases hl
    | some v =>
      rw [hg] at hl
      cases hl
      exact ⟨by simp, by simpa using h.lt j hj, h.id j hj, h.id (j + 1) hj1, hg⟩
  · have hn := h.nextEnd j (by omega)
    unfold lookP at hl
    rw [Int.toNat_natCast, if_pos (by rw [hn]; omega)] at hl
    cases hl
/-- behind a merge: the queue less the pair, and with what the two looks find -/
theorem QInv.merge (h : Chain nd c) (hq : QInv get nd c q) {p : Pr} {q' q2 : List Pr} (hp : q.Perm (p :: q')) {j : Nat} (hj : j + 1 < c.length) (hl : p.left = (c.getD j 0 : Nat)) {x : Int} (hx : 0 ≤ x)
    (h2 : q2.Perm (q' ++ ((lookP get (mergeNd nd (c.getD j 0) x) (c.getD j 0 : Nat)).toList ++ (lookP get (mergeNd nd (c.getD j 0) x) (ndAt (mergeNd nd (c.getD j 0) x) (c.getD j 0)).last).toList))) :
    QInv get (mergeNd nd (c.getD j 0) x) (c.eraseIdx (j + 1)) q2 := by
  obtain ⟨hc, _⟩ := h.merge hj hx
  have hlen : (c.eraseIdx (j + 1)).length + 1 = c.length := by rw [List.length_eraseIdx]; split <;> omega
  have a3 := fun {m : Nat} => mg_other h hj x (m := m)
  have hej : (c.eraseIdx (j + 1)).getD j 0 = c.getD j 0 := er_lt (by omega)
  have hlast : (ndAt (mergeNd nd (c.getD j 0) x) (c.getD j 0)).last = if 0 < j then (((c.eraseIdx (j + 1)).getD (j - 1) 0 : Nat) : Int) else -1 := by
    rw [mg_last h hj x (by omega) (by omega) (by omega)]
    by_cases h0 : 0 < j
    · rw [if_pos h0, er_lt (by omega)]
      have := h.last (j - 1) (by omega)
      rw [show j - 1 + 1 = j by omega] at this
      exact this
    · rw [if_neg h0, show j = 0 by omega, h.first]; exact h.last0
  refine ⟨fun p' hp' => ?_, fun k hk r y hg => ?_⟩
  · rcases List.mem_append.mp (h2.mem_iff.mp hp') with h9 | h9
    · rw [length_mergeNd]
      exact hq.ok p' (hp.mem_iff.mpr (by simp [h9]))
    · rcases List.mem_append.mp h9 with h8 | h8
      · exact lookP_ok hc (Option.mem_toList.mp h8) ⟨j, by omega, by rw [hej]⟩
      · have h7 : lookP get (mergeNd nd (c.getD j 0) x) (ndAt (mergeNd nd (c.getD j 0) x) (c.getD j 0)).last = some p' := by simpa using h8
        rw [hlast] at h7
        by_cases h0 : 0 < j
        · rw [if_pos h0] at h7
          exact lookP_ok hc h7 ⟨j - 1, by omega, rfl⟩
        · rw [if_neg h0] at h7
          unfold lookP at h7
          rw [if_pos (by omega)] at h7
          cases h7
  · refine h2.mem_iff.mpr ?_
    by_cases e1 : k = j
    · subst e1
      refine List.mem_append.mpr (.inr (List.mem_append.mpr (.inl ?_)))
      have := lookP_at (get := get) hc (j := k) hk
      rw [hg, hej] at this
      rw [this, hej]
      simp
    · by_cases e2 : k + 1 = j
      · refine List.mem_append.mpr (.inr (List.mem_append.mpr (.inr ?_)))
        rw [hlast, if_pos (by omega), show j - 1 = k by omega]
        have := lookP_at (get := get) hc (j := k) hk
        rw [hg] at this
        rw [this]
        simp
      · refine List.mem_append.mpr (.inl ?_)
        have hold : ∃ m, m + 1 < c.length ∧ m ≠ j ∧ m + 1 ≠ j ∧ m ≠ j + 1 ∧ m + 1 ≠ j + 1 ∧ (c.eraseIdx (j + 1)).getD k 0 = c.getD m 0 ∧ (c.eraseIdx (j + 1)).getD (k + 1) 0 = c.getD (m + 1) 0 := by
          by_cases hk2 : k < j
          · exact ⟨k, by omega, e1, e2, by omega, by omega, er_lt (by omega), er_lt (by omega)⟩
          · exact ⟨k + 1, by omega, by omega, by omega, by omega, by omega, er_ge (by omega), er_ge (by omega)⟩
        obtain ⟨m, hm, hmj, hm1, hm2, hm3, em, em1⟩ := hold
        rw [em, em1, (a3 (by omega) hmj hm2).1, (a3 hm hm1 hm3).1] at hg ⊢
        have := hp.mem_iff.mp (hq.all m hm r y hg)
        rcases List.mem_cons.mp this with h9 | h9
        · exfalso
          apply hmj
          refine h.inj (by omega) (by omega) ?_
          have e9 : ((c.getD m 0 : Nat) : Int) = p.left := congrArg Pr.left h9
          rw [hl] at e9
          omega
        · exact h9
/-- how many nodes live -/
def liveN (nd : List Nd) : Nat := nd.countP fun v => decide (0 ≤ v.id)
end
/-! The beginning. -/
def ndInit (ids : List Int) : List Nd := (List.range ids.length).map fun i => ⟨ids.getD i 0, if i + 1 = ids.length then (-1 : Int) else ((i + 1 : Nat) : Int), (i : Int) - 1⟩
theorem ndInit_at {ids : List Int} {i : Nat} (h : i < ids.length) : ndAt (ndInit ids) i = ⟨ids.getD i 0, if i + 1 = ids.length then (-1 : Int) else ((i + 1 : Nat) : Int), (i : Int) - 1⟩ := by
  simp [ndAt, ndInit, h]
theorem chain_init {ids : List Int} (h0 : 0 < ids.length) (hp : ∀ j, j < ids.length → 0 ≤ ids.getD j 0) : Chain (ndInit ids) (List.range ids.length) ∧ idsC (ndInit ids) (List.range ids.length) = ids := by
  have hg : ∀ j, j < ids.length → (List.range ids.length).getD j 0 = j := fun j hj => by simp [hj]
  have hl : (ndInit ids).length = ids.length := by simp [ndInit]
  constructor
  · refine ⟨by simpa using h0, hg 0 h0, fun j hj => ?_, fun i j hij hj => ?_, fun j hj => ?_, fun j hj => ?_, fun j hj => ?_, ?_, fun j hj => ?_, fun i hi hd => ?_⟩
    · rw [List.length_range] at hj; rw [hg j hj, hl]; exact hj
    · rw [List.length_range] at hj; rw [hg j hj, hg i (by omega)]; exact hij
    · rw [List.length_range] at hj; rw [hg j (by omega), hg (j + 1) hj, ndInit_at (by omega), if_neg (by omega)]
    · rw [List.length_range] at hj; rw [hg j (by omega), ndInit_at (by omega), if_pos hj]
    · rw [List.length_range] at hj; rw [hg j (by omega), hg (j + 1) hj, ndInit_at hj]; show ((j + 1 : Nat) : Int) - 1 = _; omega
    · rw [ndInit_at h0]; rfl
    · rw [List.length_range] at hj; rw [hg j hj, ndInit_at hj]; exact hp j hj
    · rw [hl] at hi
      exact absurd (hg i hi) (hd i (by simpa using hi))
  · apply List.ext_getElem?
    intro k
    by_cases hk : k < ids.length
    · simp [idsC, hk, ndInit_at hk]
    · simp [idsC, hk]
end Go.Proofs.Ytfjgfabochiflaa.H14
/- A heap in a list, by a number that each element has: laws of its steps. Plain lists. -/
namespace Go.Proofs.Ytfjgfabochiflaa.H14

section
variable {α : Type} (key : α → Int) (d : α)
def kAt (xs : List α) (k : Nat) : Int := key (xs.getD k d)
def HeapG (xs : List α) : Prop := ∀ k, 0 < k → k < xs.length → kAt key d xs ((k - 1) / 2) ≤ kAt key d xs k
structure UpG (xs : List α) (i : Nat) : Prop where
  lt : i < xs.length
  rest : ∀ k, 0 < k → k < xs.length → k ≠ i → kAt key d xs ((k - 1) / 2) ≤ kAt key d xs k
  over : ∀ k, 0 < k → k < xs.length → (k - 1) / 2 = i → 0 < i → kAt key d xs ((i - 1) / 2) ≤ kAt key d xs k
structure DownG (xs : List α) (i : Nat) : Prop where
  rest : ∀ k, 0 < k → k < xs.length → (k - 1) / 2 ≠ i → kAt key d xs ((k - 1) / 2) ≤ kAt key d xs k
  over : ∀ k, 0 < k → k < xs.length → (k - 1) / 2 = i → 0 < i → kAt key d xs ((i - 1) / 2) ≤ kAt key d xs k
def swapG (xs : List α) (a b : Nat) : List α := (xs.set a (xs.getD b d)).set b (xs.getD a d)
def least1G (xs : List α) (m l : Nat) (k : Nat) : Nat := if k < m ∧ kAt key d xs k < kAt key d xs l then k else l
def leastG (xs : List α) (i : Nat) : Nat := least1G key d xs xs.length (least1G key d xs xs.length i (2 * i + 1)) (2 * i + 2)
end
section
variable {α : Type} {key : α → Int} {d : α}
theorem length_swapG (xs : List α) (a b : Nat) : (swapG d xs a b).length = xs.length := by simp [swapG]
theorem getD_setG (xs : List α) (a k : Nat) (v : α) (ha : a < xs.length) : (xs.set a v).getD k d = if k = a then v else xs.getD k d := by
  simp only [List.getD_eq_getElem?_getD, List.getElem?_set, ha, if_true]
  by_cases h : a = k
  · simp [h]
  · simp [h, show ¬ k = a from fun e => h e.symm]
theorem getD_swapG (xs : List α) (a b k : Nat) (ha : a < xs.length) (hb : b < xs.length) : (swapG d xs a b).getD k d = if k = b then xs.getD a d else if k = a then xs.getD b d else xs.getD k d := by
  rw [swapG, getD_setG _ _ _ _ (by simpa using hb), getD_setG _ _ _ _ ha]
theorem kAt_swap (xs : List α) (a b k : Nat) (ha : a < xs.length) (hb : b < xs.length) : kAt key d (swapG d xs a b) k = if k = b then kAt key d xs a else if k = a then kAt key d xs b else kAt key d xs k := by
  unfold kAt
  rw [getD_swapG xs a b k ha hb]
  split
  · rfl
  · split <;> rfl
theorem swapG_perm (xs : List α) (a b : Nat) (ha : a < xs.length) (hb : b < xs.length) : (swapG d xs a b).Perm xs := by
  have h := List.set_set_perm (as := xs) (i := a) (j := b) ha hb
  simpa [swapG, ha, hb] using h
theorem kAt_app (xs : List α) (x : α) (k : Nat) (h : k < xs.length) : kAt key d (xs ++ [x]) k = kAt key d xs k := by
  simp [kAt, List.getD_eq_getElem?_getD, List.getElem?_append_left h]
theorem UpG.new {xs : List α} (h : HeapG key d xs) (x : α) : UpG key d (xs ++ [x]) xs.length where
  lt := by simp
  rest k hk hl hne := by
    simp at hl
    rw [kAt_app xs x k (by omega), kAt_app xs x _ (by omega)]
    exact h k hk (by omega)
  over k hk hl he := by
    simp at hl
    omega
theorem UpG.swap {xs : List α} {i : Nat} (h : UpG key d xs i) (hi : 0 < i) (hgt : ¬ kAt key d xs ((i - 1) / 2) ≤ kAt key d xs i) : UpG key d (swapG d xs ((i - 1) / 2) i) ((i - 1) / 2) where
  lt := by rw [length_swapG]; have := h.lt; omega
  rest k hk hl hne := by
    have hlt := h.lt
    rw [length_swapG] at hl
    rw [kAt_swap _ _ _ _ (by omega) hlt, kAt_swap _ _ _ _ (by omega) hlt]
    by_cases h1 : k = i
    · subst h1
      have : ¬ (k - 1) / 2 = k := by omega
      simp only [this, if_true, if_false]
      omega
    · have h2 := h.rest k hk hl h1
      simp only [h1, hne, if_false]
      by_cases h3 : (k - 1) / 2 = i
      · simp only [h3, if_true]
        have := h.over k hk hl h3 hi
        omega
      · simp only [h3, if_false]
        by_cases h4 : (k - 1) / 2 = (i - 1) / 2
        · simp only [h4, if_true]
          rw [h4] at h2
          omega
        · simp only [h4, if_false]
          exact h2
  over k hk hl he hp := by
    have hlt := h.lt
    rw [length_swapG] at hl
    rw [kAt_swap _ _ _ _ (by omega) hlt, kAt_swap _ _ _ _ (by omega) hlt]
    have a1 : ¬ ((i - 1) / 2 - 1) / 2 = i := by omega
    have a2 : ¬ ((i - 1) / 2 - 1) / 2 = (i - 1) / 2 := by omega
    have h5 := h.rest ((i - 1) / 2) hp (by omega) (by omega)
    simp only [a1, a2, if_false]
    by_cases h1 : k = i
    · simp only [h1, if_true]
      exact h5
    · have h2 : ¬ k = (i - 1) / 2 := by omega
      simp only [h1, h2, if_false]
      have h3 := h.rest k hk hl h1
      rw [he] at h3
      omega
theorem UpG.stop {xs : List α} {i : Nat} (h : UpG key d xs i) (hi : i = 0 ∨ kAt key d xs ((i - 1) / 2) ≤ kAt key d xs i) : HeapG key d xs := fun k hk hl => by
  by_cases h1 : k = i
  · subst h1
    rcases hi with h2 | h2
    · omega
    · exact h2
  · exact h.rest k hk hl h1
theorem DownG.new {xs : List α} (h : HeapG key d xs) : DownG key d (((xs.set 0 (xs.getD (xs.length - 1) d)).take (xs.length - 1))) 0 where
  rest k hk hl hne := by
    simp at hl
    have h1 := h k hk (by omega)
    have e : ∀ j, 0 < j → j < xs.length - 1 → kAt key d ((xs.set 0 (xs.getD (xs.length - 1) d)).take (xs.length - 1)) j = kAt key d xs j := fun j h0 h1 => by
      simp only [kAt, List.getD_eq_getElem?_getD, List.getElem?_take, h1, if_true, List.getElem?_set, show ¬ 0 = j by omega, if_false]
    rw [e k hk (by omega), e ((k - 1) / 2) (by omega) (by omega)]
    exact h1
  over k hk hl he h0 := by omega
theorem takeG_perm {xs : List α} (h : 0 < xs.length) : xs.Perm (xs.getD 0 d :: (xs.set 0 (xs.getD (xs.length - 1) d)).take (xs.length - 1)) := by
  cases xs with
  | nil => simp at h
  | cons a t =>
    rcases List.eq_nil_or_concat t with rfl | ⟨t', z, rfl⟩
    · simp
    · simp
theorem leastG_spec (xs : List α) (i : Nat) : (leastG key d xs i = i ∨ (leastG key d xs i = 2 * i + 1 ∨ leastG key d xs i = 2 * i + 2) ∧ leastG key d xs i < xs.length ∧ kAt key d xs (leastG key d xs i) < kAt key d xs i) ∧
    kAt key d xs (leastG key d xs i) ≤ kAt key d xs i ∧
    (2 * i + 1 < xs.length → kAt key d xs (leastG key d xs i) ≤ kAt key d xs (2 * i + 1)) ∧ (2 * i + 2 < xs.length → kAt key d xs (leastG key d xs i) ≤ kAt key d xs (2 * i + 2)) := by
  unfold leastG least1G
  by_cases h1 : 2 * i + 1 < xs.length ∧ kAt key d xs (2 * i + 1) < kAt key d xs i
  · rw [if_pos h1]
    by_cases h2 : 2 * i + 2 < xs.length ∧ kAt key d xs (2 * i + 2) < kAt key d xs (2 * i + 1)
    · rw [if_pos h2]; exact ⟨.inr ⟨.inr rfl, h2.1, by omega⟩, by omega, fun _ => by omega, fun _ => by omega⟩
    · rw [if_neg h2]; exact ⟨.inr ⟨.inl rfl, h1.1, by omega⟩, by omega, fun _ => by omega, fun _ => by omega⟩
  · rw [if_neg h1]
    by_cases h2 : 2 * i + 2 < xs.length ∧ kAt key d xs (2 * i + 2) < kAt key d xs i
    · rw [if_pos h2]; exact ⟨.inr ⟨.inr rfl, h2.1, by omega⟩, by omega, fun _ => by omega, fun _ => by omega⟩
    · rw [if_neg h2]; exact ⟨.inl rfl, by omega, fun _ => by omega, fun _ => by omega⟩
theorem DownG.swap {xs : List α} {i : Nat} (h : DownG key d xs i) (hi : i < xs.length) (hne : leastG key d xs i ≠ i) : DownG key d (swapG d xs i (leastG key d xs i)) (leastG key d xs i) := by
  obtain ⟨h1, h2, h3, h4⟩ := leastG_spec (key := key) (d := d) xs i
  generalize leastG key d xs i = l at *
  rcases h1 with h1 | ⟨h1, hl, hlt⟩
  · exact absurd h1 hne
  refine ⟨fun k hk hkl hp => ?_, fun k hk hkl hp h0 => ?_⟩
  · rw [length_swapG] at hkl
    rw [kAt_swap _ _ _ _ hi hl, kAt_swap _ _ _ _ hi hl]
    simp only [hp, if_false]
    by_cases a : k = l
    · have b : (k - 1) / 2 = i := by omega
      simp only [a, if_true]
      rw [← a, b, if_pos rfl, a]
      omega
    · simp only [a, if_false]
      by_cases b : (k - 1) / 2 = i
      · rw [if_pos b]
        have c : ¬ k = i := by omega
        rw [if_neg c]
        have : k = 2 * i + 1 ∨ k = 2 * i + 2 := by omega
        rcases this with rfl | rfl
        · exact h3 hkl
        · exact h4 hkl
      · rw [if_neg b]
        by_cases c : k = i
        · rw [if_pos c]
          have := h.over l (by omega) hl (by omega) (by omega)
          rw [c]
          exact this
        · rw [if_neg c]
          exact h.rest k hk hkl b
  · rw [length_swapG] at hkl
    rw [kAt_swap _ _ _ _ hi hl, kAt_swap _ _ _ _ hi hl]
    have a : (l - 1) / 2 = i := by omega
    have b : ¬ k = l := by omega
    have c : ¬ k = i := by omega
    have e : ¬ i = l := by omega
    rw [a, if_neg e, if_pos rfl, if_neg b, if_neg c]
    have := h.rest k hk hkl (by omega)
    rw [hp] at this
    exact this
theorem DownG.stop {xs : List α} {i : Nat} (h : DownG key d xs i) (he : leastG key d xs i = i) : HeapG key d xs := fun k hk hl => by
  obtain ⟨_, _, h3, h4⟩ := leastG_spec (key := key) (d := d) xs i
  rw [he] at h3 h4
  by_cases a : (k - 1) / 2 = i
  · rw [a]
    have : k = 2 * i + 1 ∨ k = 2 * i + 2 := by omega
    rcases this with rfl | rfl
    · exact h3 hl
    · exact h4 hl
  · exact h.rest k hk hl a
theorem leastG_le (xs : List α) (i : Nat) (hi : i < xs.length) : leastG key d xs i < xs.length ∧ i ≤ leastG key d xs i := by
  obtain ⟨h1, _⟩ := leastG_spec (key := key) (d := d) xs i
  omega
theorem HeapG.min {xs : List α} (h : HeapG key d xs) : ∀ k, k < xs.length → kAt key d xs 0 ≤ kAt key d xs k
  | 0, _ => Int.le_refl _
  | k + 1, hk => by
    have h1 := h.min (k / 2) (by omega)
    have h2 := h (k + 1) (by omega) hk
    rw [show (k + 1 - 1) / 2 = k / 2 by omega] at h2
    exact Int.le_trans h1 h2
  termination_by k => k
theorem HeapG.min_mem {xs : List α} (h : HeapG key d xs) (x : α) (hx : x ∈ xs) : kAt key d xs 0 ≤ key x := by
  obtain ⟨k, hk, rfl⟩ := List.getElem_of_mem hx
  have := h.min k hk
  simpa [kAt, hk] using this
theorem HeapG.nil : HeapG key d [] := fun k _ h => by simp at h
/-- the least after so many of the two children -/
def LG (key : α → Int) (d : α) (ys : List α) (k : Nat) : Nat → Nat
  | 0 => k
  | 1 => least1G key d ys ys.length k (2 * k + 1)
  | _ => leastG key d ys k
theorem LG_lt (ys : List α) (k j : Nat) (hk : k < ys.length) : LG key d ys k j < ys.length := by
  have h1 : least1G key d ys ys.length k (2 * k + 1) < ys.length := by unfold least1G; split <;> omega
  match j with
  | 0 => exact hk
  | 1 => exact h1
  | _ + 2 => exact (leastG_le ys k hk).1
end
end Go.Proofs.Ytfjgfabochiflaa.H14
/- Merging by a queue over a linked list: what holds in its loops. Plain. -/
namespace Go.Proofs.Ytfjgfabochiflaa.H14

theorem live_count {nd : List Nd} {c : List Nat} (h : Chain nd c) : liveN nd = c.length := by
  have e1 : liveN nd = ((List.range nd.length).filter fun i => decide (0 ≤ (ndAt nd i).id)).length := by
    unfold liveN
    rw [← List.countP_eq_length_filter]
    have : nd = (List.range nd.length).map (ndAt nd) := by
      apply List.ext_getElem (by simp)
      intro i h1 h2
      simp [ndAt, h1]
    conv => lhs; rw [this]
    rw [List.countP_map]
    rfl
  have hnd : c.Nodup := by
    refine List.pairwise_iff_getElem.2 (fun i j hi hj hij e => ?_)
    have := h.inj hi hj (by simpa [hi, hj] using e)
    omega
  rw [e1]
  refine List.Perm.length_eq ((List.perm_ext_iff_of_nodup (List.Pairwise.filter _ List.nodup_range) hnd).2 (fun i => ?_))
  simp only [List.mem_filter, List.mem_range, decide_eq_true_eq]
  constructor
  · rintro ⟨h1, h2⟩
    obtain ⟨j, hj, rfl⟩ := h.live h1 h2
    simp [hj]
  · intro hi
    obtain ⟨j, hj, rfl⟩ := List.getElem_of_mem hi
    have h1 := h.lt j hj
    have h2 := h.id j hj
    rw [show c.getD j 0 = c[j] by simp [hj]] at h1 h2
    exact ⟨h1, h2⟩
/-- the queue while the first looks are taken -/
structure QTo (get : Int → Int → Option (Int × Int)) (ids : List Int) (q : List Pr) (k : Nat) : Prop where
  ok : ∀ p ∈ q, 0 ≤ p.left ∧ p.left.toNat < (ndInit ids).length ∧ 0 ≤ p.first ∧ 0 ≤ p.second ∧ get p.first p.second = some (p.rank, p.id)
  all : ∀ j, j < k → ∀ p, lookP get (ndInit ids) (j : Int) = some p → p ∈ q
  hp : HeapG prKey pr0 q
  len : q.length ≤ k
structure MQ (get : Int → Int → Option (Int × Int)) (signs : Int) (ids : List Int) (nd : List Nd) (c : List Nat) (q : List Pr) : Prop where
  ch : Chain nd c
  qi : QInv get nd c q
  hp : HeapG prKey pr0 q
  val : mergeF get signs (idsC nd c) = mergeF get signs ids
  len : nd.length = ids.length
  bnd : q.length + 2 * c.length ≤ 3 * ids.length
  hi : ∀ i, i < nd.length → (ndAt nd i).id < signs
section
variable {get : Int → Int → Option (Int × Int)} {signs : Int} {ids : List Int} {nd : List Nd} {c : List Nat} {q q' q2 : List Pr} {k : Nat}
theorem length_ndInit (ids : List Int) : (ndInit ids).length = ids.length := by simp [ndInit]
theorem QTo.start : QTo get ids [] 0 := ⟨fun p h => (by cases h), fun j h => (by omega), HeapG.nil, Nat.le_refl _⟩
theorem lookP_init (h0 : 0 < ids.length) (hpos : ∀ j, j < ids.length → 0 ≤ ids.getD j 0) (hk : k < ids.length) {p : Pr} (h : lookP get (ndInit ids) (k : Int) = some p) :
    0 ≤ p.left ∧ p.left.toNat < (ndInit ids).length ∧ 0 ≤ p.first ∧ 0 ≤ p.second ∧ get p.first p.second = some (p.rank, p.id) :=
  lookP_ok (chain_init h0 hpos).1 h ⟨k, by simpa using hk, by simp [hk]⟩
theorem QTo.next (h : QTo get ids q k) (h0 : 0 < ids.length) (hpos : ∀ j, j < ids.length → 0 ≤ ids.getD j 0) (hk : k < ids.length) (hp : q2.Perm (q ++ (lookP get (ndInit ids) (k : Int)).toList)) (hh : HeapG prKey pr0 q2) : QTo get ids q2 (k + 1) := by
  refine ⟨fun p hm => ?_, fun j hj p hl => ?_, hh, ?_⟩
  · rcases List.mem_append.mp (hp.mem_iff.mp hm) with h9 | h9
    · exact h.ok p h9
    · exact lookP_init h0 hpos hk (Option.mem_toList.mp h9)
  · refine hp.mem_iff.mpr (List.mem_append.mpr ?_)
    by_cases e : j = k
    · subst e
      exact .inr (Option.mem_toList.mpr hl)
    · exact .inl (h.all j (by omega) p hl)
  · have := hp.length_eq
    have h2 := h.len
    rw [List.length_append] at this
    have : (lookP get (ndInit ids) (k : Int)).toList.length ≤ 1 := by cases lookP get (ndInit ids) (k : Int) <;> simp
    omega
theorem QTo.all_in (h : QTo get ids q ids.length) (h0 : 0 < ids.length) (hpos : ∀ j, j < ids.length → 0 ≤ ids.getD j 0) (hlt : ∀ j, j < ids.length → ids.getD j 0 < signs) : MQ get signs ids (ndInit ids) (List.range ids.length) q := by
  obtain ⟨hc, hi⟩ := chain_init h0 hpos
  refine ⟨hc, ⟨h.ok, fun j hj r x hg => ?_⟩, h.hp, by rw [hi], length_ndInit ids, by have := h.len; simp; omega, fun i hi => ?_⟩
  · refine h.all j (by simp at hj; omega) _ ?_
    have := lookP_at (get := get) hc hj
    rw [hg] at this
    have e : (List.range ids.length).getD j 0 = j := by simp at hj ⊢; simp [show j < ids.length by omega]
    rw [e] at this ⊢
    exact this
  · rw [length_ndInit] at hi
    rw [ndInit_at hi]
    exact hlt i hi
theorem MQ.stale (h : MQ get signs ids nd c q) {p : Pr} (hp : q.Perm (p :: q')) (hh : HeapG prKey pr0 q') (hc : ¬ isCur nd p) : MQ get signs ids nd c q' := by
  refine ⟨h.ch, h.qi.drop h.ch hp hc, hh, h.val, h.len, ?_, h.hi⟩
  have := hp.length_eq
  have h2 := h.bnd
  simp at this
  omega
theorem MQ.top (h : MQ get signs ids nd c q) (hn : ids.length ≤ 4294967296) (h0 : 0 < q.length) (hc : isCur nd (q.getD 0 pr0)) :
    ∃ j, j + 1 < c.length ∧ (q.getD 0 pr0).left = (c.getD j 0 : Nat) ∧ (ndAt nd (c.getD j 0)).next = (c.getD (j + 1) 0 : Nat) ∧ bestOf get (idsC nd c) = some (j, (q.getD 0 pr0).rank, (q.getD 0 pr0).id) := by
  have hm : q.getD 0 pr0 ∈ q := by simp [h0]
  refine cur_best h.ch h.qi (by rw [h.len]; exact hn) hm hc (fun p' hp' => ?_)
  exact h.hp.min_mem p' hp'
theorem MQ.merge (h : MQ get signs ids nd c q) {p : Pr} (hp : q.Perm (p :: q')) {j : Nat} (hj : j + 1 < c.length) (hl : p.left = (c.getD j 0 : Nat)) (hb : bestOf get (idsC nd c) = some (j, p.rank, p.id)) (hx : 0 ≤ p.id) (hs : p.id < signs)
    (h2 : q2.Perm (q' ++ ((lookP get (mergeNd nd (c.getD j 0) p.id) (c.getD j 0 : Nat)).toList ++ (lookP get (mergeNd nd (c.getD j 0) p.id) (ndAt (mergeNd nd (c.getD j 0) p.id) (c.getD j 0)).last).toList))) (hh : HeapG prKey pr0 q2) :
    MQ get signs ids (mergeNd nd (c.getD j 0) p.id) (c.eraseIdx (j + 1)) q2 ∧ q2.length + 2 * (c.eraseIdx (j + 1)).length < q.length + 2 * c.length := by
  obtain ⟨hc, hi⟩ := h.ch.merge hj hx
  have hlen : (c.eraseIdx (j + 1)).length + 1 = c.length := by rw [List.length_eraseIdx]; split <;> omega
  have l1 := hp.length_eq
  have l2 := h2.length_eq
  have hle : ∀ o : Option Pr, o.toList.length ≤ 1 := fun o => by cases o <;> simp
  have l3 := hle (lookP get (mergeNd nd (c.getD j 0) p.id) (c.getD j 0 : Nat))
  have l4 := hle (lookP get (mergeNd nd (c.getD j 0) p.id) (ndAt (mergeNd nd (c.getD j 0) p.id) (c.getD j 0)).last)
  simp only [List.length_append, List.length_cons] at l1 l2
  have hb2 := h.bnd
  refine ⟨⟨hc, h.qi.merge h.ch hp hj hl hx h2, hh, ?_, by rw [length_mergeNd]; exact h.len, by omega, fun i hi => ?_⟩, by omega⟩
  · rw [hi, ← h.val, mergeF_some hb, if_neg (by omega)]
  · rw [length_mergeNd] at hi
    have := h.hi i hi
    rw [mergeNd_at h.ch hj]
    split
    · exact hs
    · split
      · have := h.hi _ (h.ch.lt (j + 1) hj)
        have := h.ch.id (j + 1) hj
        show (-1 : Int) < signs
        omega
      · split <;> exact this
theorem MQ.bad (h : MQ get signs ids nd c q) {p : Pr} {j : Nat} (hb : bestOf get (idsC nd c) = some (j, p.rank, p.id)) (hs : signs ≤ p.id) : mergeF get signs ids = none := by
  rw [← h.val, mergeF_some hb, if_pos hs]
theorem MQ.done (h : MQ get signs ids nd c []) : mergeF get signs ids = some (idsC nd c) := by
  rw [← h.val, mergeF_none (bestOf_empty h.qi)]
end
end Go.Proofs.Ytfjgfabochiflaa.H14
/- Texts that are rewritten by rules: the relation, and its laws. Plain lists of bytes. -/
namespace Go.Proofs.Ytfjgfabochiflaa.T12

abbrev Bs := List UInt8
abbrev Rule := Bs × Bs

/-- rules that may be: none is empty, each From stands once -/
structure Fit (l : List Rule) : Prop where
  some : ∀ r ∈ l, r.1 ≠ []
  once : ∀ r ∈ l, ∀ q ∈ l, r.1 = q.1 → r = q

/-- the rule that is taken at a text's beginning -/
structure Best (l : List Rule) (s : Bs) (r : Rule) : Prop where
  mem : r ∈ l
  here : r.1 <+: s
  most : ∀ q ∈ l, q.1 <+: s → q.1.length ≤ r.1.length

def None (l : List Rule) (s : Bs) : Prop := ∀ r ∈ l, ¬ r.1 <+: s

inductive Rew (l : List Rule) : Bs → Bs → Prop
  | nil : Rew l [] []
  | hit {s o : Bs} {r : Rule} : Best l s r → Rew l (s.drop r.1.length) o → Rew l s (r.2 ++ o)
  | miss {c : UInt8} {s o : Bs} : None l (c :: s) → Rew l s o → Rew l (c :: s) (c :: o)

theorem Best.eq {l : List Rule} {s : Bs} {r q : Rule} (hf : Fit l) (h : Best l s r) (k : Best l s q) : r = q := by
  refine hf.once r h.mem q k.mem ?_
  have h1 := h.most q k.mem k.here
  have h2 := k.most r h.mem h.here
  have h3 := List.prefix_iff_eq_take.mp h.here
  have h4 := List.prefix_iff_eq_take.mp k.here
  rw [h3, h4, show r.1.length = q.1.length by omega]

theorem Best.not_none {l : List Rule} {s : Bs} {r : Rule} (h : Best l s r) (k : None l s) : False := k r h.mem h.here
theorem Best.not_nil {l : List Rule} {r : Rule} (hf : Fit l) (h : Best l [] r) : False := hf.some r h.mem (List.prefix_nil.mp h.here)

theorem Rew.unique {l : List Rule} (hf : Fit l) {s o : Bs} (h : Rew l s o) : ∀ {o' : Bs}, Rew l s o' → o = o' := by
  induction h with
  | nil =>
    intro o' h'
    cases h' with
    | nil => rfl
    | hit hb _ => exact (hb.not_nil hf).elim
  | hit hb _ ih =>
    intro o' h'
    cases h' with
    | nil => exact (hb.not_nil hf).elim
    | hit hb' h2 =>
      cases hb.eq hf hb'
      rw [ih h2]
    | miss hn _ => exact (hb.not_none hn).elim
  | miss hn _ ih =>
    intro o' h'
    cases h' with
    | hit hb' _ => exact (hb'.not_none hn).elim
    | miss _ h2 => rw [ih h2]

/-- a best one, or none -/
theorem best_or_none (l : List Rule) (s : Bs) : (∃ r, Best l s r) ∨ None l s := by
  induction l with
  | nil => exact .inr fun r h => by cases h
  | cons a t ih =>
    by_cases ha : a.1 <+: s
    · rcases ih with ⟨r, hr⟩ | hn
      · by_cases hle : a.1.length ≤ r.1.length
        · exact .inl ⟨r, List.mem_cons_of_mem _ hr.mem, hr.here, fun q hq hp => by
            rcases List.mem_cons.mp hq with rfl | hq
            · exact hle
            · exact hr.most q hq hp⟩
        · exact .inl ⟨a, List.mem_cons_self, ha, fun q hq hp => by
            rcases List.mem_cons.mp hq with rfl | hq
            · exact Nat.le_refl _
            · have := hr.most q hq hp; omega⟩
      · exact .inl ⟨a, List.mem_cons_self, ha, fun q hq hp => by
          rcases List.mem_cons.mp hq with rfl | hq
          · exact Nat.le_refl _
          · exact (hn q hq hp).elim⟩
    · rcases ih with ⟨r, hr⟩ | hn
      · exact .inl ⟨r, List.mem_cons_of_mem _ hr.mem, hr.here, fun q hq hp => by
          rcases List.mem_cons.mp hq with rfl | hq
          · exact (ha hp).elim
          · exact hr.most q hq hp⟩
      · exact .inr fun q hq hp => by
          rcases List.mem_cons.mp hq with rfl | hq
          · exact ha hp
          · exact hn q hq hp

theorem Rew.total {l : List Rule} (hf : Fit l) : ∀ (n : Nat) (s : Bs), s.length ≤ n → ∃ o, Rew l s o
  | _, [], _ => ⟨[], .nil⟩
  | 0, c :: s, h => by simp at h
  | n + 1, c :: s, h => by
    simp only [List.length_cons] at h
    rcases best_or_none l (c :: s) with ⟨r, hr⟩ | hn
    · have h0 : 0 < r.1.length := List.length_pos_iff.mpr (hf.some r hr.mem)
      obtain ⟨o, ho⟩ := Rew.total hf n ((c :: s).drop r.1.length) (by simp; omega)
      exact ⟨_, .hit hr ho⟩
    · obtain ⟨o, ho⟩ := Rew.total hf n s (by omega)
      exact ⟨_, .miss hn ho⟩

/-- only which rules there are counts -/
theorem Rew.mono {l k : List Rule} {s o : Bs} (h : Rew l s o) (hlk : ∀ r, r ∈ l ↔ r ∈ k) : Rew k s o := by
  induction h with
  | nil => exact .nil
  | hit hb _ ih => exact .hit ⟨(hlk _).mp hb.mem, hb.here, fun q hq hp => hb.most q ((hlk q).mpr hq) hp⟩ ih
  | miss hn _ ih => exact .miss (fun q hq hp => hn q ((hlk q).mpr hq) hp) ih

/-- a text stands in another one -/
def Stands (f s : Bs) : Prop := f <:+: s

/-- a rule more, whose From does not stand in the text, changes nothing -/
theorem Rew.more {l : List Rule} {s o : Bs} (h : Rew l s o) {f t : Bs} (hn : ¬ Stands f s) : Rew (l ++ [(f, t)]) s o := by
  induction h with
  | nil => exact .nil
  | hit hb _ ih =>
    refine .hit ⟨List.mem_append_left _ hb.mem, hb.here, fun q hq hp => ?_⟩ (ih fun hs => hn (hs.trans (List.drop_suffix _ _).isInfix))
    rcases List.mem_append.mp hq with hq | hq
    · exact hb.most q hq hp
    · simp at hq
      subst hq
      exact (hn hp.isInfix).elim
  | miss hm _ ih =>
    refine .miss (fun q hq hp => ?_) (ih fun hs => hn (hs.trans (List.suffix_cons _ _).isInfix))
    rcases List.mem_append.mp hq with hq | hq
    · exact hm q hq hp
    · simp at hq
      subst hq
      exact hn hp.isInfix

/-- where no rule's From stands, but that of rules that change nothing, the text stays -/
theorem Rew.same {l : List Rule} {s o : Bs} (h : Rew l s o) (hs : ∀ r ∈ l, Stands r.1 s → r.2 = r.1) : o = s := by
  induction h with
  | nil => rfl
  | @hit s o r hb _ ih =>
    have h1 := ih fun q hq hp => hs q hq (hp.trans (List.drop_suffix _ _).isInfix)
    rw [h1, hs r hb.mem hb.here.isInfix]
    obtain ⟨t, ht⟩ := hb.here
    rw [← ht]
    simp
  | miss _ _ ih => rw [ih fun q hq hp => hs q hq (hp.trans (List.suffix_cons _ _).isInfix)]

/-- how many bytes a byte may become -/
theorem Rew.grows {l : List Rule} {s o : Bs} (h : Rew l s o) (g : Nat) (h1 : 1 ≤ g) (hg : ∀ r ∈ l, r.2.length ≤ g * r.1.length) : o.length ≤ g * s.length := by
  induction h with
  | nil => simp
  | @hit s o r hb _ ih =>
    have h2 := hg r hb.mem
    have h3 := hb.here.length_le
    simp only [List.length_append, List.length_drop] at ih ⊢
    have : g * s.length = g * r.1.length + g * (s.length - r.1.length) := by rw [← Nat.mul_add]; congr 1; omega
    omega
  | miss _ _ ih =>
    simp only [List.length_cons, Nat.mul_add]
    omega

/-- no From goes on where the text ends -/
def Shut (l : List Rule) (a : Bs) : Prop := ∀ t, t ≠ [] → t <:+ a → ∀ r ∈ l, ¬ t <+: r.1
theorem Rew.behind {l : List Rule} (hf : Fit l) {a x : Bs} (h : Rew l a x) {b y : Bs} (hb : Rew l b y) (hs : Shut l a) : Rew l (a ++ b) (x ++ y) := by
  induction h with
  | nil => simpa using hb
  | @hit a o r hr _ ih =>
    have h1 := ih fun t h0 ht => hs t h0 (ht.trans (List.drop_suffix _ _))
    rw [List.append_assoc]
    have hl := hr.here.length_le
    by_cases ha : a = []
    · subst ha; exact (hr.not_nil hf).elim
    · refine .hit ⟨hr.mem, hr.here.trans (List.prefix_append _ _), fun q hq hp => ?_⟩ (by rw [List.drop_append_of_le_length hl]; exact h1)
      rcases List.prefix_or_prefix_of_prefix hp (List.prefix_append a b) with h2 | h2
      · exact hr.most q hq h2
      · exact (hs a ha List.suffix_rfl q hq h2).elim
  | @miss c s o hn _ ih =>
    refine .miss (fun q hq hp => ?_) (ih fun t h0 ht => hs t h0 (ht.trans (List.suffix_cons _ _)))
    rcases List.prefix_or_prefix_of_prefix hp (List.prefix_append (c :: s) b) with h2 | h2
    · exact hn q hq h2
    · exact hs (c :: s) (by simp) List.suffix_rfl q hq h2

/-- a walk over the text: what was put so far, and what is still to be rewritten -/
def Sofar (l : List Rule) (s out rest : Bs) : Prop := ∀ o, Rew l rest o → Rew l s (out ++ o)
theorem Sofar.new (l : List Rule) (s : Bs) : Sofar l s [] s := fun _ h => h
theorem Sofar.hit {l : List Rule} {s out rest : Bs} {r : Rule} (h : Sofar l s out rest) (hb : Best l rest r) : Sofar l s (out ++ r.2) (rest.drop r.1.length) := fun o ho => by
  rw [List.append_assoc]
  exact h _ (.hit hb ho)
theorem Sofar.miss {l : List Rule} {s out rest : Bs} {c : UInt8} (h : Sofar l s out (c :: rest)) (hn : None l (c :: rest)) : Sofar l s (out ++ [c]) rest := fun o ho => by
  rw [List.append_assoc]
  exact h _ (.miss hn ho)
theorem Sofar.done {l : List Rule} {s out : Bs} (h : Sofar l s out []) : Rew l s out := by simpa using h [] .nil
end Go.Proofs.Ytfjgfabochiflaa.T12
