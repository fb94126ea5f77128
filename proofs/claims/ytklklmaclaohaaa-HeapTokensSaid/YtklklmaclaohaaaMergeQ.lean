/- Merging two side by side, the least rank first: by definition, and by a queue over a linked list. Plain. -/
import Derived.Lib.Hide
namespace Go.Proofs.Ytklklmaclaohaaa

/-! By definition. -/
section
variable (get : Int → Int → Option (Int × Int)) (signs : Int)
/-- which of the first k pairs comes first: its place, rank and what it becomes -/
def bestTo (l : List Int) : Nat → Option (Nat × Int × Int)
  | 0 => none
  | k + 1 => match get (l.getD k 0) (l.getD (k + 1) 0), bestTo l k with
    | none, b => b
    | some (r, x), none => some (k, r, x)
    | some (r, x), some (a, r', x') => if r < r' then some (k, r, x) else some (a, r', x')
def bestOf (l : List Int) : Option (Nat × Int × Int) := bestTo get l (l.length - 1)
def mergeAt (l : List Int) (a : Nat) (x : Int) : List Int := l.take a ++ x :: l.drop (a + 2)
def mergeN : Nat → List Int → Option (List Int)
  | 0, l => some l
  | n + 1, l => match bestOf get l with
    | none => some l
    | some (a, _, x) => if signs ≤ x then none else mergeN n (mergeAt l a x)
def mergeF (l : List Int) : Option (List Int) := mergeN get signs l.length l
end
section
variable {get : Int → Int → Option (Int × Int)} {signs : Int}
theorem bestTo_spec (l : List Int) : ∀ k, match bestTo get l k with
    | none => ∀ j, j < k → get (l.getD j 0) (l.getD (j + 1) 0) = none
    | some (a, r, x) => a < k ∧ get (l.getD a 0) (l.getD (a + 1) 0) = some (r, x) ∧ ∀ j r' x', j < k → get (l.getD j 0) (l.getD (j + 1) 0) = some (r', x') → r ≤ r' ∧ (j < a → r < r') := fun k => by
  induction k with
  | zero => exact fun j hj => by omega
  | succ k ih =>
    unfold bestTo
    cases hg : get (l.getD k 0) (l.getD (k + 1) 0) with
    | none =>
      cases hb : bestTo get l k with
      | none =>
        simp only [hb] at ih ⊢
        intro j hj
        rcases (by omega : j < k ∨ j = k) with h | rfl
        · exact ih j h
        · exact hg
      | some b =>
        obtain ⟨a, r, x⟩ := b
        simp only [hb] at ih ⊢
        obtain ⟨h1, h2, h3⟩ := ih
        refine ⟨by omega, h2, fun j r' x' hj h => ?_⟩
        rcases (by omega : j < k ∨ j = k) with h9 | rfl
        · exact h3 j r' x' h9 h
        · rw [hg] at h; cases h
    | some v =>
      obtain ⟨r, x⟩ := v
      cases hb : bestTo get l k with
      | none =>
        simp only [hb] at ih ⊢
        refine ⟨by omega, hg, fun j r' x' hj h => ?_⟩
        rcases (by omega : j < k ∨ j = k) with h9 | rfl
        · rw [ih j h9] at h; cases h
        · rw [hg] at h; cases h; omega
      | some b =>
        obtain ⟨a, r', x'⟩ := b
        simp only [hb] at ih ⊢
        obtain ⟨h1, h2, h3⟩ := ih
        by_cases hlt : r < r'
        · rw [if_pos hlt]
          refine ⟨by omega, hg, fun j r2 x2 hj h => ?_⟩
          rcases (by omega : j < k ∨ j = k) with h9 | rfl
          · have := h3 j r2 x2 h9 h; omega
          · rw [hg] at h; cases h; omega
        · rw [if_neg hlt]
          refine ⟨by omega, h2, fun j r2 x2 hj h => ?_⟩
          rcases (by omega : j < k ∨ j = k) with h9 | rfl
          · exact h3 j r2 x2 h9 h
          · rw [hg] at h; cases h; omega
theorem bestOf_none {l : List Int} (h : ∀ j, j + 1 < l.length → get (l.getD j 0) (l.getD (j + 1) 0) = none) : bestOf get l = none := by
  have := bestTo_spec (get := get) l (l.length - 1)
  unfold bestOf
  cases hb : bestTo get l (l.length - 1) with
  | none => rfl
  | some b =>
    obtain ⟨a, r, x⟩ := b
    rw [hb] at this
    obtain ⟨h1, h2, _⟩ := this
    rw [h a (by omega)] at h2
    cases h2
theorem bestOf_some {l : List Int} {a : Nat} {r x : Int} (h1 : a + 1 < l.length) (h2 : get (l.getD a 0) (l.getD (a + 1) 0) = some (r, x)) (h3 : ∀ j r' x', j + 1 < l.length → get (l.getD j 0) (l.getD (j + 1) 0) = some (r', x') → r ≤ r' ∧ (j < a → r < r')) : bestOf get l = some (a, r, x) := by
  have := bestTo_spec (get := get) l (l.length - 1)
  unfold bestOf
  cases hb : bestTo get l (l.length - 1) with
  | none =>
    rw [hb] at this
    rw [this a (by omega)] at h2
    cases h2
  | some b =>
    obtain ⟨a', r', x'⟩ := b
    rw [hb] at this
    obtain ⟨g1, g2, g3⟩ := this
    have c1 := g3 a r x (by omega) h2
    have c2 := h3 a' r' x' (by omega) g2
    have : a = a' := by
      rcases Nat.lt_trichotomy a a' with h | h | h
      · have := c1.2 h; omega
      · exact h
      · have := c2.2 h; omega
    subst this
    rw [h2] at g2
    cases g2
    rfl
theorem bestOf_at {l : List Int} {a : Nat} {r x : Int} (h : bestOf get l = some (a, r, x)) : a + 1 < l.length ∧ get (l.getD a 0) (l.getD (a + 1) 0) = some (r, x) := by
  have := bestTo_spec (get := get) l (l.length - 1)
  unfold bestOf at h
  rw [h] at this
  exact ⟨by have := this.1; omega, this.2.1⟩
theorem length_mergeAt {l : List Int} {a : Nat} {x : Int} (h : a + 1 < l.length) : (mergeAt l a x).length + 1 = l.length := by
  unfold mergeAt
  simp
  omega
theorem mergeF_none {l : List Int} (h : bestOf get l = none) : mergeF get signs l = some l := by
  unfold mergeF
  cases hl : l.length with
  | zero => rfl
  | succ n => unfold mergeN; rw [h]
theorem mergeF_some {l : List Int} {a : Nat} {r x : Int} (h : bestOf get l = some (a, r, x)) : mergeF get signs l = if signs ≤ x then none else mergeF get signs (mergeAt l a x) := by
  have h1 := (bestOf_at h).1
  have h2 := length_mergeAt (x := x) h1
  unfold mergeF
  rw [show l.length = (mergeAt l a x).length + 1 by omega]
  show mergeN get signs ((mergeAt l a x).length + 1) l = _
  conv => lhs; unfold mergeN
  rw [h]
end

/-! The linked list. -/
structure Nd where
  id : Int
  next : Int
  last : Int
structure Pr where
  rank : Int
  left : Int
  first : Int
  second : Int
  id : Int
def nd0 : Nd := ⟨0, 0, 0⟩
def pr0 : Pr := ⟨0, 0, 0, 0, 0⟩
def ndAt (nd : List Nd) (i : Nat) : Nd := nd.getD i nd0
theorem ndAt_set {nd : List Nd} {i : Nat} (hi : i < nd.length) (v : Nd) (k : Nat) : ndAt (nd.set i v) k = if k = i then v else ndAt nd k := by
  unfold ndAt
  simp only [List.getD_eq_getElem?_getD, List.getElem?_set, hi, if_true]
  by_cases h : i = k
  · simp [h]
  · simp [h, show ¬ k = i from fun e => h e.symm]
theorem ndAt_set2 {nd : List Nd} {i g : Nat} {v u : Nd} (hg : g < nd.length) (k : Nat) : ndAt ((nd.set i v).set g u) k = if k = g then u else ndAt (nd.set i v) k := ndAt_set (by simpa using hg) u k
theorem ndAt_set3 {nd : List Nd} {i g m : Nat} {v u t : Nd} (hm : m < nd.length) (k : Nat) : ndAt (((nd.set i v).set g u).set m t) k = if k = m then t else ndAt ((nd.set i v).set g u) k := ndAt_set (by simpa using hm) t k
structure Chain (nd : List Nd) (c : List Nat) : Prop where
  pos : 0 < c.length
  first : c.getD 0 0 = 0
  lt : ∀ j, j < c.length → c.getD j 0 < nd.length
  mono : ∀ i j, i < j → j < c.length → c.getD i 0 < c.getD j 0
  next : ∀ j, j + 1 < c.length → (ndAt nd (c.getD j 0)).next = (c.getD (j + 1) 0 : Nat)
  nextEnd : ∀ j, j + 1 = c.length → (ndAt nd (c.getD j 0)).next = -1
  last : ∀ j, j + 1 < c.length → (ndAt nd (c.getD (j + 1) 0)).last = (c.getD j 0 : Nat)
  last0 : (ndAt nd 0).last = -1
  id : ∀ j, j < c.length → 0 ≤ (ndAt nd (c.getD j 0)).id
  dead : ∀ i, i < nd.length → (∀ j, j < c.length → c.getD j 0 ≠ i) → (ndAt nd i).id = -1
def idsC (nd : List Nd) (c : List Nat) : List Int := c.map fun i => (ndAt nd i).id
theorem idsC_getD {nd : List Nd} {c : List Nat} {j : Nat} (h : j < c.length) : (idsC nd c).getD j 0 = (ndAt nd (c.getD j 0)).id := by
  simp [idsC, h]
theorem length_idsC (nd : List Nd) (c : List Nat) : (idsC nd c).length = c.length := by simp [idsC]
section
variable {nd : List Nd} {c : List Nat}
theorem Chain.inj (h : Chain nd c) {i j : Nat} (hi : i < c.length) (hj : j < c.length) (he : c.getD i 0 = c.getD j 0) : i = j := by
  rcases Nat.lt_trichotomy i j with h1 | h1 | h1
  · have := h.mono i j h1 hj; omega
  · exact h1
  · have := h.mono j i h1 hi; omega
theorem Chain.le (h : Chain nd c) {i j : Nat} (hi : i < c.length) (he : c.getD i 0 ≤ c.getD j 0) : i ≤ j := by
  rcases Nat.lt_or_ge j i with h1 | h1
  · have := h.mono j i h1 hi; omega
  · exact h1
/-- a node that lives stands in the chain -/
theorem Chain.live (h : Chain nd c) {i : Nat} (hi : i < nd.length) (hid : 0 ≤ (ndAt nd i).id) : ∃ j, j < c.length ∧ c.getD j 0 = i := by
  apply Classical.byContradiction
  intro h9
  have := h.dead i hi (fun j hj e => h9 ⟨j, hj, e⟩)
  omega
end
/-- the pair at a place, if there is one -/
def lookP (get : Int → Int → Option (Int × Int)) (nd : List Nd) (i : Int) : Option Pr :=
  if i < 0 ∨ (ndAt nd i.toNat).next < 0 then none
  else
    let a := (ndAt nd i.toNat).id
    let b := (ndAt nd (ndAt nd i.toNat).next.toNat).id
    (get a b).map fun v => ⟨v.1, i, a, b, v.2⟩
structure QInv (get : Int → Int → Option (Int × Int)) (nd : List Nd) (c : List Nat) (q : List Pr) : Prop where
  ok : ∀ p ∈ q, 0 ≤ p.left ∧ p.left.toNat < nd.length ∧ 0 ≤ p.first ∧ 0 ≤ p.second ∧ get p.first p.second = some (p.rank, p.id)
  all : ∀ j, j + 1 < c.length → ∀ r x, get (ndAt nd (c.getD j 0)).id (ndAt nd (c.getD (j + 1) 0)).id = some (r, x) → (⟨r, (c.getD j 0 : Nat), (ndAt nd (c.getD j 0)).id, (ndAt nd (c.getD (j + 1) 0)).id, x⟩ : Pr) ∈ q
def prKey (p : Pr) : Int := p.rank * 4294967296 + p.left
/-- is a pair still there? -/
def isCur (nd : List Nd) (p : Pr) : Prop := (ndAt nd p.left.toNat).id = p.first ∧ 0 ≤ (ndAt nd p.left.toNat).next ∧ (ndAt nd (ndAt nd p.left.toNat).next.toNat).id = p.second
/-- the list behind a merge -/
def mergeNd (nd : List Nd) (i : Nat) (x : Int) : List Nd :=
  let g := (ndAt nd i).next.toNat
  let nx := (ndAt nd g).next
  let nd1 := nd.set i ⟨x, nx, (ndAt nd i).last⟩
  let nd2 := nd1.set g ⟨-1, (ndAt nd1 g).next, (ndAt nd1 g).last⟩
  if 0 ≤ nx then nd2.set nx.toNat ⟨(ndAt nd2 nx.toNat).id, (ndAt nd2 nx.toNat).next, (i : Int)⟩ else nd2
section
variable {get : Int → Int → Option (Int × Int)} {nd : List Nd} {c : List Nat} {q : List Pr}
theorem cur_place (h : Chain nd c) (hq : QInv get nd c q) {p : Pr} (hp : p ∈ q) (hc : isCur nd p) : ∃ j, j + 1 < c.length ∧ p.left = (c.getD j 0 : Nat) ∧ (ndAt nd (c.getD j 0)).id = p.first ∧ (ndAt nd (c.getD (j + 1) 0)).id = p.second ∧ (ndAt nd (c.getD j 0)).next = (c.getD (j + 1) 0 : Nat) := by
  obtain ⟨o1, o2, o3, o4, o5⟩ := hq.ok p hp
  obtain ⟨c1, c2, c3⟩ := hc
  obtain ⟨j, hj, hje⟩ := h.live o2 (by omega)
  have hj1 : j + 1 < c.length := by
    apply Classical.byContradiction
    intro h9
    have := h.nextEnd j (by omega)
    rw [hje] at this
    omega
  have hn := h.next j hj1
  refine ⟨j, hj1, by omega, by rw [hje]; exact c1, ?_, hn⟩
  rw [hje] at hn
  rw [hn] at c3
  exact c3
theorem QInv.drop (h : Chain nd c) (hq : QInv get nd c q) {p : Pr} {q' : List Pr} (hp : q.Perm (p :: q')) (hc : ¬ isCur nd p) : QInv get nd c q' := by
  refine ⟨fun p' hp' => hq.ok p' (hp.mem_iff.mpr (by simp [hp'])), fun j hj r x hg => ?_⟩
  have := hp.mem_iff.mp (hq.all j hj r x hg)
  rcases List.mem_cons.mp this with h9 | h9
  · exfalso
    apply hc
    subst h9
    have hn := h.next j hj
    refine ⟨rfl, ?_, ?_⟩
    · show 0 ≤ (ndAt nd (c.getD j 0)).next
      omega
    · show (ndAt nd (ndAt nd (c.getD j 0)).next.toNat).id = _
      rw [hn]; rfl
  · exact h9
/-- the least of the queue, if it is still there, is the one that comes first -/
theorem cur_best (h : Chain nd c) (hq : QInv get nd c q) (hn : nd.length ≤ 4294967296) {p : Pr} (hp : p ∈ q) (hc : isCur nd p) (hmin : ∀ p' ∈ q, prKey p ≤ prKey p') :
    ∃ j, j + 1 < c.length ∧ p.left = (c.getD j 0 : Nat) ∧ (ndAt nd (c.getD j 0)).next = (c.getD (j + 1) 0 : Nat) ∧ bestOf get (idsC nd c) = some (j, p.rank, p.id) := by
  obtain ⟨j, hj, hl, h1, h2, h3⟩ := cur_place h hq hp hc
  refine ⟨j, hj, hl, h3, bestOf_some (by rw [length_idsC]; exact hj) ?_ (fun i r' x' hi hg => ?_)⟩
  · rw [idsC_getD (by omega), idsC_getD hj, h1, h2]
    exact (hq.ok p hp).2.2.2.2
  · rw [length_idsC] at hi
    rw [idsC_getD (by omega), idsC_getD hi] at hg
    have hm := hmin _ (hq.all i hi r' x' hg)
    have l1 := h.lt j (by omega)
    have l2 := h.lt i (by omega)
    simp only [prKey, hl] at hm
    refine ⟨by omega, fun hij => ?_⟩
    have := h.mono i j hij (by omega)
    omega
theorem bestOf_empty (hq : QInv get nd c []) : bestOf get (idsC nd c) = none := by
  refine bestOf_none (fun j hj => ?_)
  rw [length_idsC] at hj
  rw [idsC_getD (by omega), idsC_getD hj]
  cases hg : get (ndAt nd (c.getD j 0)).id (ndAt nd (c.getD (j + 1) 0)).id with
  | none => rfl
  | some v =>
    have := hq.all j hj v.1 v.2 hg
    cases this
theorem er_lt {c : List Nat} {k j : Nat} (h : j < k) : (c.eraseIdx k).getD j 0 = c.getD j 0 := by
  simp only [List.getD_eq_getElem?_getD, List.getElem?_eraseIdx, h, if_true]
theorem er_ge {c : List Nat} {k j : Nat} (h : k ≤ j) : (c.eraseIdx k).getD j 0 = c.getD (j + 1) 0 := by
  simp only [List.getD_eq_getElem?_getD, List.getElem?_eraseIdx, show ¬ j < k by omega, if_false]
theorem length_mergeNd (nd : List Nd) (i : Nat) (x : Int) : (mergeNd nd i x).length = nd.length := by
  unfold mergeNd
  simp only
  split <;> simp
/-- the nodes behind a merge, one by one -/
theorem mergeNd_at (h : Chain nd c) {j : Nat} (hj : j + 1 < c.length) (x : Int) (k : Nat) :
    ndAt (mergeNd nd (c.getD j 0) x) k = if k = c.getD j 0 then ⟨x, (ndAt nd (c.getD (j + 1) 0)).next, (ndAt nd k).last⟩ else if k = c.getD (j + 1) 0 then ⟨-1, (ndAt nd k).next, (ndAt nd k).last⟩
      else if j + 2 < c.length ∧ k = c.getD (j + 2) 0 then ⟨(ndAt nd k).id, (ndAt nd k).next, (c.getD j 0 : Nat)⟩ else ndAt nd k := by
  have hlt := h.mono j (j + 1) (by omega) hj
  have l1 := h.lt j (by omega)
  have l2 := h.lt (j + 1) hj
  have hn1 := h.next j hj
  generalize hg0 : c.getD j 0 = g0 at *
  generalize hg1 : c.getD (j + 1) 0 = g1 at *
  have n1 : ¬ g1 = g0 := by omega
  have n2 : ¬ g0 = g1 := by omega
  unfold mergeNd
  simp only [hn1, Int.toNat_natCast]
  by_cases h2 : j + 2 < c.length
  · have hn := h.next (j + 1) h2
    have l3 := h.lt (j + 2) h2
    have hlt2 := h.mono (j + 1) (j + 2) (by omega) h2
    rw [show j + 1 + 1 = j + 2 from rfl] at hn
    generalize hg2 : c.getD (j + 2) 0 = g2 at *
    rw [hg1] at hn hlt2
    have n3 : ¬ g2 = g0 := by omega
    have n4 : ¬ g2 = g1 := by omega
    have n5 : ¬ g0 = g2 := by omega
    have n6 : ¬ g1 = g2 := by omega
    simp only [hn, Int.toNat_natCast, show (0 : Int) ≤ (g2 : Int) by omega, if_true]
    simp only [ndAt_set3 l3, ndAt_set2 l2, ndAt_set l1, if_neg n1, if_neg n3, if_neg n4]
    by_cases e1 : k = g2
    · subst e1; simp [n3, n4, h2]
    · by_cases e2 : k = g1
      · subst e2; simp [n1, n6]
      · by_cases e3 : k = g0
        · subst e3; simp [n2, n5]
        · simp [e1, e2, e3]
  · have hn := h.nextEnd (j + 1) (by omega)
    rw [hg1] at hn
    simp only [hn, show ¬ (0 : Int) ≤ -1 by omega, if_false]
    simp only [ndAt_set2 l2, ndAt_set l1, if_neg n1]
    by_cases e2 : k = g1
    · subst e2; simp [n1, hn]
    · by_cases e3 : k = g0
      · subst e3; simp [n2]
      · simp [e2, e3, h2]
section
variable (h : Chain nd c) {j : Nat} (hj : j + 1 < c.length) (x : Int)
include h hj
theorem mg_at : ndAt (mergeNd nd (c.getD j 0) x) (c.getD j 0) = ⟨x, (ndAt nd (c.getD (j + 1) 0)).next, (ndAt nd (c.getD j 0)).last⟩ := by
  rw [mergeNd_at h hj, if_pos rfl]
theorem mg_gone : (ndAt (mergeNd nd (c.getD j 0) x) (c.getD (j + 1) 0)).id = -1 := by
  have := h.mono j (j + 1) (by omega) hj
  rw [mergeNd_at h hj, if_neg (by omega), if_pos rfl]
theorem mg_other {m : Nat} (hm : m < c.length) (h1 : m ≠ j) (h2 : m ≠ j + 1) : (ndAt (mergeNd nd (c.getD j 0) x) (c.getD m 0)).id = (ndAt nd (c.getD m 0)).id ∧ (ndAt (mergeNd nd (c.getD j 0) x) (c.getD m 0)).next = (ndAt nd (c.getD m 0)).next := by
  rw [mergeNd_at h hj, if_neg (fun e => h1 (h.inj hm (by omega) e)), if_neg (fun e => h2 (h.inj hm hj e))]
  split <;> exact ⟨rfl, rfl⟩
theorem mg_last {m : Nat} (hm : m < c.length) (h2 : m ≠ j + 1) (h3 : m ≠ j + 2) : (ndAt (mergeNd nd (c.getD j 0) x) (c.getD m 0)).last = (ndAt nd (c.getD m 0)).last := by
  rw [mergeNd_at h hj]
  split
  · rfl
  · rw [if_neg (fun e => h2 (h.inj hm hj e)), if_neg (fun e => h3 (h.inj hm e.1 e.2))]
theorem mg_last2 (h2 : j + 2 < c.length) : (ndAt (mergeNd nd (c.getD j 0) x) (c.getD (j + 2) 0)).last = (c.getD j 0 : Nat) := by
  rw [mergeNd_at h hj, if_neg (fun e => by have := h.inj h2 (by omega) e; omega), if_neg (fun e => by have := h.inj h2 hj e; omega), if_pos ⟨h2, rfl⟩]
theorem mg_out {i : Nat} (hd : ∀ k, k < c.length → c.getD k 0 ≠ i) : ndAt (mergeNd nd (c.getD j 0) x) i = ndAt nd i := by
  rw [mergeNd_at h hj, if_neg (fun e => hd j (by omega) e.symm), if_neg (fun e => hd (j + 1) hj e.symm), if_neg (fun e => hd (j + 2) e.1 e.2.symm)]
end
theorem Chain.merge (h : Chain nd c) {j : Nat} (hj : j + 1 < c.length) {x : Int} (hx : 0 ≤ x) : Chain (mergeNd nd (c.getD j 0) x) (c.eraseIdx (j + 1)) ∧ idsC (mergeNd nd (c.getD j 0) x) (c.eraseIdx (j + 1)) = mergeAt (idsC nd c) j x := by
  have hlen : (c.eraseIdx (j + 1)).length + 1 = c.length := by rw [List.length_eraseIdx]; split <;> omega
  have a1 := mg_at h hj x
  have a2 := mg_gone h hj x
  have a3 := fun {m : Nat} => mg_other h hj x (m := m)
  have a4 := fun {m : Nat} => mg_last h hj x (m := m)
  have a5 := mg_last2 h hj x
  have a6 := fun {i : Nat} => mg_out h hj x (i := i)
  constructor
  · refine ⟨by omega, ?_, fun k hk => ?_, fun a b hab hb => ?_, fun k hk => ?_, fun k hk => ?_, fun k hk => ?_, ?_, fun k hk => ?_, fun i hi hd => ?_⟩
    · rw [er_lt (by omega)]; exact h.first
    · rw [length_mergeNd]
      by_cases e : k < j + 1
      · rw [er_lt e]; exact h.lt k (by omega)
      · rw [er_ge (by omega)]; exact h.lt (k + 1) (by omega)
    · by_cases e : a < j + 1
      · rw [er_lt e]
        by_cases e2 : b < j + 1
        · rw [er_lt e2]; exact h.mono _ _ hab (by omega)
        · rw [er_ge (by omega)]; exact h.mono _ _ (by omega) (by omega)
      · rw [er_ge (by omega), er_ge (by omega)]; exact h.mono _ _ (by omega) (by omega)
    · rcases Nat.lt_trichotomy k j with e | e | e
      · rw [er_lt (by omega), er_lt (by omega), (a3 (by omega) (by omega) (by omega)).2]
        exact h.next k (by omega)
      · subst e
        rw [er_lt (by omega), er_ge (by omega), a1]
        exact h.next (k + 1) (by omega)
      · rw [er_ge (by omega), er_ge (by omega), (a3 (by omega) (by omega) (by omega)).2]
        exact h.next (k + 1) (by omega)
    · by_cases e : k = j
      · subst e
        rw [er_lt (by omega), a1]
        exact h.nextEnd (k + 1) (by omega)
      · rw [er_ge (by omega), (a3 (by omega) (by omega) (by omega)).2]
        exact h.nextEnd (k + 1) (by omega)
    · rcases Nat.lt_trichotomy k j with e | e | e
      · rw [er_lt (by omega), er_lt (by omega), a4 (by omega) (by omega) (by omega)]
        exact h.last k (by omega)
      · subst e
        rw [er_ge (by omega), er_lt (by omega)]
        exact a5 (by omega)
      · rw [er_ge (by omega), er_ge (by omega), a4 (by omega) (by omega) (by omega)]
        exact h.last (k + 1) (by omega)
    · have := a4 (m := 0) (by omega) (by omega) (by omega)
      rw [h.first] at this
      rw [this]
      exact h.last0
    · rcases Nat.lt_trichotomy k j with e | e | e
      · rw [er_lt (by omega), (a3 (by omega) (by omega) (by omega)).1]
        exact h.id k (by omega)
      · subst e
        rw [er_lt (by omega), a1]
        exact hx
      · rw [er_ge (by omega), (a3 (by omega) (by omega) (by omega)).1]
        exact h.id (k + 1) (by omega)
    · rw [length_mergeNd] at hi
      by_cases e1 : i = c.getD (j + 1) 0
      · rw [e1]; exact a2
      · have hd' : ∀ k, k < c.length → c.getD k 0 ≠ i := fun k hk e => by
          rcases Nat.lt_trichotomy k (j + 1) with h1 | h1 | h1
          · have := hd k (by omega)
            rw [er_lt h1] at this
            exact this e
          · subst h1; exact e1 e.symm
          · have := hd (k - 1) (by omega)
            rw [er_ge (by omega), show k - 1 + 1 = k by omega] at this
            exact this e
        rw [a6 hd']
        exact h.dead i hi hd'
  · have hl2 : (mergeAt (idsC nd c) j x).length + 1 = c.length := by rw [length_mergeAt (by rw [length_idsC]; exact hj), length_idsC]
    have htl : (List.take j (idsC nd c)).length = j := by rw [List.length_take, length_idsC]; omega
    apply List.ext_getElem?
    intro k
    have e : ∀ l : List Int, ∀ k, k < l.length → l[k]? = some (l.getD k 0) := fun l k hk => by simp [hk]
    by_cases hk : k + 1 < c.length
    · have g1 : k < (c.eraseIdx (j + 1)).length := by omega
      rw [e _ _ (by rw [length_idsC]; exact g1), idsC_getD g1]
      unfold mergeAt
      rcases Nat.lt_trichotomy k j with e1 | e1 | e1
      · rw [er_lt (by omega), (a3 (by omega) (by omega) (by omega)).1, List.getElem?_append_left (by omega), List.getElem?_take, if_pos e1, e _ _ (by rw [length_idsC]; omega), idsC_getD (by omega)]
      · subst e1
        rw [er_lt (by omega), a1, List.getElem?_append_right (by omega), htl, Nat.sub_self, List.getElem?_cons_zero]
      · rw [er_ge (by omega), (a3 (by omega) (by omega) (by omega)).1, List.getElem?_append_right (by omega), htl, show k - j = (k - j - 1) + 1 by omega, List.getElem?_cons_succ, List.getElem?_drop,
          show j + 2 + (k - j - 1) = k + 1 by omega, e _ _ (by rw [length_idsC]; omega), idsC_getD (by omega)]
    · rw [List.getElem?_eq_none (by rw [length_idsC]; omega), List.getElem?_eq_none (by omega)]
/-- what a look finds may stand in the queue -/
theorem lookP_at (h : Chain nd c) {j : Nat} (hj : j + 1 < c.length) : lookP get nd (c.getD j 0 : Nat) = (get (ndAt nd (c.getD j 0)).id (ndAt nd (c.getD (j + 1) 0)).id).map fun v => ⟨v.1, (c.getD j 0 : Nat), (ndAt nd (c.getD j 0)).id, (ndAt nd (c.getD (j + 1) 0)).id, v.2⟩ := by
  have hn := h.next j hj
  unfold lookP
  rw [Int.toNat_natCast, if_neg (by rw [hn]; omega)]
  simp only [hn, Int.toNat_natCast]
theorem lookP_ok (h : Chain nd c) {i : Int} {p : Pr} (hl : lookP get nd i = some p) (hi : ∃ j, j < c.length ∧ i = (c.getD j 0 : Nat)) : 0 ≤ p.left ∧ p.left.toNat < nd.length ∧ 0 ≤ p.first ∧ 0 ≤ p.second ∧ get p.first p.second = some (p.rank, p.id) := by
  obtain ⟨j, hj, rfl⟩ := hi
  by_cases hj1 : j + 1 < c.length
  · rw [lookP_at h hj1] at hl
    cases hg : get (ndAt nd (c.getD j 0)).id (ndAt nd (c.getD (j + 1) 0)).id with
    | none => rw [hg] at hl; cases hl
    | some v =>
      rw [hg] at hl
      cases hl
      exact ⟨by simp, by simpa using h.lt j hj, h.id j hj, h.id (j + 1) hj1, hg⟩
  · have hn := h.nextEnd j (by omega)
    unfold lookP at hl
    rw [Int.toNat_natCast, if_pos (by rw [hn]; omega)] at hl
    cases hl
/-- behind a merge: the queue less the pair, and with what the two looks find -/
theorem QInv.merge (h : Chain nd c) (hq : QInv get nd c q) {p : Pr} {q' q2 : List Pr} (hp : q.Perm (p :: q')) {j : Nat} (hj : j + 1 < c.length) (hl : p.left = (c.getD j 0 : Nat)) {x : Int} (hx : 0 ≤ x)
    (h2 : q2.Perm (q' ++ ((lookP get (mergeNd nd (c.getD j 0) x) (c.getD j 0 : Nat)).toList ++ (lookP get (mergeNd nd (c.getD j 0) x) (ndAt (mergeNd nd (c.getD j 0) x) (c.getD j 0)).last).toList))) :
    QInv get (mergeNd nd (c.getD j 0) x) (c.eraseIdx (j + 1)) q2 := by
  obtain ⟨hc, _⟩ := h.merge hj hx
  have hlen : (c.eraseIdx (j + 1)).length + 1 = c.length := by rw [List.length_eraseIdx]; split <;> omega
  have a3 := fun {m : Nat} => mg_other h hj x (m := m)
  have hej : (c.eraseIdx (j + 1)).getD j 0 = c.getD j 0 := er_lt (by omega)
  have hlast : (ndAt (mergeNd nd (c.getD j 0) x) (c.getD j 0)).last = if 0 < j then (((c.eraseIdx (j + 1)).getD (j - 1) 0 : Nat) : Int) else -1 := by
    rw [mg_last h hj x (by omega) (by omega) (by omega)]
    by_cases h0 : 0 < j
    · rw [if_pos h0, er_lt (by omega)]
      have := h.last (j - 1) (by omega)
      rw [show j - 1 + 1 = j by omega] at this
      exact this
    · rw [if_neg h0, show j = 0 by omega, h.first]; exact h.last0
  refine ⟨fun p' hp' => ?_, fun k hk r y hg => ?_⟩
  · rcases List.mem_append.mp (h2.mem_iff.mp hp') with h9 | h9
    · rw [length_mergeNd]
      exact hq.ok p' (hp.mem_iff.mpr (by simp [h9]))
    · rcases List.mem_append.mp h9 with h8 | h8
      · exact lookP_ok hc (Option.mem_toList.mp h8) ⟨j, by omega, by rw [hej]⟩
      · have h7 : lookP get (mergeNd nd (c.getD j 0) x) (ndAt (mergeNd nd (c.getD j 0) x) (c.getD j 0)).last = some p' := by simpa using h8
        rw [hlast] at h7
        by_cases h0 : 0 < j
        · rw [if_pos h0] at h7
          exact lookP_ok hc h7 ⟨j - 1, by omega, rfl⟩
        · rw [if_neg h0] at h7
          unfold lookP at h7
          rw [if_pos (by omega)] at h7
          cases h7
  · refine h2.mem_iff.mpr ?_
    by_cases e1 : k = j
    · subst e1
      refine List.mem_append.mpr (.inr (List.mem_append.mpr (.inl ?_)))
      have := lookP_at (get := get) hc (j := k) hk
      rw [hg, hej] at this
      rw [this, hej]
      simp
    · by_cases e2 : k + 1 = j
      · refine List.mem_append.mpr (.inr (List.mem_append.mpr (.inr ?_)))
        rw [hlast, if_pos (by omega), show j - 1 = k by omega]
        have := lookP_at (get := get) hc (j := k) hk
        rw [hg] at this
        rw [this]
        simp
      · refine List.mem_append.mpr (.inl ?_)
        have hold : ∃ m, m + 1 < c.length ∧ m ≠ j ∧ m + 1 ≠ j ∧ m ≠ j + 1 ∧ m + 1 ≠ j + 1 ∧ (c.eraseIdx (j + 1)).getD k 0 = c.getD m 0 ∧ (c.eraseIdx (j + 1)).getD (k + 1) 0 = c.getD (m + 1) 0 := by
          by_cases hk2 : k < j
          · exact ⟨k, by omega, e1, e2, by omega, by omega, er_lt (by omega), er_lt (by omega)⟩
          · exact ⟨k + 1, by omega, by omega, by omega, by omega, by omega, er_ge (by omega), er_ge (by omega)⟩
        obtain ⟨m, hm, hmj, hm1, hm2, hm3, em, em1⟩ := hold
        rw [em, em1, (a3 (by omega) hmj hm2).1, (a3 hm hm1 hm3).1] at hg ⊢
        have := hp.mem_iff.mp (hq.all m hm r y hg)
        rcases List.mem_cons.mp this with h9 | h9
        · exfalso
          apply hmj
          refine h.inj (by omega) (by omega) ?_
          have e9 : ((c.getD m 0 : Nat) : Int) = p.left := congrArg Pr.left h9
          rw [hl] at e9
          omega
        · exact h9
/-- how many nodes live -/
def liveN (nd : List Nd) : Nat := nd.countP fun v => decide (0 ≤ v.id)
end
/-! The beginning. -/
def ndInit (ids : List Int) : List Nd := (List.range ids.length).map fun i => ⟨ids.getD i 0, if i + 1 = ids.length then (-1 : Int) else ((i + 1 : Nat) : Int), (i : Int) - 1⟩
theorem ndInit_at {ids : List Int} {i : Nat} (h : i < ids.length) : ndAt (ndInit ids) i = ⟨ids.getD i 0, if i + 1 = ids.length then (-1 : Int) else ((i + 1 : Nat) : Int), (i : Int) - 1⟩ := by
  simp [ndAt, ndInit, h]
theorem chain_init {ids : List Int} (h0 : 0 < ids.length) (hp : ∀ j, j < ids.length → 0 ≤ ids.getD j 0) : Chain (ndInit ids) (List.range ids.length) ∧ idsC (ndInit ids) (List.range ids.length) = ids := by
  have hg : ∀ j, j < ids.length → (List.range ids.length).getD j 0 = j := fun j hj => by simp [hj]
  have hl : (ndInit ids).length = ids.length := by simp [ndInit]
  constructor
  · refine ⟨by simpa using h0, hg 0 h0, fun j hj => ?_, fun i j hij hj => ?_, fun j hj => ?_, fun j hj => ?_, fun j hj => ?_, ?_, fun j hj => ?_, fun i hi hd => ?_⟩
    · rw [List.length_range] at hj; rw [hg j hj, hl]; exact hj
    · rw [List.length_range] at hj; rw [hg j hj, hg i (by omega)]; exact hij
    · rw [List.length_range] at hj; rw [hg j (by omega), hg (j + 1) hj, ndInit_at (by omega), if_neg (by omega)]
    · rw [List.length_range] at hj; rw [hg j (by omega), ndInit_at (by omega), if_pos hj]
    · rw [List.length_range] at hj; rw [hg j (by omega), hg (j + 1) hj, ndInit_at hj]; show ((j + 1 : Nat) : Int) - 1 = _; omega
    · rw [ndInit_at h0]; rfl
    · rw [List.length_range] at hj; rw [hg j hj, ndInit_at hj]; exact hp j hj
    · rw [hl] at hi
      exact absurd (hg i hi) (hd i (by simpa using hi))
  · apply List.ext_getElem?
    intro k
    by_cases hk : k < ids.length
    · simp [idsC, hk, ndInit_at hk]
    · simp [idsC, hk]
end Go.Proofs.Ytklklmaclaohaaa
