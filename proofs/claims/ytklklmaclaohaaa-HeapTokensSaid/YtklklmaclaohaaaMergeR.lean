/- Merging by a queue over a linked list: what holds in its loops. Plain. -/
import Derived.Test.YtklklmaclaohaaaMergeQ
import Derived.Test.YtklklmaclaohaaaHeapG
namespace Go.Proofs.Ytklklmaclaohaaa

theorem live_count {nd : List Nd} {c : List Nat} (h : Chain nd c) : liveN nd = c.length := by
  have e1 : liveN nd = ((List.range nd.length).filter fun i => decide (0 ≤ (ndAt nd i).id)).length := by
    unfold liveN
    rw [← List.countP_eq_length_filter]
    have : nd = (List.range nd.length).map (ndAt nd) := by
      apply List.ext_getElem (by simp)
      intro i h1 h2
      simp [ndAt, h1]
    conv => lhs; rw [this]
    rw [List.countP_map]
    rfl
  have hnd : c.Nodup := by
    refine List.pairwise_iff_getElem.2 (fun i j hi hj hij e => ?_)
    have := h.inj hi hj (by simpa [hi, hj] using e)
    omega
  rw [e1]
  refine List.Perm.length_eq ((List.perm_ext_iff_of_nodup (List.Pairwise.filter _ List.nodup_range) hnd).2 (fun i => ?_))
  simp only [List.mem_filter, List.mem_range, decide_eq_true_eq]
  constructor
  · rintro ⟨h1, h2⟩
    obtain ⟨j, hj, rfl⟩ := h.live h1 h2
    simp [hj]
  · intro hi
    obtain ⟨j, hj, rfl⟩ := List.getElem_of_mem hi
    have h1 := h.lt j hj
    have h2 := h.id j hj
    rw [show c.getD j 0 = c[j] by simp [hj]] at h1 h2
    exact ⟨h1, h2⟩
/-- the queue while the first looks are taken -/
structure QTo (get : Int → Int → Option (Int × Int)) (ids : List Int) (q : List Pr) (k : Nat) : Prop where
  ok : ∀ p ∈ q, 0 ≤ p.left ∧ p.left.toNat < (ndInit ids).length ∧ 0 ≤ p.first ∧ 0 ≤ p.second ∧ get p.first p.second = some (p.rank, p.id)
  all : ∀ j, j < k → ∀ p, lookP get (ndInit ids) (j : Int) = some p → p ∈ q
  hp : HeapG prKey pr0 q
  len : q.length ≤ k
structure MQ (get : Int → Int → Option (Int × Int)) (signs : Int) (ids : List Int) (nd : List Nd) (c : List Nat) (q : List Pr) : Prop where
  ch : Chain nd c
  qi : QInv get nd c q
  hp : HeapG prKey pr0 q
  val : mergeF get signs (idsC nd c) = mergeF get signs ids
  len : nd.length = ids.length
  bnd : q.length + 2 * c.length ≤ 3 * ids.length
  hi : ∀ i, i < nd.length → (ndAt nd i).id < signs
section
variable {get : Int → Int → Option (Int × Int)} {signs : Int} {ids : List Int} {nd : List Nd} {c : List Nat} {q q' q2 : List Pr} {k : Nat}
theorem length_ndInit (ids : List Int) : (ndInit ids).length = ids.length := by simp [ndInit]
theorem QTo.start : QTo get ids [] 0 := ⟨fun p h => (by cases h), fun j h => (by omega), HeapG.nil, Nat.le_refl _⟩
theorem lookP_init (h0 : 0 < ids.length) (hpos : ∀ j, j < ids.length → 0 ≤ ids.getD j 0) (hk : k < ids.length) {p : Pr} (h : lookP get (ndInit ids) (k : Int) = some p) :
    0 ≤ p.left ∧ p.left.toNat < (ndInit ids).length ∧ 0 ≤ p.first ∧ 0 ≤ p.second ∧ get p.first p.second = some (p.rank, p.id) :=
  lookP_ok (chain_init h0 hpos).1 h ⟨k, by simpa using hk, by simp [hk]⟩
theorem QTo.next (h : QTo get ids q k) (h0 : 0 < ids.length) (hpos : ∀ j, j < ids.length → 0 ≤ ids.getD j 0) (hk : k < ids.length) (hp : q2.Perm (q ++ (lookP get (ndInit ids) (k : Int)).toList)) (hh : HeapG prKey pr0 q2) : QTo get ids q2 (k + 1) := by
  refine ⟨fun p hm => ?_, fun j hj p hl => ?_, hh, ?_⟩
  · rcases List.mem_append.mp (hp.mem_iff.mp hm) with h9 | h9
    · exact h.ok p h9
    · exact lookP_init h0 hpos hk (Option.mem_toList.mp h9)
  · refine hp.mem_iff.mpr (List.mem_append.mpr ?_)
    by_cases e : j = k
    · subst e
      exact .inr (Option.mem_toList.mpr hl)
    · exact .inl (h.all j (by omega) p hl)
  · have := hp.length_eq
    have h2 := h.len
    rw [List.length_append] at this
    have : (lookP get (ndInit ids) (k : Int)).toList.length ≤ 1 := by cases lookP get (ndInit ids) (k : Int) <;> simp
    omega
theorem QTo.all_in (h : QTo get ids q ids.length) (h0 : 0 < ids.length) (hpos : ∀ j, j < ids.length → 0 ≤ ids.getD j 0) (hlt : ∀ j, j < ids.length → ids.getD j 0 < signs) : MQ get signs ids (ndInit ids) (List.range ids.length) q := by
  obtain ⟨hc, hi⟩ := chain_init h0 hpos
  refine ⟨hc, ⟨h.ok, fun j hj r x hg => ?_⟩, h.hp, by rw [hi], length_ndInit ids, by have := h.len; simp; omega, fun i hi => ?_⟩
  · refine h.all j (by simp at hj; omega) _ ?_
    have := lookP_at (get := get) hc hj
    rw [hg] at this
    have e : (List.range ids.length).getD j 0 = j := by simp at hj ⊢; simp [show j < ids.length by omega]
    rw [e] at this ⊢
    exact this
  · rw [length_ndInit] at hi
    rw [ndInit_at hi]
    exact hlt i hi
theorem MQ.stale (h : MQ get signs ids nd c q) {p : Pr} (hp : q.Perm (p :: q')) (hh : HeapG prKey pr0 q') (hc : ¬ isCur nd p) : MQ get signs ids nd c q' := by
  refine ⟨h.ch, h.qi.drop h.ch hp hc, hh, h.val, h.len, ?_, h.hi⟩
  have := hp.length_eq
  have h2 := h.bnd
  simp at this
  omega
theorem MQ.top (h : MQ get signs ids nd c q) (hn : ids.length ≤ 4294967296) (h0 : 0 < q.length) (hc : isCur nd (q.getD 0 pr0)) :
    ∃ j, j + 1 < c.length ∧ (q.getD 0 pr0).left = (c.getD j 0 : Nat) ∧ (ndAt nd (c.getD j 0)).next = (c.getD (j + 1) 0 : Nat) ∧ bestOf get (idsC nd c) = some (j, (q.getD 0 pr0).rank, (q.getD 0 pr0).id) := by
  have hm : q.getD 0 pr0 ∈ q := by simp [h0]
  refine cur_best h.ch h.qi (by rw [h.len]; exact hn) hm hc (fun p' hp' => ?_)
  exact h.hp.min_mem p' hp'
theorem MQ.merge (h : MQ get signs ids nd c q) {p : Pr} (hp : q.Perm (p :: q')) {j : Nat} (hj : j + 1 < c.length) (hl : p.left = (c.getD j 0 : Nat)) (hb : bestOf get (idsC nd c) = some (j, p.rank, p.id)) (hx : 0 ≤ p.id) (hs : p.id < signs)
    (h2 : q2.Perm (q' ++ ((lookP get (mergeNd nd (c.getD j 0) p.id) (c.getD j 0 : Nat)).toList ++ (lookP get (mergeNd nd (c.getD j 0) p.id) (ndAt (mergeNd nd (c.getD j 0) p.id) (c.getD j 0)).last).toList))) (hh : HeapG prKey pr0 q2) :
    MQ get signs ids (mergeNd nd (c.getD j 0) p.id) (c.eraseIdx (j + 1)) q2 ∧ q2.length + 2 * (c.eraseIdx (j + 1)).length < q.length + 2 * c.length := by
  obtain ⟨hc, hi⟩ := h.ch.merge hj hx
  have hlen : (c.eraseIdx (j + 1)).length + 1 = c.length := by rw [List.length_eraseIdx]; split <;> omega
  have l1 := hp.length_eq
  have l2 := h2.length_eq
  have hle : ∀ o : Option Pr, o.toList.length ≤ 1 := fun o => by cases o <;> simp
  have l3 := hle (lookP get (mergeNd nd (c.getD j 0) p.id) (c.getD j 0 : Nat))
  have l4 := hle (lookP get (mergeNd nd (c.getD j 0) p.id) (ndAt (mergeNd nd (c.getD j 0) p.id) (c.getD j 0)).last)
  simp only [List.length_append, List.length_cons] at l1 l2
  have hb2 := h.bnd
  refine ⟨⟨hc, h.qi.merge h.ch hp hj hl hx h2, hh, ?_, by rw [length_mergeNd]; exact h.len, by omega, fun i hi => ?_⟩, by omega⟩
  · rw [hi, ← h.val, mergeF_some hb, if_neg (by omega)]
  · rw [length_mergeNd] at hi
    have := h.hi i hi
    rw [mergeNd_at h.ch hj]
    split
    · exact hs
    · split
      · have := h.hi _ (h.ch.lt (j + 1) hj)
        have := h.ch.id (j + 1) hj
        show (-1 : Int) < signs
        omega
      · split <;> exact this
theorem MQ.bad (h : MQ get signs ids nd c q) {p : Pr} {j : Nat} (hb : bestOf get (idsC nd c) = some (j, p.rank, p.id)) (hs : signs ≤ p.id) : mergeF get signs ids = none := by
  rw [← h.val, mergeF_some hb, if_pos hs]
theorem MQ.done (h : MQ get signs ids nd c []) : mergeF get signs ids = some (idsC nd c) := by
  rw [← h.val, mergeF_none (bestOf_empty h.qi)]
end
end Go.Proofs.Ytklklmaclaohaaa
