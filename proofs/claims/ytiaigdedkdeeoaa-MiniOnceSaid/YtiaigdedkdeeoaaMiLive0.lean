/- Which states are live: the memory of the search, and its plain part. -/
import Derived.Test.YtiaigdedkdeeoaaMiGo
namespace Go.Proofs.Ytiaigdedkdeeoaa
open Go.RowKit Go.Maps Go.WideMaps

def natsV (st : List Nat) : List Value := st.map (fun (x : Nat) => .int .i64 (x : Int))
structure LivW (w W : World) (gb gl n : Nat) (V : Nat → Value) (back : List (List Int)) (vs : Value) (st : List Nat) (lv : List Bool) : Prop where
  bel : Below w.heap.size w W
  rows : RowsW W w.heap.size gb n V back
  hgb : w.heap.size ≤ gb
  lb : Blk W gl 4 (lv.map Value.bool)
  hgl : w.heap.size ≤ gl
  own : W.ownsRow w.heap.size 3 1 vs st.length (natsV st)
  ne : ∀ j, j < n → ∀ k, (V j).ownBlock = some k → vs.ownBlock ≠ some k
section
variable {w W W' : World} {gb gl n : Nat} {V : Nat → Value} {back : List (List Int)} {vs : Value} {st : List Nat} {lv : List Bool}
theorem LivW.go (h : LivW w W gb gl n V back vs st lv) (hb : Below W.heap.size W W') : LivW w W' gb gl n V back vs st lv :=
  ⟨h.bel.trans (hb.mono h.bel.size), h.rows.go hb, h.hgb, h.lb.below hb h.lb.lt, h.hgl, own_kept h.own hb, h.ne⟩
theorem LivW.alloc (h : LivW w W gb gl n V back vs st lv) (o : Obj) : LivW w (W.alloc o) gb gl n V back vs st lv := h.go ((Below.refl _ _).alloc (Nat.le_refl _) _)
theorem LivW.mark (h : LivW w W gb gl n V back vs st lv) (j : Nat) : LivW w (W.setCell ⟨gl, j, none⟩ (.bool true)) gb gl n V back vs st (lv.set j true) :=
  have hb := but_setCell W gl j (.bool true)
  ⟨h.bel.setCell (p := ⟨gl, j, none⟩) h.hgl _, h.rows.but hb (fun e => blk_ne h.rows.blk h.lb (by decide) e) (fun i hi k hk e => blk_own_ne h.lb (h.rows.own i hi) (by decide) (by rw [hk, e])), h.hgb, by rw [List.map_set]; exact h.lb.set j _, h.hgl,
    hb.own h.own (fun k hk e => blk_own_ne h.lb h.own (by decide) (by rw [hk, e])), h.ne⟩
/-- the stack has grown -/
theorem LivW.push (h : LivW w W gb gl n V back vs st lv) {g : Nat} {v : Value} {x : Nat} (hown : W'.ownsRow w.heap.size 3 1 v (st.length + 1) (natsV st ++ [.int .i64 (x : Int)])) (hv : v.ownBlock = some g) (hg : W.grownBy W' vs.ownBlock) (hat : vs.ownBlock = some g ∨ W.heap.size ≤ g) : LivW w W' gb gl n V back v (st ++ [x]) lv :=
  have hb := But.of_grown hg
  ⟨h.bel.trans (hb.below h.bel.size (fun k e => (h.own.lt k e).1)), h.rows.but hb (fun e => blk_own_ne h.rows.blk h.own (by decide) e) (fun i hi k hk => h.ne i hi k hk), h.hgb, hb.blk h.lb (fun e => blk_own_ne h.lb h.own (by decide) e), h.hgl, by rw [List.length_append]; unfold natsV at hown ⊢; rw [List.map_append]; exact hown,
    fun i hi k hk e => by
      rw [hv] at e
      injection e with e
      subst e
      rcases hat with h9 | h9
      · exact h.ne i hi _ hk h9
      · have := ((h.rows.own i hi).lt _ hk).2
        omega⟩
theorem LivW.pop {x c : Nat} {A : Option Addr} (h : LivW w W gb gl n V back (.slice A (st.length + 1) c) (st ++ [x]) lv) : LivW w W gb gl n V back (.slice A st.length c) st lv :=
  ⟨h.bel, h.rows, h.hgb, h.lb, h.hgl, own_pop (xs := natsV st) (x := .int .i64 (x : Int)) (by have := h.own; simpa [natsV] using this) (by simp [natsV]), fun j hj k hk e => h.ne j hj k hk (by cases A with
    | none => simp [Value.ownBlock] at e
    | some a => simpa [Value.ownBlock] using e)⟩
/-- a row has grown and is stored again -/
theorem LivW.row (h : LivW w W gb gl n V back vs st lv) {j : Nat} (hj : j < n) {g : Nat} {v : Value} {l : List Int} (hown : W'.ownsRow w.heap.size 3 1 v l.length (numsV .i64 l)) (hv : v.ownBlock = some g) (hg : W.grownBy W' (V j).ownBlock) (hat : (V j).ownBlock = some g ∨ W.heap.size ≤ g) :
    LivW w (W'.setCell ⟨gb, j, none⟩ v) gb gl n (updV V j v) (back.set j l) vs st lv := by
  have hb := But.of_grown hg
  have hs := but_setCell W' gb j v
  have hlb := hb.blk h.lb (fun e => blk_own_ne h.lb (h.rows.own j hj) (by decide) e)
  have hgb' := app_facts h.rows hj hg
  have hst := hb.own h.own (fun k hk e => h.ne j hj k e hk)
  refine ⟨(h.bel.trans (hb.below h.bel.size (fun k e => ((h.rows.own j hj).lt k e).1))).setCell (p := ⟨gb, j, none⟩) h.hgb v, h.rows.app hj hown hv hg hat, h.hgb, hs.blk hlb (fun e => blk_ne hlb hgb' (by decide) e), h.hgl,
    hs.own hst (fun k hk e => blk_own_ne hgb' hst (by decide) (by rw [hk, e])), fun i hi k hk => ?_⟩
  unfold updV at hk
  by_cases e : i = j
  · rw [if_pos e, hv] at hk
    injection hk with hk
    subst hk
    rcases hat with h9 | h9
    · exact h.ne j hj _ h9
    · intro h8
      have := (h.own.lt _ h8).2
      omega
  · rw [if_neg e] at hk
    exact h.ne i hi k hk
theorem LivW.cell (h : LivW w W gb gl n V back vs st lv) {j : Nat} (hj : j < lv.length) : W.cell? ⟨gl, j, none⟩ = some (.bool (lv.getD j false)) := bools_cell h.lb hj
end
/-- edges backwards, as far as they are known: those of states below k, and the first cc of state k -/
structure BackOk (rows : List (List Int)) (n u : Nat) (back : List (List Int)) (k cc : Nat) : Prop where
  all : ∀ i c j : Nat, (i < k ∧ c < u) ∨ (i = k ∧ c < cc) → (rows.getD i []).getD c 0 = (j : Int) → j < n → (i : Int) ∈ back.getD j []
  only : ∀ j x, j < n → x ∈ back.getD j [] → ∃ i c : Nat, x = (i : Int) ∧ i < n ∧ c < u ∧ (rows.getD i []).getD c 0 = (j : Int)
  few : ∀ j, j < n → (back.getD j []).length ≤ 256 * k + cc
theorem BackOk.start (rows : List (List Int)) (n u : Nat) : BackOk rows n u (List.replicate n []) 0 0 := by
  have e : ∀ j, (List.replicate n ([] : List Int)).getD j [] = [] := fun j => by rw [List.getD_eq_getElem?_getD, List.getElem?_replicate]; split <;> rfl
  exact ⟨fun i c j h => by omega, fun j x _ hx => (by rw [e] at hx; cases hx), fun j _ => (by rw [e]; exact Nat.zero_le _)⟩
section
variable {rows : List (List Int)} {n u : Nat} {back : List (List Int)} {k cc : Nat}
theorem BackOk.row (h : BackOk rows n u back k u) (hu : u ≤ 256) : BackOk rows n u back (k + 1) 0 :=
  ⟨fun i c j hic => h.all i c j (by omega), h.only, fun j hj => by have := h.few j hj; omega⟩
theorem BackOk.skip (h : BackOk rows n u back k cc) (hx : (rows.getD k []).getD cc 0 < 0) : BackOk rows n u back k (cc + 1) :=
  ⟨fun i c j hic he hj => by
    by_cases e : i = k ∧ c = cc
    · rw [e.1, e.2] at he; omega
    · exact h.all i c j (by omega) he hj, h.only, fun j hj => by have := h.few j hj; omega⟩
theorem BackOk.put (h : BackOk rows n u back k cc) (hl : back.length = n) {j : Nat} (hj : j < n) (hk : k < n) (hc : cc < u) (hx : (rows.getD k []).getD cc 0 = (j : Int)) : BackOk rows n u (back.set j (back.getD j [] ++ [(k : Int)])) k (cc + 1) := by
  have hg : ∀ i, (back.set j (back.getD j [] ++ [(k : Int)])).getD i [] = if i = j then back.getD j [] ++ [(k : Int)] else back.getD i [] := fun i => getD_set1 _ (by rw [hl]; exact hj)
  refine ⟨fun i c j' hic he hj' => ?_, fun j' x hj' hx' => ?_, fun j' hj' => ?_⟩
  · rw [hg]
    by_cases e : i = k ∧ c = cc
    · rw [e.1, e.2, hx] at he
      have : j' = j := by omega
      rw [if_pos this, e.1]; simp
    · have := h.all i c j' (by omega) he hj'
      split
      · rename_i e2; rw [e2] at this; exact List.mem_append_left _ this
      · exact this
  · rw [hg] at hx'
    split at hx'
    · rename_i e2
      rcases List.mem_append.1 hx' with h9 | h9
      · obtain ⟨i, c, h1, h2, h3, h4⟩ := h.only j x hj h9
        exact ⟨i, c, h1, h2, h3, by rw [h4, e2]⟩
      · simp at h9
        exact ⟨k, cc, h9, hk, hc, by rw [hx, e2]⟩
    · exact h.only j' x hj' hx'
  · rw [hg]
    split
    · have := h.few j hj
      rw [List.length_append, List.length_singleton]; omega
    · have := h.few j' hj'
      omega
end
/-- what holds of marks and stack: marked ones are live; whoever is off the stack has marked all from whom it is reached -/
structure Sr (A : Aut) (st : List Nat) (lv : List Bool) : Prop where
  len : lv.length = A.n
  live : ∀ j, lv.getD j false = true → j < A.n ∧ Live A j
  on : ∀ j ∈ st, lv.getD j false = true
  few : falses lv + st.length ≤ A.n
def Shut1 (back : List (List Int)) (lv : List Bool) (x : Nat) : Prop := ∀ i : Nat, (i : Int) ∈ back.getD x [] → lv.getD i false = true
def ShutBut (back : List (List Int)) (lv : List Bool) (st : List Nat) (ex : Nat → Prop) : Prop := ∀ x, lv.getD x false = true → x ∉ st → ¬ ex x → Shut1 back lv x
theorem more_set (seen : List Bool) (j : Nat) {k : Nat} (hk : seen.getD k false = true) : (seen.set j true).getD k false = true := by
  have hl : k < seen.length := by
    apply Classical.byContradiction
    intro h9
    rw [List.getD_eq_getElem?_getD, List.getElem?_eq_none (by omega)] at hk
    simp at hk
  rw [getD_set hl]
  split
  · rfl
  · exact hk
theorem Shut1.more {back : List (List Int)} {lv : List Bool} {x j : Nat} (h : Shut1 back lv x) : Shut1 back (lv.set j true) x := fun i hi => more_set _ _ (h i hi)
section
variable {A : Aut} {back : List (List Int)} {st : List Nat} {lv : List Bool} {ex : Nat → Prop}
theorem Sr.start (A : Aut) : Sr A [] (List.replicate A.n false) := by
  have e : ∀ j, (List.replicate A.n false).getD j false = false := fun j => by rw [List.getD_eq_getElem?_getD, List.getElem?_replicate]; split <;> rfl
  refine ⟨by simp, fun j hj => (by rw [e] at hj; cases hj), fun j hj => (by cases hj), ?_⟩
  have h : falses (List.replicate A.n false) ≤ (List.replicate A.n false).length := List.countP_le_length
  simpa using h
theorem rep_false {n j : Nat} (h : (List.replicate n false).getD j false = true) : False := by
  rw [List.getD_eq_getElem?_getD, List.getElem?_replicate] at h
  split at h <;> cases h
theorem Sr.push (h : Sr A st lv) {j : Nat} (hj : j < A.n) (hl : Live A j) (hs : lv.getD j false = false) : Sr A (st ++ [j]) (lv.set j true) := by
  refine ⟨by simp [h.len], fun k hk => ?_, fun k hk => ?_, ?_⟩
  · by_cases e : k < lv.length
    · rw [getD_set e] at hk
      by_cases e2 : k = j
      · subst e2; exact ⟨hj, hl⟩
      · rw [if_neg e2] at hk; exact h.live k hk
    · rw [List.getD_eq_getElem?_getD, List.getElem?_eq_none (by simp; omega)] at hk
      simp at hk
  · rcases List.mem_append.1 hk with h9 | h9
    · exact more_set _ _ (h.on k h9)
    · simp at h9
      subst h9
      rw [getD_set (by rw [h.len]; exact hj), if_pos rfl]
  · have h1 := falses_set (l := lv) (j := j) (by rw [h.len]; exact hj) hs
    have h2 := h.few
    simp only [List.length_append, List.length_singleton]
    omega
theorem Sr.pop {x : Nat} (h : Sr A (st ++ [x]) lv) : Sr A st lv :=
  ⟨h.len, h.live, fun j hj => h.on j (List.mem_append_left _ hj), by have := h.few; simp only [List.length_append, List.length_singleton] at this; omega⟩
theorem ShutBut.push (h : ShutBut back lv st ex) {j : Nat} : ShutBut back (lv.set j true) (st ++ [j]) ex := fun x hx hn he => by
  have hl : x < lv.length := by
    apply Classical.byContradiction
    intro h9
    rw [List.getD_eq_getElem?_getD, List.getElem?_eq_none (by simp; omega)] at hx
    simp at hx
  rw [getD_set hl] at hx
  have hxj : x ≠ j := fun e => hn (by rw [e]; simp)
  rw [if_neg hxj] at hx
  exact (h x hx (fun h9 => hn (List.mem_append_left _ h9)) he).more
/-- in the end the marked ones are just the live ones -/
theorem live_end {rows : List (List Int)} {u : Nat} (hok : A.Ok) (hg : Going A rows u) (hb : BackOk rows A.n u back A.n 0) (h : Sr A [] lv) (hs : ShutBut back lv [] (fun _ => False)) (hacc : ∀ i, i < A.n → A.acc i = true → lv.getD i false = true) : ∀ i, i < A.n → (lv.getD i false = true ↔ Live A i) := fun i hi => by
  constructor
  · exact fun h9 => (h.live i h9).2
  · intro h9
    refine live_least (S := fun j => lv.getD j false = true) hacc (fun i b hi hbb h0 hm => ?_) hok hi h9
    obtain ⟨c, hc, hall⟩ := hg.fwd b hbb
    have hj : (A.nx i b).toNat < A.n := by have := hok.hi i b hi hbb; omega
    refine hs _ hm (fun h9 => by cases h9) (fun h9 => h9) i ?_
    exact hb.all i c _ (.inl ⟨hi, hc⟩) (by rw [hall i hi]; omega) hj
theorem back_live {rows : List (List Int)} {u : Nat} (hg : Going A rows u) {k cc : Nat} (hb : BackOk rows A.n u back k cc) {j : Nat} (hj : j < A.n) (hl : Live A j) {x : Int} (hx : x ∈ back.getD j []) : ∃ i : Nat, x = (i : Int) ∧ i < A.n ∧ Live A i := by
  obtain ⟨i, c, rfl, hi, hc, he⟩ := hb.only j x hj hx
  obtain ⟨b, hbb, hall⟩ := hg.bwd c hc
  rw [hall i hi] at he
  exact ⟨i, rfl, hi, live_step hbb (by omega) (by rw [he]; simpa using hl)⟩
end
end Go.Proofs.Ytiaigdedkdeeoaa
