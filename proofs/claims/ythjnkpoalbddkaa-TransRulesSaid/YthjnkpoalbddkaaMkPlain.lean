/- A machine that is made state by state. Plain. -/
import Derived.Test.YthjnkpoalbddkaaMkIdx
namespace Go.Proofs.Ythjnkpoalbddkaa
structure Mk (S : Type) where
  all : List S
  texts : List Bs
  next : List (List Int)
  put : List (List Int)
  ends : List Int
  bad : Bool
/-- what is put by a number at a byte -/
def putT (texts : List Bs) (p : Int) (c : UInt8) : Bs := texts.getD (p.toNat / 2) [] ++ if p.toNat % 2 = 1 then [c] else []
def oddB (t : Bs) (c : UInt8) : Bool := decide (t.getLast? = some c)
def cutB (t : Bs) (c : UInt8) : Bs := if oddB t c = true then t.dropLast else t
def oddN (t : Bs) (c : UInt8) : Int := if oddB t c = true then 1 else 0
theorem cutB_len (t : Bs) (c : UInt8) : (cutB t c).length ≤ t.length := by
  unfold cutB; split
  · simp
  · exact Nat.le_refl _
theorem cut_back (t : Bs) (c : UInt8) : cutB t c ++ (if oddB t c = true then [c] else []) = t := by
  unfold cutB
  by_cases h : oddB t c = true
  · rw [if_pos h, if_pos h]
    unfold oddB at h
    have h := of_decide_eq_true h
    obtain ⟨l, rfl⟩ := List.getLast?_eq_some_iff.1 h
    simp
  · rw [if_neg h, if_neg h]; simp
section
variable {S : Type}
def Mk.addS [DecidableEq S] (m : Mk S) (s : S) : Mk S := if s ∈ m.all then m else { m with all := m.all ++ [s], bad := m.bad || decide (1200 < m.all.length + 1) }
def Mk.addT (m : Mk S) (t : Bs) : Mk S := if t ∈ m.texts then m else { m with texts := m.texts ++ [t], bad := (m.bad || decide (4096 < m.texts.length + 1)) || decide (4096 < t.length) }
/-- more states and texts, and nothing else -/
structure Mk.Le (m m' : Mk S) : Prop where
  all : ∃ x, m'.all = m.all ++ x
  texts : ∃ x, m'.texts = m.texts ++ x
  next : m'.next = m.next
  put : m'.put = m.put
  ends : m'.ends = m.ends
theorem Mk.Le.refl (m : Mk S) : m.Le m := ⟨⟨[], by simp⟩, ⟨[], by simp⟩, rfl, rfl, rfl⟩
theorem Mk.Le.trans {m m1 m2 : Mk S} (h : m.Le m1) (h2 : m1.Le m2) : m.Le m2 := by
  obtain ⟨x, hx⟩ := h.all
  obtain ⟨y, hy⟩ := h2.all
  obtain ⟨z, hz⟩ := h.texts
  obtain ⟨u, hu⟩ := h2.texts
  exact ⟨⟨x ++ y, by rw [hy, hx]; simp⟩, ⟨z ++ u, by rw [hu, hz]; simp⟩, h2.next.trans h.next, h2.put.trans h.put, h2.ends.trans h.ends⟩
theorem Mk.addS_le [DecidableEq S] (m : Mk S) (s : S) : m.Le (m.addS s) := by
  unfold Mk.addS; split
  · exact Mk.Le.refl m
  · exact ⟨⟨[s], rfl⟩, ⟨[], by simp⟩, rfl, rfl, rfl⟩
theorem Mk.addT_le (m : Mk S) (t : Bs) : m.Le (m.addT t) := by
  unfold Mk.addT; split
  · exact Mk.Le.refl m
  · exact ⟨⟨[], by simp⟩, ⟨[t], rfl⟩, rfl, rfl, rfl⟩
theorem Mk.Le.getAll {m m' : Mk S} (h : m.Le m') {i : Nat} {s : S} (hi : m.all[i]? = some s) : m'.all[i]? = some s := by
  obtain ⟨x, hx⟩ := h.all
  have := (List.getElem?_eq_some_iff.1 hi).1
  rw [hx, List.getElem?_append_left this]; exact hi
theorem Mk.Le.getText {m m' : Mk S} (h : m.Le m') {i : Nat} {s : Bs} (hi : m.texts[i]? = some s) : m'.texts[i]? = some s := by
  obtain ⟨x, hx⟩ := h.texts
  have := (List.getElem?_eq_some_iff.1 hi).1
  rw [hx, List.getElem?_append_left this]; exact hi
theorem Mk.Le.lenAll {m m' : Mk S} (h : m.Le m') : m.all.length ≤ m'.all.length := by
  obtain ⟨x, hx⟩ := h.all; rw [hx]; simp
theorem Mk.Le.lenText {m m' : Mk S} (h : m.Le m') : m.texts.length ≤ m'.texts.length := by
  obtain ⟨x, hx⟩ := h.texts; rw [hx]; simp
theorem Mk.mem_addS [DecidableEq S] (m : Mk S) (s : S) : s ∈ (m.addS s).all := by
  unfold Mk.addS; split
  · assumption
  · simp
theorem Mk.mem_addT (m : Mk S) (t : Bs) : t ∈ (m.addT t).texts := by
  unfold Mk.addT; split
  · assumption
  · simp
/-- the place of a thing: where it stands, or behind all -/
theorem idx_addS [DecidableEq S] (m : Mk S) (s : S) : (plc (m.addS s).all s) = if s ∈ m.all then plc m.all s else m.all.length := by
  unfold Mk.addS; split
  · rfl
  · rename_i h; exact plc_new h
theorem idx_addT (m : Mk S) (t : Bs) : (plc (m.addT t).texts t) = if t ∈ m.texts then plc m.texts t else m.texts.length := by
  unfold Mk.addT; split
  · rfl
  · rename_i h; exact plc_new h
variable (step : S → UInt8 → Bs × S) (fin : S → Bs) (first : S)
structure CellOk (m : Mk S) (s : S) (c : UInt8) (nx pt : Int) : Prop where
  n0 : 0 ≤ nx
  ns : m.all[nx.toNat]? = some (step s c).2
  p0 : 0 ≤ pt
  pl : pt.toNat / 2 < m.texts.length
  ps : putT m.texts pt c = (step s c).1
structure RowOk (m : Mk S) (s : S) (nx pt : List Int) (k : Nat) : Prop where
  nl : nx.length = k
  pl : pt.length = k
  cell : ∀ c, c < k → CellOk step m s (UInt8.ofNat c) (nx.getD c 0) (pt.getD c 0)
structure MkOk (m : Mk S) (k : Nat) : Prop where
  nd : m.all.Nodup
  tnd : m.texts.Nodup
  f0 : m.all[0]? = some first
  t0 : 0 < m.texts.length
  nl : m.next.length = k
  pl : m.put.length = k
  el : m.ends.length = k
  kl : k ≤ m.all.length
  rows : ∀ i, i < k → ∃ s, m.all[i]? = some s ∧ RowOk step m s (m.next.getD i []) (m.put.getD i []) 256 ∧ 0 ≤ m.ends.getD i 0 ∧ m.texts[(m.ends.getD i 0).toNat]? = some (fin s)
  bad : m.bad = true ↔ (1200 < m.all.length ∨ 4096 < m.texts.length ∨ ∃ t ∈ m.texts, 4096 < t.length)
variable {step fin first}
theorem CellOk.le {m m' : Mk S} {s : S} {c : UInt8} {nx pt : Int} (h : CellOk step m s c nx pt) (hl : m.Le m') : CellOk step m' s c nx pt := by
  refine ⟨h.n0, hl.getAll h.ns, h.p0, Nat.lt_of_lt_of_le h.pl hl.lenText, ?_⟩
  rw [← h.ps]
  unfold putT
  have h1 := List.getElem?_eq_getElem h.pl
  have h2 := hl.getText h1
  rw [List.getD_eq_getElem?_getD, List.getD_eq_getElem?_getD, h1, h2]
theorem RowOk.le {m m' : Mk S} {s : S} {nx pt : List Int} {k : Nat} (h : RowOk step m s nx pt k) (hl : m.Le m') : RowOk step m' s nx pt k :=
  ⟨h.nl, h.pl, fun c hc => (h.cell c hc).le hl⟩
theorem MkOk.rowsLe {m m' : Mk S} {k : Nat} (h : MkOk step fin first m k) (hl : m.Le m') : ∀ i, i < k → ∃ s, m'.all[i]? = some s ∧ RowOk step m' s (m'.next.getD i []) (m'.put.getD i []) 256 ∧ 0 ≤ m'.ends.getD i 0 ∧ m'.texts[(m'.ends.getD i 0).toNat]? = some (fin s) := fun i hi => by
  obtain ⟨s, h1, h2, h3, h4⟩ := h.rows i hi
  rw [hl.next, hl.put, hl.ends]
  exact ⟨s, hl.getAll h1, h2.le hl, h3, hl.getText h4⟩
theorem MkOk.addS [DecidableEq S] {m : Mk S} {k : Nat} (h : MkOk step fin first m k) (s : S) : MkOk step fin first (m.addS s) k := by
  have hl := m.addS_le s
  have hr := h.rowsLe hl
  by_cases hs : s ∈ m.all
  · have e : m.addS s = m := by unfold Mk.addS; rw [if_pos hs]
    rw [e]; exact h
  · have e : m.addS s = { m with all := m.all ++ [s], bad := m.bad || decide (1200 < m.all.length + 1) } := by unfold Mk.addS; rw [if_neg hs]
    rw [e] at hl hr ⊢
    refine ⟨?_, h.tnd, hl.getAll h.f0, h.t0, h.nl, h.pl, h.el, Nat.le_trans h.kl hl.lenAll, hr, ?_⟩
    · show (m.all ++ [s]).Nodup
      rw [List.nodup_append]
      refine ⟨h.nd, by simp, fun a ha b hb => ?_⟩
      simp at hb; subst hb
      intro e9; subst e9; exact hs ha
    · show (m.bad || decide (1200 < m.all.length + 1)) = true ↔ (1200 < (m.all ++ [s]).length ∨ _)
      rw [Bool.or_eq_true, h.bad, decide_eq_true_eq, List.length_append, List.length_singleton]
      constructor
      · rintro ((h1 | h1) | h1)
        · exact .inl (by omega)
        · exact .inr h1
        · exact .inl h1
      · rintro (h1 | h1)
        · exact .inr h1
        · exact .inl (.inr h1)
theorem MkOk.addT {m : Mk S} {k : Nat} (h : MkOk step fin first m k) (t : Bs) : MkOk step fin first (m.addT t) k := by
  have hl := m.addT_le t
  have hr := h.rowsLe hl
  by_cases hs : t ∈ m.texts
  · have e : m.addT t = m := by unfold Mk.addT; rw [if_pos hs]
    rw [e]; exact h
  · have e : m.addT t = { m with texts := m.texts ++ [t], bad := (m.bad || decide (4096 < m.texts.length + 1)) || decide (4096 < t.length) } := by unfold Mk.addT; rw [if_neg hs]
    rw [e] at hl hr ⊢
    refine ⟨h.nd, ?_, h.f0, Nat.lt_of_lt_of_le h.t0 hl.lenText, h.nl, h.pl, h.el, h.kl, hr, ?_⟩
    · show (m.texts ++ [t]).Nodup
      rw [List.nodup_append]
      refine ⟨h.tnd, by simp, fun a ha b hb => ?_⟩
      simp at hb; subst hb
      intro e9; subst e9; exact hs ha
    · show ((m.bad || decide (4096 < m.texts.length + 1)) || decide (4096 < t.length)) = true ↔ (_ ∨ 4096 < (m.texts ++ [t]).length ∨ ∃ u ∈ m.texts ++ [t], _)
      rw [Bool.or_eq_true, Bool.or_eq_true, h.bad, decide_eq_true_eq, decide_eq_true_eq, List.length_append, List.length_singleton]
      constructor
      · rintro (((h1 | h1 | ⟨u, hu, h1⟩) | h1) | h1)
        · exact .inl h1
        · exact .inr (.inl (by omega))
        · exact .inr (.inr ⟨u, by simp [hu], h1⟩)
        · exact .inr (.inl h1)
        · exact .inr (.inr ⟨t, by simp, h1⟩)
      · rintro (h1 | h1 | ⟨u, hu, h1⟩)
        · exact .inl (.inl (.inl h1))
        · exact .inl (.inr h1)
        · rcases List.mem_append.1 hu with hu | hu
          · exact .inl (.inl (.inr (.inr ⟨u, hu, h1⟩)))
          · simp at hu; subst hu; exact .inr h1
theorem getD_app {l r : List Int} {j : Nat} (h : j < l.length) : (l ++ r).getD j 0 = l.getD j 0 := by
  rw [List.getD_eq_getElem?_getD, List.getElem?_append_left h, ← List.getD_eq_getElem?_getD]
/-- one byte more of a row -/
theorem RowOk.snoc [DecidableEq S] {m : Mk S} {s : S} {nx pt : List Int} {k : Nat} (h : RowOk step m s nx pt k) (hk : k < 256) :
    RowOk step ((m.addS (step s (UInt8.ofNat k)).2).addT (cutB (step s (UInt8.ofNat k)).1 (UInt8.ofNat k))) s
      (nx ++ [((plc (m.addS (step s (UInt8.ofNat k)).2).all (step s (UInt8.ofNat k)).2 : Nat) : Int)])
      (pt ++ [2 * ((plc ((m.addS (step s (UInt8.ofNat k)).2).addT (cutB (step s (UInt8.ofNat k)).1 (UInt8.ofNat k))).texts (cutB (step s (UInt8.ofNat k)).1 (UInt8.ofNat k)) : Nat) : Int) + oddN (step s (UInt8.ofNat k)).1 (UInt8.ofNat k)]) (k + 1) := by
  obtain ⟨c, hc⟩ : ∃ c, c = UInt8.ofNat k := ⟨_, rfl⟩
  rw [← hc]
  obtain ⟨m1, hm1⟩ : ∃ m1, m1 = m.addS (step s c).2 := ⟨_, rfl⟩
  obtain ⟨t, ht⟩ : ∃ t, t = cutB (step s c).1 c := ⟨_, rfl⟩
  rw [← hm1, ← ht]
  have l1 : m.Le m1 := by rw [hm1]; exact m.addS_le _
  have l2 := m1.addT_le t
  have h2 := h.le (l1.trans l2)
  refine ⟨by simp [h.nl], by simp [h.pl], fun j hj => ?_⟩
  by_cases e : j < k
  · rw [getD_app (by rw [h.nl]; exact e), getD_app (by rw [h.pl]; exact e)]
    exact h2.cell j e
  · obtain rfl : j = k := by omega
    rw [← hc]
    have g1 : (nx ++ [((plc m1.all (step s c).2 : Nat) : Int)]).getD j 0 = ((plc m1.all (step s c).2 : Nat) : Int) := by
      rw [List.getD_eq_getElem?_getD, List.getElem?_append_right (by rw [h.nl]; exact Nat.le_refl _), h.nl]; simp
    have g2 : (pt ++ [2 * ((plc (m1.addT t).texts t : Nat) : Int) + oddN (step s c).1 c]).getD j 0 = 2 * ((plc (m1.addT t).texts t : Nat) : Int) + oddN (step s c).1 c := by
      rw [List.getD_eq_getElem?_getD, List.getElem?_append_right (by rw [h.pl]; exact Nat.le_refl _), h.pl]; simp
    rw [g1, g2]
    obtain ⟨x, hx⟩ : ∃ x, x = plc (m1.addT t).texts t := ⟨_, rfl⟩
    have hxl : (m1.addT t).texts[x]? = some t := by rw [hx]; exact plc_get (m1.mem_addT t)
    rw [← hx]
    have hodd : oddN (step s c).1 c = 0 ∨ oddN (step s c).1 c = 1 := by unfold oddN; split <;> simp
    have e2 : (2 * (x : Int) + oddN (step s c).1 c).toNat / 2 = x := by omega
    refine ⟨by omega, ?_, by omega, ?_, ?_⟩
    · rw [Int.toNat_natCast]
      refine l2.getAll ?_
      rw [hm1]
      exact plc_get (m.mem_addS _)
    · rw [e2]; exact (List.getElem?_eq_some_iff.1 hxl).1
    · unfold putT
      rw [e2, List.getD_eq_getElem?_getD, hxl, Option.getD_some, ht]
      have e3 : (2 * (x : Int) + oddN (step s c).1 c).toNat % 2 = 1 ↔ oddB (step s c).1 c = true := by
        unfold oddN
        by_cases h9 : oddB (step s c).1 c = true
        · rw [if_pos h9]; simp [h9]; omega
        · rw [if_neg h9]; simp [h9]; omega
      have e4 := cut_back (step s c).1 c
      by_cases h9 : oddB (step s c).1 c = true
      · rw [if_pos (e3.2 h9)]; rw [if_pos h9] at e4; exact e4
      · rw [if_neg (fun h8 => h9 (e3.1 h8))]; rw [if_neg h9] at e4; exact e4
end
end Go.Proofs.Ythjnkpoalbddkaa
