/- A machine that is made state by state: its beginning, a state more, and what it does. Plain. -/
import Derived.Test.YthjnkpoalbddkaaMkPlain
namespace Go.Proofs.Ythjnkpoalbddkaa
section
variable {S : Type} {step : S → UInt8 → Bs × S} {fin : S → Bs} {first : S}
theorem MkOk.start [DecidableEq S] (s : S) : MkOk step fin s (((⟨[], [], [], [], [], false⟩ : Mk S).addS s).addT []) 0 := by
  have e1 : (⟨[], [], [], [], [], false⟩ : Mk S).addS s = ⟨[s], [], [], [], [], false⟩ := by unfold Mk.addS; rw [if_neg (by simp)]; simp
  have e2 : (⟨[s], [], [], [], [], false⟩ : Mk S).addT [] = ⟨[s], [[]], [], [], [], false⟩ := by unfold Mk.addT; rw [if_neg (by simp)]; simp
  rw [e1, e2]
  refine ⟨by simp, by simp, rfl, by simp, rfl, rfl, rfl, by simp, fun i hi => absurd hi (by omega), ?_⟩
  simp
/-- a state is whole: its rows and its end -/
def Mk.rowed (m : Mk S) (nx pt : List Int) : Mk S := { m with next := m.next ++ [nx], put := m.put ++ [pt] }
def Mk.ended (m : Mk S) (e : Int) : Mk S := { m with ends := m.ends ++ [e] }
theorem getD_end {α : Type} {l : List α} {x d : α} {k : Nat} (h : l.length = k) : (l ++ [x]).getD k d = x := by
  subst h; simp
theorem getD_pre {α : Type} {l r : List α} {d : α} {k : Nat} (h : k < l.length) : (l ++ r).getD k d = l.getD k d := by
  rw [List.getD_eq_getElem?_getD, List.getElem?_append_left h, ← List.getD_eq_getElem?_getD]
theorem MkOk.whole {m : Mk S} {k : Nat} (h : MkOk step fin first m k) {s : S} {nx pt : List Int} (hs : m.all[k]? = some s) (hr : RowOk step m s nx pt 256) :
    MkOk step fin first ((((m.rowed nx pt)).addT (fin s)).ended (plc ((m.rowed nx pt).addT (fin s)).texts (fin s) : Nat)) (k + 1) := by
  have hl := m.addT_le (fin s)
  have hT := h.addT (fin s)
  have e1 : ((m.rowed nx pt).addT (fin s)).all = (m.addT (fin s)).all := by unfold Mk.addT Mk.rowed; split <;> rfl
  have e2 : ((m.rowed nx pt).addT (fin s)).texts = (m.addT (fin s)).texts := by unfold Mk.addT Mk.rowed; split <;> rfl
  have e3 : ((m.rowed nx pt).addT (fin s)).bad = (m.addT (fin s)).bad := by unfold Mk.addT Mk.rowed; split <;> rfl
  have e4 : ((m.rowed nx pt).addT (fin s)).next = m.next ++ [nx] := ((m.rowed nx pt).addT_le (fin s)).next
  have e5 : ((m.rowed nx pt).addT (fin s)).put = m.put ++ [pt] := ((m.rowed nx pt).addT_le (fin s)).put
  have e6 : ((m.rowed nx pt).addT (fin s)).ends = m.ends := ((m.rowed nx pt).addT_le (fin s)).ends
  obtain ⟨q, hq⟩ : ∃ q, q = (m.rowed nx pt).addT (fin s) := ⟨_, rfl⟩
  have hmem : fin s ∈ q.texts := by rw [hq]; exact (m.rowed nx pt).mem_addT (fin s)
  rw [← hq] at e1 e2 e3 e4 e5 e6 ⊢
  have hall : (m.addT (fin s)).all = m.all := by unfold Mk.addT; split <;> rfl
  have hcell : ∀ {s' : S} {c : UInt8} {x p : Int}, CellOk step m s' c x p → CellOk step (q.ended (plc q.texts (fin s) : Nat)) s' c x p := fun {s' c x p} hc => by
    have := hc.le hl
    refine ⟨this.n0, ?_, this.p0, ?_, ?_⟩
    · show q.all[_]? = _; rw [e1]; exact this.ns
    · show _ < q.texts.length; rw [e2]; exact this.pl
    · show putT q.texts p c = _; rw [e2]; exact this.ps
  have hrow : ∀ {s' : S} {x p : List Int}, RowOk step m s' x p 256 → RowOk step (q.ended (plc q.texts (fin s) : Nat)) s' x p 256 := fun {s' x p} hc => ⟨hc.nl, hc.pl, fun c hc2 => hcell (hc.cell c hc2)⟩
  refine ⟨?_, ?_, ?_, ?_, ?_, ?_, ?_, ?_, fun i hi => ?_, ?_⟩
  · show q.all.Nodup; rw [e1]; exact hT.nd
  · show q.texts.Nodup; rw [e2]; exact hT.tnd
  · show q.all[0]? = _; rw [e1]; exact hT.f0
  · show 0 < q.texts.length; rw [e2]; exact hT.t0
  · show q.next.length = _; rw [e4]; simp [h.nl]
  · show q.put.length = _; rw [e5]; simp [h.pl]
  · show (q.ends ++ [_]).length = _; rw [e6]; simp [h.el]
  · show k + 1 ≤ q.all.length
    rw [e1, hall]
    have := (List.getElem?_eq_some_iff.1 hs).1
    omega
  · show ∃ s', q.all[i]? = some s' ∧ RowOk step (q.ended (plc q.texts (fin s) : Nat)) s' (q.next.getD i []) (q.put.getD i []) 256 ∧ 0 ≤ (q.ends ++ [((plc q.texts (fin s) : Nat) : Int)]).getD i 0 ∧ q.texts[((q.ends ++ [((plc q.texts (fin s) : Nat) : Int)]).getD i 0).toNat]? = some (fin s')
    rw [e4, e5, e6, e1, hall]
    by_cases e : i < k
    · obtain ⟨s', h1, h2, h3, h4⟩ := h.rows i e
      rw [getD_pre (by rw [h.nl]; exact e), getD_pre (by rw [h.pl]; exact e), getD_pre (by rw [h.el]; exact e)]
      exact ⟨s', h1, hrow h2, h3, by rw [e2]; exact hl.getText h4⟩
    · obtain rfl : i = k := by omega
      rw [getD_end h.nl, getD_end h.pl, getD_end h.el]
      exact ⟨s, hs, hrow hr, by omega, by rw [Int.toNat_natCast]; exact plc_get hmem⟩
  · show q.bad = true ↔ (1200 < q.all.length ∨ 4096 < q.texts.length ∨ ∃ t ∈ q.texts, 4096 < t.length)
    rw [e3, e1, e2]
    exact hT.bad
/-- the machine -/
def Mk.mach (m : Mk S) : Mach := ⟨m.next, m.put, m.ends, m.texts.map fun t => ⟨t.toArray⟩⟩
/-- what steps make of a text: what is put, and the thing behind it -/
def runS (step : S → UInt8 → Bs × S) (first : S) (s : Bs) : Bs × S := s.foldl (fun x c => (x.1 ++ (step x.2 c).1, (step x.2 c).2)) ([], first)
theorem runS_snoc (s : Bs) (c : UInt8) : runS step first (s ++ [c]) = ((runS step first s).1 ++ (step (runS step first s).2 c).1, (step (runS step first s).2 c).2) := by
  unfold runS; rw [List.foldl_append]; rfl
theorem textOf_mach (m : Mk S) (i : Nat) : (textOf m.mach i).data.toList = m.texts.getD i [] := by
  unfold textOf Mk.mach
  simp only [List.getD_eq_getElem?_getD, List.getElem?_map]
  cases m.texts[i]? with
  | none => rfl
  | some t => simp
theorem MkOk.cellAt {m : Mk S} (h : MkOk step fin first m m.all.length) {i : Nat} {s : S} (hi : m.all[i]? = some s) (c : UInt8) : CellOk step m s c ((m.next.getD i []).getD c.toNat 0) ((m.put.getD i []).getD c.toNat 0) := by
  have hl := (List.getElem?_eq_some_iff.1 hi).1
  obtain ⟨s', h1, h2, _, _⟩ := h.rows i hl
  rw [hi] at h1
  injection h1 with h1
  subst h1
  have := h2.cell c.toNat c.toNat_lt
  rwa [UInt8.ofNat_toNat] at this
theorem MkOk.out {m : Mk S} (h : MkOk step fin first m m.all.length) {i : Nat} {s : S} (hi : m.all[i]? = some s) (c : UInt8) : outT m.mach i c = (step s c).1 ∧ m.all[nextS m.mach i c]? = some (step s c).2 := by
  have hc := h.cellAt hi c
  refine ⟨?_, hc.ns⟩
  rw [← hc.ps]
  unfold outT putT
  rw [textOf_mach]
  rfl
theorem MkOk.after {m : Mk S} (h : MkOk step fin first m m.all.length) (s : Bs) : (after m.mach s).1 = (runS step first s).1 ∧ m.all[(after m.mach s).2]? = some (runS step first s).2 := by
  have key : ∀ (n : Nat) (s : Bs), s.length = n → (Go.Proofs.Ythjnkpoalbddkaa.after m.mach s).1 = (runS step first s).1 ∧ m.all[(Go.Proofs.Ythjnkpoalbddkaa.after m.mach s).2]? = some (runS step first s).2 := by
    intro n
    induction n with
    | zero =>
      intro s hs
      obtain rfl := List.length_eq_zero_iff.1 hs
      exact ⟨rfl, h.f0⟩
    | succ n ih =>
      intro s hs
      obtain ⟨t, c, rfl⟩ : ∃ t c, s = t ++ [c] := ⟨s.dropLast, s.getLast (by intro e; subst e; simp at hs), (List.dropLast_concat_getLast _).symm⟩
      have h1 := ih t (by simpa using hs)
      have h2 := h.out h1.2 c
      rw [after_snoc, runS_snoc, h1.1, h2.1]
      exact ⟨rfl, h2.2⟩
  exact key _ s rfl
theorem MkOk.endOf {m : Mk S} (h : MkOk step fin first m m.all.length) {i : Nat} {s : S} (hi : m.all[i]? = some s) : (endText m.mach i).data.toList = fin s := by
  have hl := (List.getElem?_eq_some_iff.1 hi).1
  obtain ⟨s', h1, _, _, h4⟩ := h.rows i hl
  rw [hi] at h1
  injection h1 with h1
  subst h1
  obtain ⟨k, hk⟩ : ∃ k, k = (m.ends.getD i 0).toNat := ⟨_, rfl⟩
  rw [← hk] at h4
  have e := textOf_mach m k
  rw [List.getD_eq_getElem?_getD, h4] at e
  unfold endText
  show (m.mach.texts.getD (m.ends.getD i 0).toNat _).data.toList = _
  rw [← hk]
  exact e
theorem MkOk.total {m : Mk S} (h : MkOk step fin first m m.all.length) (s : Bs) : total m.mach s = (runS step first s).1 ++ fin (runS step first s).2 := by
  have h1 := h.after s
  unfold Go.Proofs.Ythjnkpoalbddkaa.total
  rw [h1.1, h.endOf h1.2]
theorem MkOk.right {m : Mk S} (h : MkOk step fin first m m.all.length) (hb : m.bad = false) : RightM m.mach := by
  have hnb : ¬ (1200 < m.all.length ∨ 4096 < m.texts.length ∨ ∃ t ∈ m.texts, 4096 < t.length) := fun e => by
    have := h.bad.2 e
    rw [hb] at this
    cases this
  have h0 : 0 < m.all.length := (List.getElem?_eq_some_iff.1 h.f0).1
  refine ⟨by show 1 ≤ m.next.length; rw [h.nl]; omega, by show m.next.length ≤ 1200; rw [h.nl]; omega, by show m.put.length = m.next.length; rw [h.nl, h.pl], by show m.ends.length = m.next.length; rw [h.nl, h.el], by show (m.texts.map _).length ≤ 4096; rw [List.length_map]; omega, fun i hi => ?_, fun ⟨j, hj, hl⟩ => ?_⟩
  · have hi2 : i < m.all.length := by have : i < m.next.length := hi; rw [h.nl] at this; exact this
    obtain ⟨s, h1, h2, h3, h4⟩ := h.rows i hi2
    refine ⟨h2.nl, h2.pl, h3, ?_, fun ⟨j, hj, ho⟩ => ?_, fun ⟨j, hj, ho⟩ => ?_⟩
    · show m.ends.getD i 0 < ((m.texts.map _).length : Int)
      rw [List.length_map]
      have := (List.getElem?_eq_some_iff.1 h4).1
      omega
    · have hc := h2.cell j hj
      have h9 := (List.getElem?_eq_some_iff.1 hc.ns).1
      have h8 := hc.n0
      change (m.next.getD i []).getD j 0 < 0 ∨ (m.next.length : Int) ≤ (m.next.getD i []).getD j 0 at ho
      rw [h.nl] at ho
      omega
    · have hc := h2.cell j hj
      have h9 := hc.pl
      have h8 := hc.p0
      change (m.put.getD i []).getD j 0 < 0 ∨ 2 * ((m.texts.map _).length : Int) ≤ (m.put.getD i []).getD j 0 at ho
      rw [List.length_map] at ho
      omega
  · have hj2 : j < m.texts.length := by have : j < (m.texts.map _).length := hj; rwa [List.length_map] at this
    refine hnb (.inr (.inr ⟨m.texts[j], List.getElem_mem hj2, ?_⟩))
    change 4096 < ((m.texts.map fun t => (⟨t.toArray⟩ : ByteArray)).getD j ⟨#[]⟩).size at hl
    rw [List.getD_eq_getElem?_getD, List.getElem?_map, List.getElem?_eq_getElem hj2] at hl
    simpa [ByteArray.size] using hl
end
end Go.Proofs.Ythjnkpoalbddkaa
