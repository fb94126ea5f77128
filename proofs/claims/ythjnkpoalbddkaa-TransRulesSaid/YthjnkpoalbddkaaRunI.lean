/- What holds while a maker runs. Plain. -/
import Derived.Test.YthjnkpoalbddkaaMkEnd
namespace Go.Proofs.Ythjnkpoalbddkaa
section
variable {S : Type} (step : S → UInt8 → Bs × S) (fin : S → Bs) (first : S) (Ok : S → Prop) (lg : S → UInt8 → Bool) (lge : S → Bool)
/-- a text that a run may lay down -/
def TxOf (t : Bs) : Prop := t = [] ∨ ∃ s, Ok s ∧ ((∃ c, t = cutB (step s c).1 c) ∨ t = fin s)
structure RunI (m : Mk S) (k c : Nat) (fl : Bool) : Prop where
  ok : MkOk step fin first m k
  mem : ∀ s ∈ m.all, Ok s
  tl : m.texts.length ≤ 1 + 257 * k + c
  tx : ∀ t ∈ m.texts, TxOf step fin Ok t
  done : fl = false → ∀ i s, i < k → m.all[i]? = some s → (∀ c, lg s c = false) ∧ lge s = false
  now : fl = false → ∀ s, m.all[k]? = some s → ∀ j, j < c → lg s (UInt8.ofNat j) = false
variable {step fin first Ok lg lge}
theorem addT_len (m : Mk S) (t : Bs) : (m.addT t).texts.length ≤ m.texts.length + 1 := by
  unfold Mk.addT; split
  · omega
  · simp
theorem addT_mem {m : Mk S} {t u : Bs} (h : u ∈ (m.addT t).texts) : u ∈ m.texts ∨ u = t := by
  unfold Mk.addT at h; split at h
  · exact .inl h
  · simpa using h
theorem addS_mem [DecidableEq S] {m : Mk S} {s u : S} (h : u ∈ (m.addS s).all) : u ∈ m.all ∨ u = s := by
  unfold Mk.addS at h; split at h
  · exact .inl h
  · simpa using h
theorem addS_texts [DecidableEq S] (m : Mk S) (s : S) : (m.addS s).texts = m.texts := by unfold Mk.addS; split <;> rfl
theorem addT_all (m : Mk S) (t : Bs) : (m.addT t).all = m.all := by unfold Mk.addT; split <;> rfl
theorem addS_len [DecidableEq S] (m : Mk S) (s : S) : (m.addS s).all.length ≤ m.all.length + 1 := by
  unfold Mk.addS; split
  · omega
  · simp
theorem RunI.start [DecidableEq S] (h : Ok first) : RunI step fin first Ok lg lge (((⟨[], [], [], [], [], false⟩ : Mk S).addS first).addT []) 0 0 false := by
  have h0 := MkOk.start (step := step) (fin := fin) first
  refine ⟨h0, fun s hs => ?_, ?_, fun t ht => ?_, fun _ i s hi _ => absurd hi (by omega), fun _ s _ j hj => absurd hj (by omega)⟩
  · rw [addT_all] at hs
    rcases addS_mem hs with hs | hs
    · cases hs
    · rw [hs]; exact h
  · have := addT_len ((⟨[], [], [], [], [], false⟩ : Mk S).addS first) []
    rw [addS_texts] at this
    simp at this; omega
  · rcases addT_mem ht with ht | ht
    · rw [addS_texts] at ht; cases ht
    · exact .inl ht
theorem RunI.round [DecidableEq S] {m : Mk S} {k c : Nat} {fl : Bool} (h : RunI step fin first Ok lg lge m k c fl) (hok : ∀ s c, Ok s → Ok (step s c).2) {s : S} (hs : m.all[k]? = some s) :
    RunI step fin first Ok lg lge ((m.addS (step s (UInt8.ofNat c)).2).addT (cutB (step s (UInt8.ofNat c)).1 (UInt8.ofNat c))) k (c + 1) (fl || lg s (UInt8.ofNat c)) := by
  have l1 := m.addS_le (step s (UInt8.ofNat c)).2
  have l2 := (m.addS (step s (UInt8.ofNat c)).2).addT_le (cutB (step s (UInt8.ofNat c)).1 (UInt8.ofNat c))
  have hl := l1.trans l2
  have hsm : Ok s := h.mem s (List.mem_of_getElem? hs)
  have hkl : k < m.all.length := (List.getElem?_eq_some_iff.1 hs).1
  refine ⟨(h.ok.addS _).addT _, fun u hu => ?_, ?_, fun t ht => ?_, fun hf i u hi hu => ?_, fun hf u hu j hj => ?_⟩
  · rw [addT_all] at hu
    rcases addS_mem hu with hu | hu
    · exact h.mem u hu
    · rw [hu]; exact hok _ _ hsm
  · have := addT_len (m.addS (step s (UInt8.ofNat c)).2) (cutB (step s (UInt8.ofNat c)).1 (UInt8.ofNat c))
    rw [addS_texts] at this
    have := h.tl
    omega
  · rcases addT_mem ht with ht | ht
    · rw [addS_texts] at ht; exact h.tx t ht
    · exact .inr ⟨s, hsm, .inl ⟨_, ht⟩⟩
  · rw [Bool.or_eq_false_iff] at hf
    have h1 := List.getElem?_eq_getElem (show i < m.all.length by omega)
    have h2 := hl.getAll h1
    rw [h2] at hu
    injection hu with hu
    subst hu
    exact h.done hf.1 i _ hi h1
  · rw [Bool.or_eq_false_iff] at hf
    rw [hl.getAll hs] at hu
    injection hu with hu
    subst hu
    by_cases e : j < c
    · exact h.now hf.1 _ hs j e
    · obtain rfl : j = c := by omega
      exact hf.2
theorem RunI.whole {m : Mk S} {k : Nat} {fl : Bool} (h : RunI step fin first Ok lg lge m k 256 fl) {s : S} {nx pt : List Int} (hs : m.all[k]? = some s) (hr : RowOk step m s nx pt 256) :
    RunI step fin first Ok lg lge (((m.rowed nx pt).addT (fin s)).ended (plc ((m.rowed nx pt).addT (fin s)).texts (fin s) : Nat)) (k + 1) 0 (fl || lge s) := by
  have hsm : Ok s := h.mem s (List.mem_of_getElem? hs)
  have e1 : ((m.rowed nx pt).addT (fin s)).all = m.all := by rw [addT_all]; rfl
  refine ⟨h.ok.whole hs hr, fun u hu => ?_, ?_, fun t ht => ?_, fun hf i u hi hu => ?_, fun hf u hu j hj => absurd hj (by omega)⟩
  · exact h.mem u (e1 ▸ hu)
  · show ((m.rowed nx pt).addT (fin s)).texts.length ≤ _
    have := addT_len (m.rowed nx pt) (fin s)
    have h9 : (m.rowed nx pt).texts = m.texts := rfl
    rw [h9] at this
    have := h.tl
    omega
  · rcases addT_mem (m := m.rowed nx pt) ht with ht | ht
    · exact h.tx t ht
    · exact .inr ⟨s, hsm, .inr ht⟩
  · rw [Bool.or_eq_false_iff] at hf
    have hu : m.all[i]? = some u := by rw [← e1]; exact hu
    by_cases e : i < k
    · exact h.done hf.1 i _ e hu
    · obtain rfl : i = k := by omega
      rw [hs] at hu
      injection hu with hu
      subst hu
      refine ⟨fun c => ?_, hf.2⟩
      have := h.now hf.1 _ hs c.toNat c.toNat_lt
      simpa using this
/-- the texts are few -/
theorem RunI.few {m : Mk S} {k c : Nat} {fl : Bool} (h : RunI step fin first Ok lg lge m k c fl) (hk : k < m.all.length ∧ c ≤ 256 ∨ c = 0) : m.texts.length ≤ 1 + 257 * m.all.length := by
  have := h.tl
  have := h.ok.kl
  omega
/-- with few states and short texts nothing is too much -/
theorem RunI.fits {m : Mk S} {k c : Nat} {fl : Bool} (h : RunI step fin first Ok lg lge m k c fl) (hk : k < m.all.length ∧ c ≤ 256 ∨ c = 0) (h1 : m.all.length ≤ 15) (h2 : ∀ s, Ok s → (∀ c, (step s c).1.length ≤ 4096) ∧ (fin s).length ≤ 4096) : m.bad = false := by
  have hf := h.few hk
  cases hb : m.bad with
  | false => rfl
  | true =>
    exfalso
    rcases h.ok.bad.1 hb with h9 | h9 | ⟨t, ht, h9⟩
    · omega
    · omega
    · rcases h.tx t ht with rfl | ⟨s, hs, ⟨c, rfl⟩ | rfl⟩
      · simp at h9
      · have := (h2 s hs).1 c
        have := cutB_len (step s c).1 c
        omega
      · have := (h2 s hs).2
        omega
end
end Go.Proofs.Ythjnkpoalbddkaa
