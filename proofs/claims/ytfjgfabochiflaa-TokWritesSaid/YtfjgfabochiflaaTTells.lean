/- Rules in a map from From to To, and as plain lists. -/
import Derived.Test.YtfjgfabochiflaaTRRight
import Derived.Test.YtfjgfabochiflaaTRPlain
import Derived.Maps.StringElems
import Derived.Laws.Strings2
import Derived.Laws.IdiomStrings
namespace Go.Proofs.Ytfjgfabochiflaa.T12
open Go.RowKit Go.Maps Go.WideMaps

def rulesOf (l : List SR) : List Rule := l.map fun r => (r.1.data.toList, r.2.data.toList)
def toF (l : List SR) : Nat → Bs → Option ByteArray
  | 0 => fun _ => none
  | k + 1 => fun x => if x = (l.getD k noRule).1.data.toList then some (l.getD k noRule).2 else toF l k x
theorem toF_some {l : List SR} {x : Bs} {u : ByteArray} : ∀ {k : Nat}, toF l k x = some u → ∃ j, j < k ∧ (l.getD j noRule).1.data.toList = x ∧ (l.getD j noRule).2 = u
  | 0, h => by cases h
  | k + 1, h => by
    unfold toF at h
    split at h
    · rename_i hx
      exact ⟨k, by omega, hx.symm, by injection h⟩
    · obtain ⟨j, hj, h1, h2⟩ := toF_some h
      exact ⟨j, by omega, h1, h2⟩
theorem toF_none {l : List SR} {x : Bs} : ∀ {k : Nat}, toF l k x = none → ∀ j, j < k → (l.getD j noRule).1.data.toList ≠ x
  | 0, _, j, hj => absurd hj (by omega)
  | k + 1, h, j, hj => by
    unfold toF at h
    split at h
    · cases h
    · rename_i hx
      by_cases e : j = k
      · subst e; exact fun h' => hx h'.symm
      · exact toF_none h j (by omega)

def Tells {H : Type} (D : DataW H) (F : Bs → Option ByteArray) : Prop :=
  IsMap D ∧ ∀ x, Maps.has D (litS x) = (F x).isSome ∧ ∀ z, D.atKey (litS x) z = match F x with | some u => .lit (.string u.data.toList) | none => z
theorem litS_key (x : Bs) : WideAt.IsKeyLit (litS x) := trivial
theorem litS_inj {x y : Bs} (h : litS x = litS y) : x = y := by injection h
theorem tells_empty {H : Type} : Tells (.map [] : DataW H) (fun _ => none) := ⟨isMap_empty, fun _ => ⟨rfl, fun _ => rfl⟩⟩
theorem tells_put {H : Type} {D : DataW H} {F : Bs → Option ByteArray} (h : Tells D F) (x : Bs) (u : ByteArray) :
    Tells (D.put (litS x) (.lit (.string u.data.toList))) (fun y => if y = x then some u else F y) := by
  refine ⟨h.1.put _ _, fun y => ?_⟩
  dsimp only
  by_cases e : y = x
  · subst e
    rw [if_pos rfl]
    exact ⟨has_put_same h.1 (litS_key _) _, fun z => atKey_put_same h.1 (litS_key _) _ _⟩
  · have hne : litS y ≠ litS x := fun hk => e (litS_inj hk)
    rw [if_neg e]
    refine ⟨?_, fun z => ?_⟩
    · rw [has_put_other hne]; exact (h.2 y).1
    · rw [atKey_put_other hne]; exact (h.2 y).2 z
theorem zero9 (w : World) : (zeroValue 9).run Try.prog w = .ok (.string ⟨#[]⟩) w := by kernel_rfl
def orNone : Option ByteArray → ByteArray | some u => u | none => ⟨#[]⟩
theorem tells_lookup {w : World} {g n : Nat} {D : DataW Unit} {F : Bs → Option ByteArray} (hown : w.ownsMap Try.prog 9 (plainElem Try.prog 9) g n D) (hR : Tells D F) (s : ByteArray) (hs : s.size ≤ maxLen) :
    (Instr.lookup 112 (.map (some g)) (.string s) true).run Try.prog w = .ok (.tuple #[.string (orNone (F s.data.toList)), .bool (F s.data.toList).isSome]) w := by
  obtain ⟨v, ps, hrun, hv⟩ := hown.look_ok (string_keyed Try.underlying9) Try.underlying112 (zero9 w) (plainElem_string Try.underlying9 (by decide)) (keyOf_string_mk Try.underlying9 hs)
  obtain ⟨c, rfl, hc, _⟩ := plainElem_string_inv Try.underlying9 hv
  simp only [Prod.mk.injEq] at hc
  obtain ⟨hh, hat⟩ := hR.2 s.data.toList
  rw [hrun, show Maps.has D (.string s.data.toList) = (F s.data.toList).isSome from hh]
  have h1 := hc.1
  rw [show D.atKey (.string s.data.toList) = D.atKey (litS s.data.toList) from rfl, hat] at h1
  cases hF : F s.data.toList with
  | none =>
    rw [hF] at h1
    have : c = ⟨#[]⟩ := str_ext (by simpa using h1.symm)
    rw [this]; rfl
  | some u =>
    rw [hF] at h1
    have : c = u := str_ext (by simpa using h1.symm)
    rw [this]; rfl

/-- all rules may be -/
def AllOk (l : List SR) : Prop := l.length ≤ 64 ∧ ∀ k, k < l.length → OkR l k
theorem allOk_of {l : List SR} (h : rightE l = 0) : AllOk l := by
  unfold rightE at h
  split at h
  · cases h
  · split at h
    · rename_i h1 h2; exact ⟨by omega, h2⟩
    · cases h
theorem mem_rulesOf {l : List SR} {r : Rule} : r ∈ rulesOf l ↔ ∃ k, k < l.length ∧ r = ((l.getD k noRule).1.data.toList, (l.getD k noRule).2.data.toList) := by
  unfold rulesOf
  rw [List.mem_map]
  constructor
  · rintro ⟨q, hq, rfl⟩
    obtain ⟨k, hk, rfl⟩ := List.getElem_of_mem hq
    exact ⟨k, hk, by simp [hk]⟩
  · rintro ⟨k, hk, rfl⟩
    exact ⟨l.getD k noRule, by simp [hk], rfl⟩
theorem size_data (s : ByteArray) : s.data.toList.length = s.size := by rw [Array.length_toList]; rfl
theorem AllOk.fit {l : List SR} (h : AllOk l) : Fit (rulesOf l) where
  some r hr := by
    obtain ⟨k, hk, rfl⟩ := mem_rulesOf.mp hr
    have := (h.2 k hk).some
    intro e
    have h2 : (l.getD k noRule).1.size = 0 := by rw [← size_data]; exact congrArg List.length e
    omega
  once r hr q hq e := by
    obtain ⟨k, hk, rfl⟩ := mem_rulesOf.mp hr
    obtain ⟨j, hj, rfl⟩ := mem_rulesOf.mp hq
    have e' := str_ext e
    have : k = j := by
      rcases Nat.lt_trichotomy k j with h1 | h1 | h1
      · exact absurd e' ((h.2 j hj).once k h1)
      · exact h1
      · exact absurd e'.symm ((h.2 k hk).once j h1)
    rw [this]
theorem AllOk.best {l : List SR} (h : AllOk l) {rest : Bs} {m : Nat} (hm : m ≤ rest.length) (hmost : ∀ r ∈ rulesOf l, r.1 <+: rest → r.1.length ≤ m) {u : ByteArray} (hu : toF l l.length (rest.take m) = some u) :
    ∃ r, Best (rulesOf l) rest r ∧ r.1.length = m ∧ r.2 = u.data.toList ∧ u.size ≤ 32 := by
  obtain ⟨j, hj, h1, rfl⟩ := toF_some hu
  have hl : (l.getD j noRule).1.data.toList.length = m := by rw [h1]; simp; omega
  exact ⟨_, ⟨mem_rulesOf.mpr ⟨j, hj, rfl⟩, by show (l.getD j noRule).1.data.toList <+: rest; rw [h1]; exact List.take_prefix _ _, fun q hq hp => by show _ ≤ (l.getD j noRule).1.data.toList.length; rw [hl]; exact hmost q hq hp⟩, hl, rfl, (h.2 j hj).few2⟩
theorem most_less {l : List SR} {rest : Bs} {m : Nat} (hmost : ∀ r ∈ rulesOf l, r.1 <+: rest → r.1.length ≤ m) (hu : toF l l.length (rest.take m) = none) : ∀ r ∈ rulesOf l, r.1 <+: rest → r.1.length ≤ m - 1 := fun r hr hp => by
  have h1 := hmost r hr hp
  by_cases e : r.1.length = m
  · exfalso
    obtain ⟨k, hk, rfl⟩ := mem_rulesOf.mp hr
    refine toF_none hu k hk ?_
    have h3 := List.prefix_iff_eq_take.mp hp
    rw [e] at h3
    exact h3
  · omega
theorem none_of {l : List SR} (h : AllOk l) {rest : Bs} (hmost : ∀ r ∈ rulesOf l, r.1 <+: rest → r.1.length ≤ 0) : None (rulesOf l) rest := fun r hr hp => by
  have h1 := hmost r hr hp
  exact h.fit.some r hr (List.eq_nil_of_length_eq_zero (by omega))
theorem piece_list (s : ByteArray) (a m : Nat) : (s.extract a (a + m)).data.toList = (s.data.toList.drop a).take m := by
  simp [ByteArray.data_extract, List.take_drop]
theorem piece_size (s : ByteArray) (a m : Nat) (h : a + m ≤ s.size) : (s.extract a (a + m)).size = m := by
  rw [← size_data, piece_list, List.length_take, List.length_drop, size_data]; omega
theorem slice_piece (s : ByteArray) (a m : Nat) (h : a + m ≤ s.size) (W : World) : (Instr.slice 9 (.string s) (some (.int .i64 (a : Int))) (some (.int .i64 ((a : Int) + (m : Int)))) none).run Try.prog W = .ok (.string (s.extract a (a + m))) W := by
  rw [run_slice_string W 9 s .i64 .i64 _ _ Try.underlying9 (by omega) (by omega) (by omega)]
  congr 3
theorem index_byte (s : ByteArray) (k : Nat) (h : k < s.size) : ∃ (c : UInt8) (t : Bs), s.data.toList.drop k = c :: t ∧ s.data.toList.drop (k + 1) = t ∧ ∀ W, (Instr.index 9 (.string s) (.int .i64 (k : Int))).run Try.prog W = .ok (.int .u8 (c.toNat : Int)) W := by
  have h' : k < s.data.toList.length := by rw [size_data]; exact h
  refine ⟨s[k], s.data.toList.drop (k + 1), ?_, rfl, fun W => ?_⟩
  · rw [List.drop_eq_getElem_cons h']; congr 1
  · rw [run_index_string W 9 s .i64 _ Try.underlying9, dif_pos ⟨by omega, by omega⟩]
    simp
end Go.Proofs.Ytfjgfabochiflaa.T12
