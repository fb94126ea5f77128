/- Rules as cells; rules in another order, a rule more. -/
import Derived.Test.YthjnkpoalbddkaaApp
import Derived.Test.YthjnkpoalbddkaaTells
import Derived.Lib.IndexMore
namespace Go.Proofs.Ythjnkpoalbddkaa
open Go.RowKit

def rulesV (l : List SR) : List Value := l.flatMap fun p => [.string p.1, .string p.2]
theorem own_form {w : World} {base : Nat} {e : TypeId} {size : Nat} {v : Value} {n : Nat} {xs : List Value} (h : w.ownsRow base e size v n xs) : ∃ A c, v = .slice A n c := by
  rcases h.2 with ⟨rfl, rfl⟩ | ⟨g, cap, cur, rfl, _⟩
  · exact ⟨none, 0, rfl⟩
  · exact ⟨_, _, rfl⟩
theorem length_rulesV : ∀ l : List SR, (rulesV l).length = l.length * 2
  | [] => rfl
  | p :: l => by
    have := length_rulesV l
    simp only [rulesV, List.flatMap_cons, List.length_append, List.length_cons, List.length_nil] at this ⊢
    omega
theorem rulesV_get : ∀ (l : List SR) (k j : Nat), k < l.length → j < 2 → (rulesV l)[k * 2 + j]? = some (RuleC l k j)
  | p :: l, 0, j, _, hj => by
    match j, hj with
    | 0, _ => simp [rulesV, RuleC]
    | 1, _ => simp [rulesV, RuleC]
  | p :: l, k + 1, j, hk, hj => by
    have ih := rulesV_get l k j (by simpa using hk) hj
    have e : rulesV (p :: l) = [.string p.1, .string p.2] ++ rulesV l := by simp [rulesV]
    rw [e, show (k + 1) * 2 + j = 2 + (k * 2 + j) by omega, List.getElem?_append_right (by simp), show 2 + (k * 2 + j) - [Value.string p.1, .string p.2].length = k * 2 + j by simp, ih]
    simp [RuleC]
theorem rulesV_snoc (l : List SR) (p : SR) : rulesV (l ++ [p]) = rulesV l ++ [.string p.1, .string p.2] := by simp [rulesV, List.flatMap_append]
theorem rulesV_one (l : List SR) : ∀ u ∈ rulesV l, u.oneCell' = true := by
  intro u hu
  simp only [rulesV, List.mem_flatMap] at hu
  obtain ⟨p, _, hp⟩ := hu
  simp at hp
  rcases hp with rfl | rfl <;> rfl

theorem add_eq (b off j : Nat) : (⟨b, off, none⟩ : Addr).add j = ⟨b, off + j, none⟩ := by unfold Addr.add; split <;> simp_all

theorem rules_news {w : World} {B n : Nat} {A : Option Addr} {l : List SR} (h : Arr w B 2 A n (RuleC l)) (hl : l.length = n) : ∀ ad, A = some ad → ∀ j u, (rulesV l)[j]? = some u → w.cell? (ad.add j) = some u := by
  rintro ad rfl j u hj
  have hjl : j < (rulesV l).length := by
    rcases Nat.lt_or_ge j (rulesV l).length with h | h
    · exact h
    · rw [List.getElem?_eq_none h] at hj; cases hj
  rw [length_rulesV] at hjl
  obtain ⟨b, off, e, _, hc⟩ := h (by omega)
  obtain rfl : ad = ⟨b, off, none⟩ := by injection e
  rw [add_eq, show j = j / 2 * 2 + j % 2 by omega, hc (j / 2) (j % 2) (by omega) (by omega)]
  rw [show j = j / 2 * 2 + j % 2 by omega, rulesV_get l _ _ (by omega) (by omega)] at hj
  exact hj

theorem own_rules {w : World} {base : Nat} {v : Value} {n : Nat} {l : List SR} {e : TypeId} (h : w.ownsRow base e 2 v n (rulesV l)) : l.length = n ∧ ∃ A c, v = .slice A n c ∧ Arr w w.heap.size 2 A n (RuleC l) := by
  have hl : l.length = n := by have := h.1; rw [length_rulesV] at this; omega
  obtain ⟨A, c, rfl⟩ := own_form h
  refine ⟨hl, A, c, rfl, fun hn => ?_⟩
  obtain ⟨g, cap, hv, hb, hg⟩ := h.form hn
  simp only [Value.slice.injEq, true_and] at hv
  obtain ⟨rfl, rfl⟩ := hv
  refine ⟨g, 0, rfl, hg, fun k j hk hj => ?_⟩
  have := h.cells (g := g) rfl (k * 2 + j) (RuleC l k j) (rulesV_get l k j (by omega) hj)
  rw [add_eq] at this
  exact this

theorem cells_news {w : World} {g : Nat} {a b : Value} (h0 : w.cell? ⟨g, 0, none⟩ = some a) (h1 : w.cell? ⟨g, 1, none⟩ = some b) : ∀ ad, some (⟨g, 0, none⟩ : Addr) = some ad → ∀ j u, [a, b][j]? = some u → w.cell? (ad.add j) = some u := by
  rintro ad e j u hj
  obtain rfl : (⟨g, 0, none⟩ : Addr) = ad := by injection e
  rw [add_eq]
  match j, hj with
  | 0, hj => simp at hj; subst hj; simpa using h0
  | 1, hj => simp at hj; subst hj; simpa using h1


theorem index_infix : ∀ (s sub : Bs), 0 ≤ Lib.index s sub ↔ sub <:+: s
  | [], sub => by
    unfold Lib.index
    cases sub with
    | nil => simp
    | cons b t => simp
  | b :: l, sub => by
    have ih := index_infix l sub
    have hge := Lib.index_ge l sub
    unfold Lib.index
    by_cases hp : sub.isPrefixOf (b :: l) = true
    · rw [if_pos hp]
      exact ⟨fun _ => (List.isPrefixOf_iff_prefix.mp hp).isInfix, fun _ => Int.le_refl _⟩
    · rw [if_neg hp]
      have hnp : ¬ sub <+: b :: l := fun h => hp (List.isPrefixOf_iff_prefix.mpr h)
      rw [List.infix_cons_iff]
      by_cases hi : Lib.index l sub = -1
      · rw [if_pos (by simpa using hi)]
        constructor
        · intro h; omega
        · rintro (h | h)
          · exact absurd h hnp
          · have := ih.mpr h; omega
      · rw [if_neg (by simpa using hi)]
        constructor
        · intro h; exact .inr (ih.mp (by omega))
        · rintro (h | h)
          · exact absurd h hnp
          · have := ih.mpr h; omega
theorem contains_iff (s sub : Bs) : Lib.contains s sub = true ↔ Stands sub s := by
  unfold Lib.contains Stands
  rw [decide_eq_true_iff]
  exact index_infix s sub

theorem allOk_iff {l : List SR} : AllOk l ↔ l.length ≤ 64 ∧ (∀ r ∈ l, 1 ≤ r.1.size ∧ r.1.size ≤ 16 ∧ r.2.size ≤ 32) ∧ l.Pairwise (fun a b => a.1 ≠ b.1) := by
  have hget : ∀ k (h : k < l.length), l.getD k noRule = l[k] := fun k h => by simp [h]
  constructor
  · rintro ⟨h1, h2⟩
    refine ⟨h1, fun r hr => ?_, ?_⟩
    · obtain ⟨k, hk, rfl⟩ := List.getElem_of_mem hr
      have := h2 k hk
      rw [← hget k hk]
      exact ⟨this.some, this.few, this.few2⟩
    · rw [List.pairwise_iff_getElem]
      intro i j hi hj hij
      rw [← hget i hi, ← hget j hj]
      exact (h2 j hj).once i hij
  · rintro ⟨h1, h2, h3⟩
    refine ⟨h1, fun k hk => ?_⟩
    have := h2 l[k] (List.getElem_mem hk)
    rw [← hget k hk] at this
    refine ⟨this.1, this.2.1, this.2.2, fun j hj => ?_⟩
    rw [hget k hk, hget j (by omega)]
    exact List.pairwise_iff_getElem.mp h3 j k (by omega) hk hj
theorem turned_perm (l : List SR) (b : Nat) : (l.drop b ++ l.take b).Perm l := List.perm_append_comm.trans (List.Perm.of_eq (List.take_append_drop b l))
theorem allOk_perm {l k : List SR} (h : AllOk l) (hp : k.Perm l) : AllOk k := by
  obtain ⟨h1, h2, h3⟩ := allOk_iff.mp h
  exact allOk_iff.mpr ⟨by rw [hp.length_eq]; exact h1, fun r hr => h2 r (hp.mem_iff.mp hr), (hp.pairwise_iff (fun {_ _} h => Ne.symm h)).mpr h3⟩
theorem rules_perm {l k : List SR} (hp : k.Perm l) (r : Rule) : r ∈ rulesOf l ↔ r ∈ rulesOf k := by
  unfold rulesOf
  rw [List.mem_map, List.mem_map]
  exact ⟨fun ⟨q, hq, e⟩ => ⟨q, hp.mem_iff.mpr hq, e⟩, fun ⟨q, hq, e⟩ => ⟨q, hp.mem_iff.mp hq, e⟩⟩
theorem allOk_more {l : List SR} (h : AllOk l) (m : ByteArray) (hn : l.length < 64) (h1 : 1 ≤ m.size) (h2 : m.size ≤ 16) (hno : ∀ r ∈ l, r.1 ≠ m) : AllOk (l ++ [(m, m)]) := by
  obtain ⟨_, a2, a3⟩ := allOk_iff.mp h
  refine allOk_iff.mpr ⟨by simp; omega, fun r hr => ?_, ?_⟩
  · rcases List.mem_append.mp hr with hr | hr
    · exact a2 r hr
    · simp at hr; subst hr; exact ⟨h1, h2, by show m.size ≤ 32; omega⟩
  · rw [List.pairwise_append]
    exact ⟨a3, by simp, fun a ha b hb => by simp at hb; subst hb; exact hno a ha⟩
theorem rulesOf_more (l : List SR) (m : ByteArray) : rulesOf (l ++ [(m, m)]) = rulesOf l ++ [(m.data.toList, m.data.toList)] := by simp [rulesOf]
/-- does any rule's From stand in the text? -/
def AnyIn (l : List SR) (s : Bs) (k : Nat) : Prop := ∃ j, j < k ∧ Stands (l.getD j noRule).1.data.toList s
theorem none_stands {l : List SR} {s : Bs} (h : ¬ AnyIn l s l.length) : ∀ r ∈ rulesOf l, ¬ Stands r.1 s := fun r hr hs => by
  obtain ⟨k, hk, rfl⟩ := mem_rulesOf.mp hr
  exact h ⟨k, hk, hs⟩
theorem same_none {l : List SR} {s o : Bs} (h : Rew (rulesOf l) s o) (hn : ¬ AnyIn l s l.length) : o = s := h.same fun r hr hs => absurd hs (none_stands hn r hr)
theorem same_more {l : List SR} {s o : Bs} {m : ByteArray} (h : Rew (rulesOf (l ++ [(m, m)])) s o) (hn : ¬ AnyIn l s l.length) : o = s := h.same fun r hr hs => by
  rw [rulesOf_more] at hr
  rcases List.mem_append.mp hr with hr | hr
  · exact absurd hs (none_stands hn r hr)
  · simp at hr; subst hr; rfl
theorem rulesV_append (a b : List SR) : rulesV (a ++ b) = rulesV a ++ rulesV b := by simp [rulesV, List.flatMap_append]
end Go.Proofs.Ythjnkpoalbddkaa
