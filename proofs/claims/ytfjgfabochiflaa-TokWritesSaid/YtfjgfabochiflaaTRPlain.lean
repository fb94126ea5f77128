/- Texts that are rewritten by rules: the relation, and its laws. Plain lists of bytes. -/
import Derived.Lib.Hide
namespace Go.Proofs.Ytfjgfabochiflaa.T12

abbrev Bs := List UInt8
abbrev Rule := Bs × Bs

/-- rules that may be: none is empty, each From stands once -/
structure Fit (l : List Rule) : Prop where
  some : ∀ r ∈ l, r.1 ≠ []
  once : ∀ r ∈ l, ∀ q ∈ l, r.1 = q.1 → r = q

/-- the rule that is taken at a text's beginning -/
structure Best (l : List Rule) (s : Bs) (r : Rule) : Prop where
  mem : r ∈ l
  here : r.1 <+: s
  most : ∀ q ∈ l, q.1 <+: s → q.1.length ≤ r.1.length

def None (l : List Rule) (s : Bs) : Prop := ∀ r ∈ l, ¬ r.1 <+: s

inductive Rew (l : List Rule) : Bs → Bs → Prop
  | nil : Rew l [] []
  | hit {s o : Bs} {r : Rule} : Best l s r → Rew l (s.drop r.1.length) o → Rew l s (r.2 ++ o)
  | miss {c : UInt8} {s o : Bs} : None l (c :: s) → Rew l s o → Rew l (c :: s) (c :: o)

theorem Best.eq {l : List Rule} {s : Bs} {r q : Rule} (hf : Fit l) (h : Best l s r) (k : Best l s q) : r = q := by
  refine hf.once r h.mem q k.mem ?_
  have h1 := h.most q k.mem k.here
  have h2 := k.most r h.mem h.here
  have h3 := List.prefix_iff_eq_take.mp h.here
  have h4 := List.prefix_iff_eq_take.mp k.here
  rw [h3, h4, show r.1.length = q.1.length by omega]

theorem Best.not_none {l : List Rule} {s : Bs} {r : Rule} (h : Best l s r) (k : None l s) : False := k r h.mem h.here
theorem Best.not_nil {l : List Rule} {r : Rule} (hf : Fit l) (h : Best l [] r) : False := hf.some r h.mem (List.prefix_nil.mp h.here)

theorem Rew.unique {l : List Rule} (hf : Fit l) {s o : Bs} (h : Rew l s o) : ∀ {o' : Bs}, Rew l s o' → o = o' := by
  induction h with
  | nil =>
    intro o' h'
    cases h' with
    | nil => rfl
    | hit hb _ => exact (hb.not_nil hf).elim
  | hit hb _ ih =>
    intro o' h'
    cases h' with
    | nil => exact (hb.not_nil hf).elim
    | hit hb' h2 =>
      cases hb.eq hf hb'
      rw [ih h2]
    | miss hn _ => exact (hb.not_none hn).elim
  | miss hn _ ih =>
    intro o' h'
    cases h' with
    | hit hb' _ => exact (hb'.not_none hn).elim
    | miss _ h2 => rw [ih h2]

/-- a best one, or none -/
theorem best_or_none (l : List Rule) (s : Bs) : (∃ r, Best l s r) ∨ None l s := by
  induction l with
  | nil => exact .inr fun r h => by cases h
  | cons a t ih =>
    by_cases ha : a.1 <+: s
    · rcases ih with ⟨r, hr⟩ | hn
      · by_cases hle : a.1.length ≤ r.1.length
        · exact .inl ⟨r, List.mem_cons_of_mem _ hr.mem, hr.here, fun q hq hp => by
            rcases List.mem_cons.mp hq with rfl | hq
            · exact hle
            · exact hr.most q hq hp⟩
        · exact .inl ⟨a, List.mem_cons_self, ha, fun q hq hp => by
            rcases List.mem_cons.mp hq with rfl | hq
            · exact Nat.le_refl _
            · have := hr.most q hq hp; omega⟩
      · exact .inl ⟨a, List.mem_cons_self, ha, fun q hq hp => by
          rcases List.mem_cons.mp hq with rfl | hq
          · exact Nat.le_refl _
          · exact (hn q hq hp).elim⟩
    · rcases ih with ⟨r, hr⟩ | hn
      · exact .inl ⟨r, List.mem_cons_of_mem _ hr.mem, hr.here, fun q hq hp => by
          rcases List.mem_cons.mp hq with rfl | hq
          · exact (ha hp).elim
          · exact hr.most q hq hp⟩
      · exact .inr fun q hq hp => by
          rcases List.mem_cons.mp hq with rfl | hq
          · exact ha hp
          · exact hn q hq hp

theorem Rew.total {l : List Rule} (hf : Fit l) : ∀ (n : Nat) (s : Bs), s.length ≤ n → ∃ o, Rew l s o
  | _, [], _ => ⟨[], .nil⟩
  | 0, c :: s, h => by simp at h
  | n + 1, c :: s, h => by
    simp only [List.length_cons] at h
    rcases best_or_none l (c :: s) with ⟨r, hr⟩ | hn
    · have h0 : 0 < r.1.length := List.length_pos_iff.mpr (hf.some r hr.mem)
      obtain ⟨o, ho⟩ := Rew.total hf n ((c :: s).drop r.1.length) (by simp; omega)
      exact ⟨_, .hit hr ho⟩
    · obtain ⟨o, ho⟩ := Rew.total hf n s (by omega)
      exact ⟨_, .miss hn ho⟩

/-- only which rules there are counts -/
theorem Rew.mono {l k : List Rule} {s o : Bs} (h : Rew l s o) (hlk : ∀ r, r ∈ l ↔ r ∈ k) : Rew k s o := by
  induction h with
  | nil => exact .nil
  | hit hb _ ih => exact .hit ⟨(hlk _).mp hb.mem, hb.here, fun q hq hp => hb.most q ((hlk q).mpr hq) hp⟩ ih
  | miss hn _ ih => exact .miss (fun q hq hp => hn q ((hlk q).mpr hq) hp) ih

/-- a text stands in another one -/
def Stands (f s : Bs) : Prop := f <:+: s

/-- a rule more, whose From does not stand in the text, changes nothing -/
theorem Rew.more {l : List Rule} {s o : Bs} (h : Rew l s o) {f t : Bs} (hn : ¬ Stands f s) : Rew (l ++ [(f, t)]) s o := by
  induction h with
  | nil => exact .nil
  | hit hb _ ih =>
    refine .hit ⟨List.mem_append_left _ hb.mem, hb.here, fun q hq hp => ?_⟩ (ih fun hs => hn (hs.trans (List.drop_suffix _ _).isInfix))
    rcases List.mem_append.mp hq with hq | hq
    · exact hb.most q hq hp
    · simp at hq
      subst hq
      exact (hn hp.isInfix).elim
  | miss hm _ ih =>
    refine .miss (fun q hq hp => ?_) (ih fun hs => hn (hs.trans (List.suffix_cons _ _).isInfix))
    rcases List.mem_append.mp hq with hq | hq
    · exact hm q hq hp
    · simp at hq
      subst hq
      exact hn hp.isInfix

/-- where no rule's From stands, but that of rules that change nothing, the text stays -/
theorem Rew.same {l : List Rule} {s o : Bs} (h : Rew l s o) (hs : ∀ r ∈ l, Stands r.1 s → r.2 = r.1) : o = s := by
  induction h with
  | nil => rfl
  | @hit s o r hb _ ih =>
    have h1 := ih fun q hq hp => hs q hq (hp.trans (List.drop_suffix _ _).isInfix)
    rw [h1, hs r hb.mem hb.here.isInfix]
    obtain ⟨t, ht⟩ := hb.here
    rw [← ht]
    simp
  | miss _ _ ih => rw [ih fun q hq hp => hs q hq (hp.trans (List.suffix_cons _ _).isInfix)]

/-- how many bytes a byte may become -/
theorem Rew.grows {l : List Rule} {s o : Bs} (h : Rew l s o) (g : Nat) (h1 : 1 ≤ g) (hg : ∀ r ∈ l, r.2.length ≤ g * r.1.length) : o.length ≤ g * s.length := by
  induction h with
  | nil => simp
  | @hit s o r hb _ ih =>
    have h2 := hg r hb.mem
    have h3 := hb.here.length_le
    simp only [List.length_append, List.length_drop] at ih ⊢
    have : g * s.length = g * r.1.length + g * (s.length - r.1.length) := by rw [← Nat.mul_add]; congr 1; omega
    omega
  | miss _ _ ih =>
    simp only [List.length_cons, Nat.mul_add]
    omega

/-- no From goes on where the text ends -/
def Shut (l : List Rule) (a : Bs) : Prop := ∀ t, t ≠ [] → t <:+ a → ∀ r ∈ l, ¬ t <+: r.1
theorem Rew.behind {l : List Rule} (hf : Fit l) {a x : Bs} (h : Rew l a x) {b y : Bs} (hb : Rew l b y) (hs : Shut l a) : Rew l (a ++ b) (x ++ y) := by
  induction h with
  | nil => simpa using hb
  | @hit a o r hr _ ih =>
    have h1 := ih fun t h0 ht => hs t h0 (ht.trans (List.drop_suffix _ _))
    rw [List.append_assoc]
    have hl := hr.here.length_le
    by_cases ha : a = []
    · subst ha; exact (hr.not_nil hf).elim
    · refine .hit ⟨hr.mem, hr.here.trans (List.prefix_append _ _), fun q hq hp => ?_⟩ (by rw [List.drop_append_of_le_length hl]; exact h1)
      rcases List.prefix_or_prefix_of_prefix hp (List.prefix_append a b) with h2 | h2
      · exact hr.most q hq h2
      · exact (hs a ha List.suffix_rfl q hq h2).elim
  | @miss c s o hn _ ih =>
    refine .miss (fun q hq hp => ?_) (ih fun t h0 ht => hs t h0 (ht.trans (List.suffix_cons _ _)))
    rcases List.prefix_or_prefix_of_prefix hp (List.prefix_append (c :: s) b) with h2 | h2
    · exact hn q hq h2
    · exact hs (c :: s) (by simp) List.suffix_rfl q hq h2

/-- a walk over the text: what was put so far, and what is still to be rewritten -/
def Sofar (l : List Rule) (s out rest : Bs) : Prop := ∀ o, Rew l rest o → Rew l s (out ++ o)
theorem Sofar.new (l : List Rule) (s : Bs) : Sofar l s [] s := fun _ h => h
theorem Sofar.hit {l : List Rule} {s out rest : Bs} {r : Rule} (h : Sofar l s out rest) (hb : Best l rest r) : Sofar l s (out ++ r.2) (rest.drop r.1.length) := fun o ho => by
  rw [List.append_assoc]
  exact h _ (.hit hb ho)
theorem Sofar.miss {l : List Rule} {s out rest : Bs} {c : UInt8} (h : Sofar l s out (c :: rest)) (hn : None l (c :: rest)) : Sofar l s (out ++ [c]) rest := fun o ho => by
  rw [List.append_assoc]
  exact h _ (.miss hn ho)
theorem Sofar.done {l : List Rule} {s out : Bs} (h : Sofar l s out []) : Rew l s out := by simpa using h [] .nil
end Go.Proofs.Ytfjgfabochiflaa.T12
