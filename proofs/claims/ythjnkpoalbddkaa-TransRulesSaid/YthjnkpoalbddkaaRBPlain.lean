/- The machine of rules: what it puts, and how few texts it lays down. Plain. -/
import Derived.Test.YthjnkpoalbddkaaRunI
import Derived.Test.YthjnkpoalbddkaaTells
namespace Go.Proofs.Ythjnkpoalbddkaa
/-- what may still become a longer From -/
def OpenW (R : List Rule) (w : Bs) : Prop := w = [] ∨ ∃ r ∈ R, w.length < r.1.length ∧ w <+: r.1
open Classical in
noncomputable def openB (R : List Rule) (w : Bs) : Bool := if OpenW R w then true else false
theorem openB_iff {R : List Rule} {w : Bs} : openB R w = true ↔ OpenW R w := by unfold openB; split <;> simp_all
open Classical in
/-- one cut: the rule that is taken, or a byte -/
noncomputable def one (R : List Rule) (x : Bs × Bs) : Bs × Bs :=
  match x.2 with
  | [] => x
  | c :: t => if h : ∃ r, Best R x.2 r then (x.1 ++ (Classical.choose h).2, x.2.drop (Classical.choose h).1.length) else (x.1 ++ [c], t)
noncomputable def cutN (R : List Rule) : Nat → Bs × Bs → Bs × Bs
  | 0, x => x
  | n + 1, x => cutN R n (one R x)
open Classical in
/-- cuts till what is left is open -/
noncomputable def cuts (R : List Rule) : Nat → Bs × Bs → Bs × Bs
  | 0, x => x
  | n + 1, x => if OpenW R x.2 then x else cuts R n (one R x)
noncomputable def stepB (R : List Rule) (w : Bs) (c : UInt8) : Bs × Bs := cuts R (w.length + 1) ([], w ++ [c])
noncomputable def finB (R : List Rule) (w : Bs) : Bs := (cutN R w.length ([], w)).1
section
variable {R : List Rule}
open Classical in
theorem one_hit (hf : Fit R) {o x : Bs} {r : Rule} (hb : Best R x r) : one R (o, x) = (o ++ r.2, x.drop r.1.length) := by
  unfold one
  cases x with
  | nil => exact (hb.not_nil hf).elim
  | cons c t =>
    have h : ∃ r, Best R (c :: t) r := ⟨r, hb⟩
    have e := (Classical.choose_spec h).eq hf hb
    show (if h : ∃ r, Best R (c :: t) r then (o ++ (Classical.choose h).2, (c :: t).drop (Classical.choose h).1.length) else (o ++ [c], t)) = _
    rw [dif_pos h, e]
open Classical in
theorem one_miss {o t : Bs} {c : UInt8} (hn : None R (c :: t)) : one R (o, c :: t) = (o ++ [c], t) := by
  unfold one
  show (if h : ∃ r, Best R (c :: t) r then (o ++ (Classical.choose h).2, (c :: t).drop (Classical.choose h).1.length) else (o ++ [c], t)) = _
  rw [dif_neg (fun ⟨r, hr⟩ => hr.not_none hn)]
theorem one_nil (o : Bs) : one R (o, []) = (o, []) := rfl
theorem cuts_open {x : Bs × Bs} (h : OpenW R x.2) : ∀ n, cuts R n x = x
  | 0 => rfl
  | n + 1 => by unfold cuts; rw [if_pos h]
theorem cuts_go {x : Bs × Bs} (h : ¬ OpenW R x.2) (n : Nat) : cuts R (n + 1) x = cuts R n (one R x) := by
  conv => lhs; unfold cuts
  rw [if_neg h]
/-- a cut eats -/
theorem one_less (hf : Fit R) {x : Bs × Bs} (h : x.2 ≠ []) : (one R x).2.length < x.2.length := by
  obtain ⟨o, x⟩ := x
  simp only at h ⊢
  rcases best_or_none R x with ⟨r, hr⟩ | hn
  · rw [one_hit hf hr]
    have h0 : 0 < r.1.length := List.length_pos_iff.mpr (hf.some r hr.mem)
    have h1 := hr.here.length_le
    simp only [List.length_drop]
    omega
  · cases x with
    | nil => exact (h rfl).elim
    | cons c t => rw [one_miss hn]; simp
theorem cuts_open_end (hf : Fit R) : ∀ (n : Nat) (x : Bs × Bs), x.2.length ≤ n → OpenW R (cuts R n x).2
  | 0, x, h => by
    have : x.2 = [] := List.eq_nil_of_length_eq_zero (by omega)
    exact .inl this
  | n + 1, x, h => by
    by_cases ho : OpenW R x.2
    · rw [cuts_open ho]; exact ho
    · rw [cuts_go ho]
      have hne : x.2 ≠ [] := fun e => ho (.inl e)
      have := one_less hf hne
      exact cuts_open_end hf n _ (by omega)
theorem stepB_open (hf : Fit R) (w : Bs) (c : UInt8) : OpenW R (stepB R w c).2 := cuts_open_end hf _ _ (by simp)
/-- what one cut of x is, whatever follows, if x is not open -/
theorem best_more {x t : Bs} (hx : ¬ OpenW R x) {r : Rule} (h : Best R x r) : Best R (x ++ t) r := by
  refine ⟨h.mem, h.here.trans (List.prefix_append _ _), fun q hq hp => ?_⟩
  rcases List.prefix_or_prefix_of_prefix hp (List.prefix_append x t) with h2 | h2
  · exact h.most q hq h2
  · by_cases e : x.length < q.1.length
    · exact (hx (.inr ⟨q, hq, e, h2⟩)).elim
    · have h3 : q.1 = x := (List.IsPrefix.eq_of_length h2 (by have := h2.length_le; omega)).symm
      exact h.most q hq (by rw [h3]; exact List.prefix_rfl)
theorem none_more {x t : Bs} (hx : ¬ OpenW R x) (h : None R x) : None R (x ++ t) := fun q hq hp => by
  rcases List.prefix_or_prefix_of_prefix hp (List.prefix_append x t) with h2 | h2
  · exact h q hq h2
  · by_cases e : x.length < q.1.length
    · exact hx (.inr ⟨q, hq, e, h2⟩)
    · have h3 : q.1 = x := (List.IsPrefix.eq_of_length h2 (by have := h2.length_le; omega)).symm
      exact h q hq (by rw [h3]; exact List.prefix_rfl)
theorem cuts_com (hf : Fit R) : ∀ (n : Nat) (x : Bs × Bs) (t o : Bs), Rew R ((cuts R n x).2 ++ t) o → ∃ d, (cuts R n x).1 = x.1 ++ d ∧ Rew R (x.2 ++ t) (d ++ o)
  | 0, x, t, o, h => ⟨[], by simp [cuts], h⟩
  | n + 1, (p, x), t, o, h => by
    by_cases ho : OpenW R x
    · rw [cuts_open ho] at h ⊢
      exact ⟨[], by simp, h⟩
    · rw [cuts_go ho] at h ⊢
      obtain ⟨d, h1, h2⟩ := cuts_com hf n _ t o h
      rcases best_or_none R x with ⟨r, hr⟩ | hn
      · rw [one_hit hf hr] at h1 h2 ⊢
        refine ⟨r.2 ++ d, by rw [h1]; simp, ?_⟩
        have hl := hr.here.length_le
        rw [List.append_assoc]
        refine .hit (best_more ho hr) ?_
        rw [List.drop_append_of_le_length hl]
        exact h2
      · cases x with
        | nil => exact (ho (.inl rfl)).elim
        | cons c y =>
          rw [one_miss hn] at h1 h2 ⊢
          refine ⟨[c] ++ d, by rw [h1]; simp, ?_⟩
          exact .miss (none_more ho hn) h2
/-- all cuts are the rewriting -/
theorem cutN_rew (hf : Fit R) : ∀ (n : Nat) (p x : Bs), x.length ≤ n → ∃ d, (cutN R n (p, x)).1 = p ++ d ∧ (cutN R n (p, x)).2 = [] ∧ Rew R x d
  | 0, p, x, h => by
    obtain rfl := List.eq_nil_of_length_eq_zero (show x.length = 0 by omega)
    exact ⟨[], by simp [cutN], rfl, .nil⟩
  | n + 1, p, x, h => by
    unfold cutN
    rcases best_or_none R x with ⟨r, hr⟩ | hn
    · rw [one_hit hf hr]
      have h0 : 0 < r.1.length := List.length_pos_iff.mpr (hf.some r hr.mem)
      obtain ⟨d, h1, h2, h3⟩ := cutN_rew hf n (p ++ r.2) (x.drop r.1.length) (by rw [List.length_drop]; omega)
      exact ⟨r.2 ++ d, by rw [h1]; simp, h2, .hit hr h3⟩
    · cases x with
      | nil =>
        rw [one_nil]
        exact cutN_rew hf n p [] (by simp)
      | cons c t =>
        rw [one_miss hn]
        simp only [List.length_cons] at h
        obtain ⟨d, h1, h2, h3⟩ := cutN_rew hf n (p ++ [c]) t (by omega)
        exact ⟨[c] ++ d, by rw [h1]; simp, h2, .miss hn h3⟩
theorem finB_rew (hf : Fit R) (w : Bs) : Rew R w (finB R w) := by
  obtain ⟨d, h1, _, h3⟩ := cutN_rew hf w.length [] w (Nat.le_refl _)
  unfold finB
  rw [h1]
  simpa using h3
/-- steps, and the end, make the rewriting -/
theorem runB (hf : Fit R) (s : Bs) : ∀ (t o : Bs), Rew R ((runS (stepB R) [] s).2 ++ t) o → Rew R (s ++ t) ((runS (stepB R) [] s).1 ++ o) := by
  have key : ∀ (n : Nat) (s : Bs), s.length = n → ∀ (t o : Bs), Rew R ((runS (stepB R) [] s).2 ++ t) o → Rew R (s ++ t) ((runS (stepB R) [] s).1 ++ o) := by
    intro n
    induction n with
    | zero =>
      intro s hs t o h
      obtain rfl := List.length_eq_zero_iff.1 hs
      exact h
    | succ n ih =>
      intro s hs t o h
      obtain ⟨s', c, rfl⟩ : ∃ s' c, s = s' ++ [c] := ⟨s.dropLast, s.getLast (by intro e; subst e; simp at hs), (List.dropLast_concat_getLast _).symm⟩
      rw [runS_snoc] at h ⊢
      obtain ⟨d, h1, h2⟩ := cuts_com hf _ _ t o h
      have h3 := ih s' (by simpa using hs) ([c] ++ t) (d ++ o) (by rw [← List.append_assoc]; exact h2)
      have h4 : (stepB R (runS (stepB R) [] s').2 c).1 = d := by rw [show (stepB R (runS (stepB R) [] s').2 c).1 = [] ++ d from h1]; simp
      show Rew R (s' ++ [c] ++ t) ((runS (stepB R) [] s').1 ++ (stepB R (runS (stepB R) [] s').2 c).1 ++ o)
      rw [h4, List.append_assoc, List.append_assoc]
      exact h3
  exact key _ s rfl
theorem runB_total (hf : Fit R) (s : Bs) : Rew R s ((runS (stepB R) [] s).1 ++ finB R (runS (stepB R) [] s).2) := by
  have h := runB hf s [] (finB R (runS (stepB R) [] s).2) (by rw [List.append_nil]; exact finB_rew hf _)
  rwa [List.append_nil] at h
/-! How long texts are. -/
theorem cuts_len (hf : Fit R) (h32 : ∀ r ∈ R, r.2.length ≤ 32) : ∀ (n : Nat) (x : Bs × Bs), (cuts R n x).1.length + 32 * (cuts R n x).2.length ≤ x.1.length + 32 * x.2.length
  | 0, x => Nat.le_refl _
  | n + 1, (p, x) => by
    by_cases ho : OpenW R x
    · rw [cuts_open ho]; exact Nat.le_refl _
    · rw [cuts_go ho]
      have h1 := cuts_len hf h32 n (one R (p, x))
      rcases best_or_none R x with ⟨r, hr⟩ | hn
      · rw [one_hit hf hr] at h1 ⊢
        have h0 : 0 < r.1.length := List.length_pos_iff.mpr (hf.some r hr.mem)
        have hl := hr.here.length_le
        have := h32 r hr.mem
        simp only [List.length_append, List.length_drop] at h1 ⊢
        omega
      · cases x with
        | nil => exact (ho (.inl rfl)).elim
        | cons c y =>
          rw [one_miss hn] at h1 ⊢
          simp only [List.length_append, List.length_cons, List.length_nil] at h1 ⊢
          omega
theorem open_len {w : Bs} (h16 : ∀ r ∈ R, r.1.length ≤ 16) (h : OpenW R w) : w.length ≤ 15 := by
  rcases h with rfl | ⟨r, hr, hl, _⟩
  · simp
  · have := h16 r hr
    omega
theorem stepB_len (hf : Fit R) (h16 : ∀ r ∈ R, r.1.length ≤ 16) (h32 : ∀ r ∈ R, r.2.length ≤ 32) {w : Bs} (h : OpenW R w) (c : UInt8) : (stepB R w c).1.length ≤ 512 := by
  have h1 := cuts_len hf h32 (w.length + 1) ([], w ++ [c])
  have h2 := open_len h16 h
  unfold stepB
  simp only [List.length_append, List.length_cons, List.length_nil] at h1
  omega
theorem finB_len (hf : Fit R) (h16 : ∀ r ∈ R, r.1.length ≤ 16) (h32 : ∀ r ∈ R, r.2.length ≤ 32) {w : Bs} (h : OpenW R w) : (finB R w).length ≤ 480 := by
  have h1 := (finB_rew hf w).grows 32 (by omega) (fun r hr => by
    have := h32 r hr
    have h0 : 0 < r.1.length := List.length_pos_iff.mpr (hf.some r hr)
    omega)
  have h2 := open_len h16 h
  omega
end
end Go.Proofs.Ythjnkpoalbddkaa
