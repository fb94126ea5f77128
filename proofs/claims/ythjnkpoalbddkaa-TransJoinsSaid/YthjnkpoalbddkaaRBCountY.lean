/- With few bytes of Froms the machine of rules has few states and lays down few texts. Plain. -/
import Derived.Test.YthjnkpoalbddkaaStepY
namespace Go.Proofs.Ythjnkpoalbddkaa
theorem nodup_sub {α : Type} [DecidableEq α] : ∀ (k l : List α), l.Nodup → (∀ x ∈ l, x ∈ k) → l.length ≤ k.length
  | [], l, _, h => by
    cases l with
    | nil => simp
    | cons a l => exact absurd (h a (by simp)) (by simp)
  | b :: k, l, hn, h => by
    have h1 := nodup_sub k (l.erase b) (hn.erase b) (fun x hx => by
      rw [hn.mem_erase_iff] at hx
      rcases List.mem_cons.1 (h x hx.2) with e | e
      · exact (hx.1 e).elim
      · exact e)
    rw [List.length_erase] at h1
    simp only [List.length_cons]
    split at h1 <;> omega
section
variable {R : List Rule}
theorem cutN_add (m n : Nat) : ∀ (x : Bs × Bs), cutN R (m + n) x = cutN R n (cutN R m x) := by
  induction m with
  | zero => intro x; simp [cutN]
  | succ m ih =>
    intro x
    rw [show m + 1 + n = (m + n) + 1 by omega]
    show cutN R (m + n) (one R x) = cutN R n (cutN R m (one R x))
    exact ih _
theorem cutN_nil (o : Bs) : ∀ n, cutN R n (o, []) = (o, [])
  | 0 => rfl
  | n + 1 => by unfold cutN; rw [one_nil]; exact cutN_nil o n
theorem cutN_less (hf : Fit R) : ∀ (n : Nat) (x : Bs × Bs), (cutN R n x).2 ≠ [] → (cutN R n x).2.length + n ≤ x.2.length
  | 0, x, _ => Nat.le_refl _
  | n + 1, x, h => by
    have h1 := cutN_less hf n (one R x) h
    have hx : x.2 ≠ [] := fun e => by
      obtain ⟨o, y⟩ := x
      simp only at e
      subst e
      rw [cutN_nil] at h
      exact h rfl
    have h2 := one_less hf hx
    show (cutN R n (one R x)).2.length + (n + 1) ≤ _
    omega
/-- what is left tells how much was put -/
theorem cutN_unique (hf : Fit R) {x : Bs × Bs} {m n : Nat} (h : (cutN R m x).2 = (cutN R n x).2) : cutN R m x = cutN R n x := by
  have key : ∀ (m n : Nat), m ≤ n → (cutN R m x).2 = (cutN R n x).2 → cutN R m x = cutN R n x := fun m n hmn h => by
    obtain ⟨k, rfl⟩ := Nat.exists_eq_add_of_le hmn
    rw [cutN_add] at h ⊢
    obtain ⟨q, hq⟩ : ∃ q, q = cutN R m x := ⟨_, rfl⟩
    rw [← hq] at h ⊢
    by_cases e : q.2 = []
    · obtain ⟨o, y⟩ := q
      simp only at e
      subst e
      rw [cutN_nil]
    · by_cases hk : k = 0
      · subst hk; rfl
      · have := cutN_less hf k q (by rw [← h]; exact e)
        rw [← h] at this
        omega
  rcases Nat.le_total m n with h1 | h1
  · exact key m n h1 h
  · exact (key n m h1 h.symm).symm
theorem cutN_done (hf : Fit R) {w : Bs} {n : Nat} (h : (cutN R n ([], w)).2 = []) : (cutN R n ([], w)).1 = finB R w := by
  unfold finB
  obtain ⟨d, _, h2, _⟩ := cutN_rew hf w.length [] w (Nat.le_refl _)
  rw [cutN_unique hf (h.trans h2.symm)]
/-- the cuts of a text and a byte more are those of the text, till one takes the byte -/
theorem one_snoc (hf : Fit R) (o y : Bs) (c : UInt8) :
    (∃ o' y', one R (o, y ++ [c]) = (o', y' ++ [c]) ∧ one R (o, y) = (o', y') ∧ y ≠ []) ∨
    (∃ r ∈ R, r.1 = y ++ [c] ∧ one R (o, y ++ [c]) = (o ++ r.2, [])) ∨ (y = [] ∧ one R (o, y ++ [c]) = (o ++ [c], [])) := by
  rcases best_or_none R (y ++ [c]) with ⟨r, hr⟩ | hn
  · have hl := hr.here.length_le
    simp only [List.length_append, List.length_singleton] at hl
    rw [one_hit hf hr]
    by_cases e : r.1.length ≤ y.length
    · left
      have hp : r.1 <+: y := List.prefix_of_prefix_length_le hr.here (List.prefix_append y [c]) e
      have hy : y ≠ [] := fun e2 => by
        subst e2
        have := hf.some r hr.mem
        exact this (List.eq_nil_of_length_eq_zero (by simpa using e))
      have hb : Best R y r := ⟨hr.mem, hp, fun q hq hqp => hr.most q hq (hqp.trans (List.prefix_append _ _))⟩
      exact ⟨_, _, by rw [List.drop_append_of_le_length e], one_hit hf hb, hy⟩
    · right; left
      have e2 : r.1 = y ++ [c] := List.IsPrefix.eq_of_length hr.here (by simp; omega)
      exact ⟨r, hr.mem, e2, by rw [e2]; simp⟩
  · cases y with
    | nil => right; right; exact ⟨rfl, one_miss hn⟩
    | cons a y =>
      left
      refine ⟨o ++ [a], y, one_miss hn, one_miss (fun q hq hp => hn q hq (hp.trans (List.prefix_append _ _))), by simp⟩
/-- a text's end: how the cuts of w and c come to an end -/
inductive Stop (R : List Rule) (w : Bs) (c : UInt8) : Bs → Prop
  | cut (n : Nat) : n ≤ w.length → Stop R w c (cutN R n ([], w)).1
  | rule (n : Nat) (r : Rule) : r ∈ R → r.1 = (cutN R n ([], w)).2 ++ [c] → Stop R w c ((cutN R n ([], w)).1 ++ r.2)
  | byte (n : Nat) : (cutN R n ([], w)).2 = [] → Stop R w c ((cutN R n ([], w)).1 ++ [c])
theorem cuts_stop (hf : Fit R) (w : Bs) (c : UInt8) : ∀ (k n : Nat) (y : Bs), (cutN R n ([], w)).2 = y → n + y.length ≤ w.length → Stop R w c (cuts R k ((cutN R n ([], w)).1, y ++ [c])).1
  | 0, n, y, _, hl => Stop.cut n (by omega)
  | k + 1, n, y, hy, hl => by
    by_cases ho : OpenW R (y ++ [c])
    · rw [cuts_open ho]; exact Stop.cut n (by omega)
    · rw [cuts_go ho]
      have e : cutN R (n + 1) ([], w) = one R (cutN R n ([], w)) := by rw [cutN_add]; rfl
      have e0 : cutN R n ([], w) = ((cutN R n ([], w)).1, y) := Prod.ext rfl hy
      rcases one_snoc hf (cutN R n ([], w)).1 y c with ⟨o', y', h1, h2, h3⟩ | ⟨r, hr, h1, h2⟩ | ⟨h1, h2⟩
      · rw [h1]
        have e3 : cutN R (n + 1) ([], w) = (o', y') := by rw [e, e0]; exact h2
        have h5 := one_less hf (x := ((cutN R n ([], w)).1, y)) h3
        rw [h2] at h5
        simp only at h5
        have := cuts_stop hf w c k (n + 1) y' (by rw [e3]) (by omega)
        rw [e3] at this
        exact this
      · rw [h2, cuts_open (.inl rfl)]
        exact Stop.rule n r hr (by rw [hy]; exact h1)
      · rw [h2, cuts_open (.inl rfl)]
        exact Stop.byte n (by rw [hy]; exact h1)
theorem stepB_stop (hf : Fit R) (w : Bs) (c : UInt8) : Stop R w c (stepB R w c).1 := cuts_stop hf w c _ 0 w rfl (by omega)
open Classical in
/-- the text that is laid down where a rule takes the byte -/
noncomputable def hB (R : List Rule) (w : Bs) (r : Rule) : Bs :=
  if h : ∃ n c, r.1 = (cutN R n ([], w)).2 ++ [c] then cutB ((cutN R (Classical.choose h) ([], w)).1 ++ r.2) (Classical.choose (Classical.choose_spec h)) else []
open Classical in
theorem hB_eq (hf : Fit R) {w : Bs} {r : Rule} {n : Nat} {c : UInt8} (h : r.1 = (cutN R n ([], w)).2 ++ [c]) : cutB ((cutN R n ([], w)).1 ++ r.2) c = hB R w r := by
  unfold hB
  have hh : ∃ n c, r.1 = (cutN R n ([], w)).2 ++ [c] := ⟨n, c, h⟩
  rw [dif_pos hh]
  have h2 := Classical.choose_spec (Classical.choose_spec hh)
  have h3 := h.symm.trans h2
  have h4 := List.append_inj' h3 rfl
  have h5 := cutN_unique hf h4.1
  rw [h5]
  have h6 : c = Classical.choose (Classical.choose_spec hh) := by simpa using h4.2
  rw [h6]
/-- all texts of a state that is not the first one -/
noncomputable def textsW (R : List Rule) (w : Bs) (j : Nat) : List Bs := ((List.range (j + 1)).map fun n => (cutN R (n + 1) ([], w)).1) ++ (((List.range (j + 1)).map fun n => (cutN R (n + 1) ([], w)).1.dropLast) ++ R.map (hB R w))
theorem textsW_len (w : Bs) (j : Nat) : (textsW R w j).length = 2 * (j + 1) + R.length := by unfold textsW; simp; omega
noncomputable def textsF (R : List Rule) (f : Bs) : Nat → List Bs
  | 0 => []
  | j + 1 => textsF R f j ++ textsW R (f.take (j + 1)) j
theorem textsF_len (f : Bs) : ∀ j, (textsF R f j).length = j * (j + 1) + j * R.length
  | 0 => by simp [textsF]
  | j + 1 => by
    unfold textsF
    rw [List.length_append, textsF_len f j, textsW_len]
    rw [Nat.add_mul j 1 (R.length), Nat.one_mul, Nat.add_mul j 1 (j + 1 + 1), Nat.one_mul, Nat.mul_add j (j + 1) 1, Nat.mul_one]
    omega
theorem textsF_mem {f : Bs} {t : Bs} {j k : Nat} (hj : j < k) (h : t ∈ textsW R (f.take (j + 1)) j) : t ∈ textsF R f k := by
  induction k with
  | zero => omega
  | succ k ih =>
    unfold textsF
    by_cases e : j = k
    · subst e; exact List.mem_append_right _ h
    · exact List.mem_append_left _ (ih (by omega))
noncomputable def textsR (R : List Rule) : List Bs := [] :: (R.map (hB R []) ++ R.flatMap fun r => textsF R r.1 (r.1.length - 1))
def sumF : List Rule → Nat
  | [] => 0
  | r :: R => r.1.length + sumF R
theorem flat_len (B : Nat) : ∀ (Q : List Rule), (∀ r ∈ Q, 1 ≤ r.1.length ∧ (textsF R r.1 (r.1.length - 1)).length ≤ (r.1.length - 1) * B) → (Q.flatMap fun r => textsF R r.1 (r.1.length - 1)).length + Q.length * B ≤ sumF Q * B
  | [], _ => by simp [sumF]
  | r :: Q, h => by
    have h1 := flat_len B Q (fun q hq => h q (List.mem_cons_of_mem _ hq))
    have h2 := h r List.mem_cons_self
    simp only [List.flatMap_cons, List.length_append, List.length_cons, sumF, Nat.add_mul, Nat.one_mul]
    have h3 : (r.1.length - 1) * B + B = r.1.length * B := by
      rw [← Nat.succ_mul]
      congr 1
      omega
    omega
theorem textsR_len (hf : Fit R) (h16 : ∀ r ∈ R, r.1.length ≤ 16) (hs : sumF R ≤ 100) : (textsR R).length ≤ 4096 := by
  have h1 := flat_len (R := R) (16 + R.length) R (fun r hr => by
    have h0 : 0 < r.1.length := List.length_pos_iff.mpr (hf.some r hr)
    have h2 := h16 r hr
    refine ⟨h0, ?_⟩
    rw [textsF_len, ← Nat.mul_add]
    exact Nat.mul_le_mul_left _ (by omega))
  unfold textsR
  rw [List.length_cons, List.length_append, List.length_map]
  have h2 : sumF R * (16 + R.length) ≤ 100 * (16 + R.length) := Nat.mul_le_mul_right _ hs
  have h3 : R.length ≤ 100 := by
    have : ∀ (Q : List Rule), (∀ r ∈ Q, r.1 ≠ []) → Q.length ≤ sumF Q := fun Q => by
      induction Q with
      | nil => simp
      | cons r Q ih =>
        intro h
        have := ih (fun q hq => h q (List.mem_cons_of_mem _ hq))
        have h0 : 0 < r.1.length := List.length_pos_iff.mpr (h r List.mem_cons_self)
        simp only [List.length_cons, sumF]
        omega
    have := this R hf.some
    omega
  have h4 : ∀ k, k < 101 → 1 + k + 100 * (16 + k) ≤ 4095 + k * (16 + k) := by decide
  have := h4 R.length (by omega)
  omega
/-- each text is one of these -/
theorem texts_in (hf : Fit R) {t : Bs} (h : TxOf (stepB R) (finB R) (OpenW R) t) : t ∈ textsR R := by
  unfold textsR
  rcases h with rfl | ⟨w, hw, h⟩
  · exact List.mem_cons_self
  · have inF : ∀ {t : Bs}, w ≠ [] → t ∈ textsW R w (w.length - 1) → t ∈ [] :: (R.map (hB R []) ++ R.flatMap fun r => textsF R r.1 (r.1.length - 1)) := fun {t} hne ht => by
      rcases hw with e | ⟨r, hr, hl, hp⟩
      · exact (hne e).elim
      · have h0 : 0 < w.length := List.length_pos_iff.mpr hne
        refine List.mem_cons_of_mem _ (List.mem_append_right _ (List.mem_flatMap.2 ⟨r, hr, ?_⟩))
        have e : w = r.1.take (w.length - 1 + 1) := by rw [show w.length - 1 + 1 = w.length by omega]; exact List.prefix_iff_eq_take.1 hp
        refine textsF_mem (j := w.length - 1) (by omega) ?_
        rw [← e]
        exact ht
    have cutIn : ∀ {n : Nat}, w ≠ [] → 0 < n → n ≤ w.length → (cutN R n ([], w)).1 ∈ textsW R w (w.length - 1) ∧ (cutN R n ([], w)).1.dropLast ∈ textsW R w (w.length - 1) := fun {n} hne h0 hn => by
      obtain ⟨k, rfl⟩ : ∃ k, n = k + 1 := ⟨n - 1, by omega⟩
      unfold textsW
      constructor
      · exact List.mem_append_left _ (List.mem_map.2 ⟨k, List.mem_range.2 (by omega), rfl⟩)
      · exact List.mem_append_right _ (List.mem_append_left _ (List.mem_map.2 ⟨k, List.mem_range.2 (by omega), rfl⟩))
    have fin_in : finB R w ∈ [] :: (R.map (hB R []) ++ R.flatMap fun r => textsF R r.1 (r.1.length - 1)) := by
      by_cases hne : w = []
      · subst hne; exact List.mem_cons_self
      · have h0 : 0 < w.length := List.length_pos_iff.mpr hne
        exact inF hne (cutIn hne h0 (Nat.le_refl _)).1
    rcases h with ⟨c, rfl⟩ | rfl
    · have hst := stepB_stop hf w c
      obtain ⟨o, ho⟩ : ∃ o, o = (stepB R w c).1 := ⟨_, rfl⟩
      rw [← ho] at hst ⊢
      clear ho
      cases hst with
      | cut n hn =>
        by_cases hn0 : n = 0
        · subst hn0
          have : cutB (cutN R 0 ([], w)).1 c = [] := by unfold cutB; show (if _ then ([] : Bs).dropLast else []) = []; split <;> rfl
          rw [this]
          exact List.mem_cons_self
        · have hne : w ≠ [] := fun e => by subst e; simp at hn; omega
          have h2 := cutIn hne (by omega) hn
          unfold cutB
          split
          · exact inF hne h2.2
          · exact inF hne h2.1
      | rule n r hr he =>
        rw [hB_eq hf he]
        by_cases hne : w = []
        · subst hne
          exact List.mem_cons_of_mem _ (List.mem_append_left _ (List.mem_map.2 ⟨r, hr, rfl⟩))
        · refine inF hne ?_
          unfold textsW
          exact List.mem_append_right _ (List.mem_append_right _ (List.mem_map.2 ⟨r, hr, rfl⟩))
      | byte n he =>
        have : cutB ((cutN R n ([], w)).1 ++ [c]) c = (cutN R n ([], w)).1 := by
          have ho : oddB ((cutN R n ([], w)).1 ++ [c]) c = true := by unfold oddB; simp
          unfold cutB
          rw [if_pos ho]; simp
        rw [this, cutN_done hf he]
        exact fin_in
    · exact fin_in
/-- all states -/
def statesF (f : Bs) : Nat → List Bs
  | 0 => []
  | j + 1 => statesF f j ++ [f.take (j + 1)]
theorem statesF_len (f : Bs) : ∀ j, (statesF f j).length = j
  | 0 => rfl
  | j + 1 => by unfold statesF; rw [List.length_append, statesF_len f j]; rfl
theorem statesF_mem {f : Bs} {j k : Nat} (hj : j < k) : f.take (j + 1) ∈ statesF f k := by
  induction k with
  | zero => omega
  | succ k ih =>
    unfold statesF
    by_cases e : j = k
    · subst e; exact List.mem_append_right _ (by simp)
    · exact List.mem_append_left _ (ih (by omega))
def statesR (R : List Rule) : List Bs := [] :: R.flatMap fun r => statesF r.1 (r.1.length - 1)
theorem statesR_len : ∀ (Q : List Rule), (Q.flatMap fun r => statesF r.1 (r.1.length - 1)).length ≤ sumF Q
  | [] => by simp [sumF]
  | r :: Q => by
    have h1 := statesR_len Q
    simp only [List.flatMap_cons, List.length_append, statesF_len, sumF]
    omega
theorem states_in {w : Bs} (h : OpenW R w) : w ∈ statesR R := by
  unfold statesR
  rcases h with rfl | ⟨r, hr, hl, hp⟩
  · exact List.mem_cons_self
  · by_cases hne : w = []
    · subst hne; exact List.mem_cons_self
    · have h0 : 0 < w.length := List.length_pos_iff.mpr hne
      refine List.mem_cons_of_mem _ (List.mem_flatMap.2 ⟨r, hr, ?_⟩)
      have e : w = r.1.take (w.length - 1 + 1) := by rw [show w.length - 1 + 1 = w.length by omega]; exact List.prefix_iff_eq_take.1 hp
      rw [e]
      exact statesF_mem (by omega)
/-- with few bytes of Froms nothing is too much -/
theorem rules_made (hf : Fit R) (h16 : ∀ r ∈ R, r.1.length ≤ 16) (h32 : ∀ r ∈ R, r.2.length ≤ 32) (hs : sumF R ≤ 100) {lg : Bs → UInt8 → Bool} {lge : Bs → Bool} {m : Mk Bs} {k c : Nat} {fl : Bool}
    (h : RunI (stepB R) (finB R) [] (OpenW R) lg lge m k c fl) : m.bad = false := by
  cases hb : m.bad with
  | false => rfl
  | true =>
    exfalso
    rcases h.ok.bad.1 hb with h9 | h9 | ⟨t, ht, h9⟩
    · have h1 := nodup_sub (statesR R) m.all h.ok.nd (fun x hx => states_in (h.mem x hx))
      have h2 := statesR_len R
      unfold statesR at h1
      rw [List.length_cons] at h1
      omega
    · have h1 := nodup_sub (textsR R) m.texts h.ok.tnd (fun x hx => texts_in hf (h.tx x hx))
      have h2 := textsR_len hf h16 hs
      omega
    · rcases h.tx t ht with rfl | ⟨s, hs, ⟨c, rfl⟩ | rfl⟩
      · simp at h9
      · have h1 := stepB_len hf h16 h32 hs c
        have h2 := cutB_len (stepB R s c).1 c
        omega
      · have := finB_len hf h16 h32 hs
        omega
end
end Go.Proofs.Ythjnkpoalbddkaa
