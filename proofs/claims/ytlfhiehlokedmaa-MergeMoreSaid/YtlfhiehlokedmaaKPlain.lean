/- What merging keeps: the text, and that no two side by side are a merge's. Plain lists. -/
import Derived.Test.YtlfhiehlokedmaaJoin
namespace Go.Proofs.Ytlfhiehlokedmaa

theorem getD_append_left {α : Type} (a b : List α) (i : Nat) (d : α) (h : i < a.length) : (a ++ b).getD i d = a.getD i d := by
  rw [List.getD, List.getD, List.getElem?_append_left h]

theorem goTexts_keep : ∀ (ms : List (Int × Int)) (k : Nat) (out o : List Txt), goTexts k out ms = some o → out.length = 256 + k → short64 out →
    o.length = out.length + ms.length ∧ short64 o ∧ (∀ i, i < out.length → o.getD i [] = out.getD i []) ∧
    ∀ j, j < ms.length → o.getD (256 + k + j) [] = o.getD (ms.getD j (0,0)).1.toNat [] ++ o.getD (ms.getD j (0,0)).2.toNat []
  | [], k, out, o, h, hl, hs => by
    simp [goTexts] at h
    subst h
    exact ⟨by simp, hs, fun _ _ => rfl, fun j hj => absurd hj (by simp)⟩
  | m :: ms, k, out, o, h, hl, hs => by
    rw [goTexts] at h
    split at h
    · cases h
    · rename_i hv
      dsimp only at h
      split at h
      · cases h
      · rename_i h64
        obtain ⟨h1, h2, h3, h4⟩ := goTexts_keep ms _ _ _ h (by simp; omega) (short64_snoc hs (by
          by_cases hb : 64 < (out.getD m.1.toNat [] ++ out.getD m.2.toNat []).length
          · exact absurd (.inl hb) h64
          · omega))
        have hpre : ∀ i, i < out.length → o.getD i [] = out.getD i [] := fun i hi => by
          rw [h3 i (by simp; omega), getD_append_left _ _ _ _ hi]
        refine ⟨by rw [h1]; simp; omega, h2, hpre, fun j hj => ?_⟩
        match j with
        | 0 =>
          simp only [List.getD_cons_zero, Nat.add_zero]
          rw [hpre m.1.toNat (by omega), hpre m.2.toNat (by omega), h3 (256 + k) (by simp; omega), ← hl]
          simp
        | j + 1 =>
          have := h4 j (by simpa using hj)
          rw [List.getD_cons_succ, ← this]
          congr 1
          omega

theorem texts_keep {l : List (Int × Int)} (h : (texts l).2 = 0) : (texts l).1.length = 256 + l.length ∧ short64 (texts l).1 ∧
    ∀ j, j < l.length → (texts l).1.getD (256 + j) [] = (texts l).1.getD (l.getD j (0,0)).1.toNat [] ++ (texts l).1.getD (l.getD j (0,0)).2.toNat [] := by
  unfold texts at h ⊢
  split
  · rename_i hl; rw [if_pos hl] at h; cases h
  · rename_i hl
    rw [if_neg hl] at h
    cases hg : goTexts 0 baseTexts l with
    | none => rw [hg] at h; cases h
    | some o =>
      obtain ⟨h1, h2, _, h4⟩ := goTexts_keep l 0 baseTexts o hg (by simp [baseTexts]) short64_base
      refine ⟨by rw [h1]; simp [baseTexts], h2, fun j hj => ?_⟩
      have := h4 j hj
      rw [Nat.add_zero] at this
      exact this

/-- a merge keeps the text -/
theorem joinT_merged {T : List Txt} {out : List Int} {b i : Nat} (hi : i + 1 < out.length) (h : T.getD (256 + b) [] = T.getD (out.getD i 0).toNat [] ++ T.getD (out.getD (i + 1) 0).toNat []) :
    joinT T (merged out b i) = joinT T out := by
  have e : out = out.take i ++ (out.getD i 0 :: out.getD (i + 1) 0 :: out.drop (i + 2)) := by
    have h1 : out.drop i = out.getD i 0 :: out.drop (i + 1) := by
      rw [List.drop_eq_getElem_cons (by omega)]; simp [show i < out.length by omega]
    have h2 : out.drop (i + 1) = out.getD (i + 1) 0 :: out.drop (i + 2) := by
      rw [List.drop_eq_getElem_cons hi]; simp [hi]
    rw [← h2, ← h1, List.take_append_drop]
  have e2 : joinT T out = joinT T (out.take i ++ (out.getD i 0 :: out.getD (i + 1) 0 :: out.drop (i + 2))) := by rw [← e]
  rw [e2]
  unfold merged joinT
  have hn : (256 + (b : Int)).toNat = 256 + b := by omega
  simp only [List.flatMap_append, List.flatMap_cons, hn, h, List.append_assoc]

theorem mergeF_joins {l : List (Int × Int)} {T : List Txt} (hT : ∀ j, j < l.length → T.getD (256 + j) [] = T.getD (l.getD j (0,0)).1.toNat [] ++ T.getD (l.getD j (0,0)).2.toNat []) : ∀ (f : Nat) (out : List Int), joinT T (mergeF l f out) = joinT T out
  | 0, out => rfl
  | f + 1, out => by
    cases hs : scan l out with
    | none => rw [mergeF_stop hs]
    | some p =>
      obtain ⟨b, i⟩ := p
      obtain ⟨h1, h2, h3⟩ := scanTo_lt hs
      obtain ⟨-, h4, -⟩ := rankTo_some.1 h3
      rw [mergeF_step hs, mergeF_joins hT f]
      refine joinT_merged (by omega) ?_
      rw [hT b h2, h4]

theorem mergeF_done {l : List (Int × Int)} : ∀ (f : Nat) (out : List Int), out.length ≤ f → scan l (mergeF l f out) = none
  | 0, out, h => by
    obtain rfl : out = [] := List.eq_nil_of_length_eq_zero (by omega)
    rfl
  | f + 1, out, h => by
    cases hs : scan l out with
    | none => rw [mergeF_stop hs, hs]
    | some p =>
      obtain ⟨b, i⟩ := p
      have hi := (scanTo_lt hs).1
      have hl := length_merged (b := b) (show i + 1 < out.length by omega)
      rw [mergeF_step hs]
      exact mergeF_done f _ (by omega)

theorem mergeF_bd {l : List (Int × Int)} {n : Nat} (hn : l.length = n) : ∀ (f : Nat) (out : List Int), (∀ i, i < out.length → 0 ≤ out.getD i 0 ∧ out.getD i 0 < 256 + (n : Int)) → ∀ i, i < (mergeF l f out).length → 0 ≤ (mergeF l f out).getD i 0 ∧ (mergeF l f out).getD i 0 < 256 + (n : Int)
  | 0, out, h => h
  | f + 1, out, h => by
    cases hs : scan l out with
    | none => rw [mergeF_stop hs]; exact h
    | some p =>
      obtain ⟨b, i⟩ := p
      obtain ⟨h1, h2, -⟩ := scanTo_lt hs
      rw [mergeF_step hs]
      exact mergeF_bd hn f _ (merged_bd (by omega) (by omega) h)

theorem scanTo_none {l : List (Int × Int)} {out : List Int} : ∀ {n : Nat}, scanTo l out n = none → ∀ i, i < n → rank l (out.getD i 0) (out.getD (i + 1) 0) = none
  | 0, _, i, hi => absurd hi (by omega)
  | n + 1, h, i, hi => by
    rw [scanTo] at h
    cases hr : rank l (out.getD n 0) (out.getD (n + 1) 0) with
    | some k =>
      rw [hr] at h
      cases hs : scanTo l out n with
      | none => rw [hs] at h; cases h
      | some p =>
        obtain ⟨b, t⟩ := p
        rw [hs] at h
        dsimp only at h
        split at h <;> cases h
    | none =>
      rw [hr] at h
      by_cases hin : i < n
      · exact scanTo_none h i hin
      · obtain rfl : i = n := by omega
        exact hr

theorem bad_iff {n : Nat} {ids : List Int} : ids.any (badId n) = false ↔ ∀ i, i < ids.length → 0 ≤ ids.getD i 0 ∧ ids.getD i 0 < 256 + (n : Int) := by
  rw [List.any_eq_false]
  constructor
  · intro h i hi
    have := h (ids.getD i 0) (by simp [hi])
    rw [badId, Bool.or_eq_true, not_or, decide_eq_true_eq, decide_eq_true_eq] at this
    omega
  · intro h x hx
    obtain ⟨i, hi, rfl⟩ := List.getElem_of_mem hx
    have := h i hi
    have e : ids.getD i 0 = ids[i] := by simp [hi]
    rw [e] at this
    rw [badId, decide_eq_false (by omega), decide_eq_false (by omega)]
    simp

/-- THE LAW, in plain words -/
theorem keeps {l : List (Int × Int)} {ids : List Int} (h : (texts l).2 = 0) (h2 : (apply l ids).2 = 0) (hl : ids.length ≤ 60) :
    apply l (apply l ids).1 = ((apply l ids).1, 0) ∧ (apply l ids).1.length ≤ ids.length ∧ (texts l).1.length = 256 + l.length ∧
    (∀ i, i < (apply l ids).1.length → 0 ≤ (apply l ids).1.getD i 0 ∧ (apply l ids).1.getD i 0 < 256 + (l.length : Int)) ∧
    (∀ i, i < ids.length → 0 ≤ ids.getD i 0 ∧ ids.getD i 0 < 256 + (l.length : Int)) ∧
    (∀ i, i + 1 < (apply l ids).1.length → rankI l ((apply l ids).1.getD i 0) ((apply l ids).1.getD (i + 1) 0) = -1) ∧
    joinT (texts l).1 (apply l ids).1 = joinT (texts l).1 ids := by
  have hbad : ids.any (badId l.length) = false := by
    cases hb : ids.any (badId l.length) with
    | false => rfl
    | true => rw [apply_arg h (by omega) hb] at h2; cases h2
  have hap := apply_good h (by omega) hbad
  rw [hap]
  dsimp only
  have hbd := bad_iff.1 hbad
  have hbd2 : ∀ i, i < (mergeAll l ids).length → 0 ≤ (mergeAll l ids).getD i 0 ∧ (mergeAll l ids).getD i 0 < 256 + (l.length : Int) := mergeF_bd rfl ids.length ids hbd
  have hlen : (mergeAll l ids).length ≤ ids.length := length_mergeF (l := l) ids.length ids
  have hdone : scan l (mergeAll l ids) = none := mergeF_done (l := l) ids.length ids (Nat.le_refl _)
  obtain ⟨k1, _, k3⟩ := texts_keep h
  refine ⟨?_, hlen, k1, hbd2, hbd, fun i hi => ?_, mergeF_joins k3 _ _⟩
  · have e : mergeAll l (mergeAll l ids) = mergeAll l ids := mergeF_stop hdone
    rw [apply_good h (by omega) (bad_iff.2 hbd2), e]
  · have e := scanTo_none hdone i (by omega)
    rw [rankI, e]

theorem apply_none {l : List (Int × Int)} {ids : List Int} (h : (texts l).2 ≠ 0 ∨ (apply l ids).2 ≠ 0) : (apply l ids).1 = [] := by
  by_cases h0 : (texts l).2 = 0
  · by_cases hb : 4096 < ids.length
    · rw [apply_long h0 hb]
    · cases hbad : ids.any (badId l.length) with
      | true => rw [apply_arg h0 hb hbad]
      | false =>
        rw [apply_good h0 hb hbad] at h
        rcases h with h | h
        · exact absurd h0 h
        · exact absurd rfl h
  · rw [apply_bad rfl h0]
end Go.Proofs.Ytlfhiehlokedmaa
