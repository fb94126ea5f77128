/- A merge more, of the greatest rank. Plain lists. -/
import Derived.Test.YtlfhiehlokedmaaKPlain
namespace Go.Proofs.Ytlfhiehlokedmaa

/-- the last rank's merges, from the left -/
def wantL (L R N : Int) : List Int → List Int
  | [] => []
  | [x] => [x]
  | x :: y :: r => if x = L ∧ y = R then N :: wantL L R N r else x :: wantL L R N (y :: r)

theorem rankTo_pre {l : List (Int × Int)} {p : Int × Int} {a b : Int} : ∀ {n : Nat}, n ≤ l.length → rankTo (l ++ [p]) a b n = rankTo l a b n
  | 0, _ => rfl
  | n + 1, h => by
    rw [rankTo, rankTo, rankTo_pre (by omega), getD_append_left _ _ _ _ (by omega)]
theorem rank_more (l : List (Int × Int)) (p : Int × Int) (a b : Int) : rank (l ++ [p]) a b = match rank l a b with | some k => some k | none => if p = (a, b) then some l.length else none := by
  have e : (l ++ [p]).getD l.length (0, 0) = p := by simp
  rw [rank, List.length_append, List.length_singleton, rankTo, rankTo_pre (Nat.le_refl _), e]
  rfl

theorem scan_more_none {l : List (Int × Int)} {p : Int × Int} {out : List Int} : ∀ {n : Nat}, scanTo l out n = none → ∀ b i, scanTo (l ++ [p]) out n = some (b, i) → b = l.length ∧ i < n ∧ p = (out.getD i 0, out.getD (i + 1) 0) ∧ ∀ j, j < i → p ≠ (out.getD j 0, out.getD (j + 1) 0)
  | 0, _, b, i, h2 => by simp [scanTo] at h2
  | n + 1, h, b, i, h2 => by
    have hno := scanTo_none h
    have hn : scanTo l out n = none := by
      rw [scanTo, hno n (by omega)] at h
      exact h
    have ih := scan_more_none (p := p) hn
    have hnone : scanTo (l ++ [p]) out n = none → ∀ j, j < n → p ≠ (out.getD j 0, out.getD (j + 1) 0) := fun h3 j hj e => by
      have := scanTo_none h3 j hj
      rw [rank_more, hno j (by omega), ← e] at this
      simp at this
    rw [scanTo, rank_more, hno n (by omega)] at h2
    dsimp only at h2
    by_cases hp : p = (out.getD n 0, out.getD (n + 1) 0)
    · rw [if_pos hp] at h2
      cases hs : scanTo (l ++ [p]) out n with
      | none =>
        rw [hs] at h2
        dsimp only at h2
        simp only [Option.some.injEq, Prod.mk.injEq] at h2
        obtain ⟨rfl, rfl⟩ := h2
        exact ⟨rfl, by omega, hp, hnone hs⟩
      | some q =>
        obtain ⟨b', t⟩ := q
        obtain ⟨h3, h4, h5, h6⟩ := ih b' t hs
        rw [hs] at h2
        dsimp only at h2
        rw [if_neg (by omega)] at h2
        simp only [Option.some.injEq, Prod.mk.injEq] at h2
        obtain ⟨rfl, rfl⟩ := h2
        exact ⟨h3, by omega, h5, h6⟩
    · rw [if_neg hp] at h2
      obtain ⟨h3, h4, h5, h6⟩ := ih b i h2
      exact ⟨h3, by omega, h5, h6⟩

theorem scan_more_some {l : List (Int × Int)} {p : Int × Int} {out : List Int} {b t : Nat} : ∀ {n : Nat}, scanTo l out n = some (b, t) → scanTo (l ++ [p]) out n = some (b, t)
  | 0, h => by simp [scanTo] at h
  | n + 1, h => by
    have hlt := scanTo_lt h
    rw [scanTo] at h ⊢
    rw [rank_more]
    cases hr : rank l (out.getD n 0) (out.getD (n + 1) 0) with
    | none =>
      rw [hr] at h
      dsimp only at h ⊢
      rw [scan_more_some (p := p) h]
      by_cases hp : p = (out.getD n 0, out.getD (n + 1) 0)
      · rw [if_pos hp]
        dsimp only
        rw [if_neg (by omega)]
      · rw [if_neg hp]
    | some k =>
      have hk : k < l.length := (rankTo_some.1 hr).1
      rw [hr] at h
      dsimp only at h ⊢
      cases hs : scanTo l out n with
      | none =>
        rw [hs] at h
        dsimp only at h
        have hm := scan_more_none (p := p) hs
        cases hs2 : scanTo (l ++ [p]) out n with
        | none => exact h
        | some q =>
          obtain ⟨b', t'⟩ := q
          have := (hm b' t' hs2).1
          dsimp only
          rw [if_pos (by omega)]
          exact h
      | some q =>
        obtain ⟨b', t'⟩ := q
        rw [hs] at h
        rw [scan_more_some (p := p) hs]
        exact h

theorem more_first {l : List (Int × Int)} {p : Int × Int} : ∀ (f : Nat) (out : List Int), out.length ≤ f → ∃ f', (mergeF l f out).length ≤ f' ∧ mergeF (l ++ [p]) f out = mergeF (l ++ [p]) f' (mergeF l f out)
  | 0, out, h => ⟨0, by simpa [mergeF] using h, rfl⟩
  | f + 1, out, h => by
    cases hs : scan l out with
    | none => exact ⟨f + 1, by rw [mergeF_stop hs]; exact h, by rw [mergeF_stop hs]⟩
    | some q =>
      obtain ⟨b, i⟩ := q
      have hi := (scanTo_lt hs).1
      have hl := length_merged (b := b) (show i + 1 < out.length by omega)
      obtain ⟨f', h1, h2⟩ := more_first f (merged out b i) (by omega)
      refine ⟨f', by rw [mergeF_step hs]; exact h1, ?_⟩
      rw [mergeF_step hs, mergeF_step (scan_more_some (p := p) hs)]
      exact h2

theorem getD_mid (P r : List Int) (x y N : Int) (i : Nat) : (P ++ [N] ++ r).getD i 0 = if i < P.length then (P ++ x :: y :: r).getD i 0 else if i = P.length then N else (P ++ x :: y :: r).getD (i + 1) 0 := by
  split
  · rename_i h
    rw [List.append_assoc, getD_append_left _ _ _ _ h, getD_append_left _ _ _ _ h]
  · split
    · rename_i h
      subst h
      simp
    · rename_i h1 h2
      rw [List.getD, List.getD, List.getElem?_append_right (by simp; omega), List.getElem?_append_right (by omega)]
      obtain ⟨d, rfl⟩ : ∃ d, i = P.length + 1 + d := ⟨i - (P.length + 1), by omega⟩
      rw [show P.length + 1 + d - (P ++ [N]).length = d by simp, show P.length + 1 + d + 1 - P.length = d + 1 + 1 by omega]
      simp

theorem more_then {l : List (Int × Int)} {p : Int × Int} (hN1 : p.1 < 256 + (l.length : Int)) (hN2 : p.2 < 256 + (l.length : Int)) (hl : ∀ j, j < l.length → (l.getD j (0, 0)).1 < 256 + (l.length : Int) ∧ (l.getD j (0, 0)).2 < 256 + (l.length : Int)) :
    ∀ (r P : List Int) (f : Nat), (P ++ r).length ≤ f →
    (∀ i, i + 1 < (P ++ r).length → rank l ((P ++ r).getD i 0) ((P ++ r).getD (i + 1) 0) = none) →
    (∀ i, i < P.length → i + 1 < (P ++ r).length → p ≠ ((P ++ r).getD i 0, (P ++ r).getD (i + 1) 0)) →
    mergeF (l ++ [p]) f (P ++ r) = P ++ wantL p.1 p.2 (256 + (l.length : Int)) r := by
  have hstop : ∀ (out : List Int) (f : Nat), (∀ i, i + 1 < out.length → rank l (out.getD i 0) (out.getD (i + 1) 0) = none) → (∀ i, i + 1 < out.length → p ≠ (out.getD i 0, out.getD (i + 1) 0)) → mergeF (l ++ [p]) f out = out := by
    intro out f h1 h2
    refine mergeF_stop ?_
    cases hs : scan (l ++ [p]) out with
    | none => rfl
    | some q =>
      obtain ⟨b, i⟩ := q
      obtain ⟨h3, _, h4⟩ := scanTo_lt hs
      rw [rank_more, h1 i (by omega), if_neg (h2 i (by omega))] at h4
      cases h4
  have hnl : ∀ a b : Int, a = 256 + (l.length : Int) ∨ b = 256 + (l.length : Int) → rank l a b = none := by
    intro a b h
    cases hr : rank l a b with
    | none => rfl
    | some k =>
      obtain ⟨h1, h2, _⟩ := rankTo_some.1 hr
      have := hl k h1
      rw [h2] at this
      dsimp only at this
      omega
  intro r
  induction hn : r.length using Nat.strongRecOn generalizing r with
  | _ n ih =>
    intro P f hf h1 h2
    match r, hn with
    | [], _ =>
      rw [List.append_nil] at h1 h2 ⊢
      rw [hstop P f h1 (fun i hi => h2 i (by omega) hi)]
      simp [wantL]
    | [x], _ =>
      rw [hstop (P ++ [x]) f h1 (fun i hi => h2 i (by simp at hi; omega) hi)]
      simp [wantL]
    | x :: y :: r', hn =>
      simp only [List.length_cons] at hn
      have e0 : (P ++ x :: y :: r').getD P.length 0 = x := by simp
      have e1 : (P ++ x :: y :: r').getD (P.length + 1) 0 = y := by rw [List.getD, List.getElem?_append_right (by omega)]; simp
      have hlen : (P ++ x :: y :: r').length = P.length + r'.length + 2 := by simp; omega
      rw [wantL]
      by_cases hp : x = p.1 ∧ y = p.2
      · rw [if_pos hp]
        obtain ⟨f, rfl⟩ : ∃ f', f = f' + 1 := ⟨f - 1, by omega⟩
        have hs : scan (l ++ [p]) (P ++ x :: y :: r') = some (l.length, P.length) := by
          have hno : scan l (P ++ x :: y :: r') = none := by
            cases hs : scan l (P ++ x :: y :: r') with
            | none => rfl
            | some q =>
              obtain ⟨b, i⟩ := q
              obtain ⟨h3, _, h4⟩ := scanTo_lt hs
              rw [h1 i (by omega)] at h4
              cases h4
          cases hs : scan (l ++ [p]) (P ++ x :: y :: r') with
          | none =>
            have h3 := scanTo_none hs P.length (by omega)
            rw [e0, e1, rank_more, hp.1, hp.2] at h3
            split at h3
            · cases h3
            · simp at h3
          | some q =>
            obtain ⟨b, i⟩ := q
            obtain ⟨h3, h4, h5, h6⟩ := scan_more_none (p := p) hno b i hs
            have h7 : ¬ i < P.length := fun h => h2 i h (by omega) h5
            have h8 : ¬ P.length < i := fun h => h6 P.length h (by rw [e0, e1, hp.1, hp.2])
            rw [h3, show i = P.length by omega]
        rw [mergeF_step hs]
        have hm : merged (P ++ x :: y :: r') l.length P.length = P ++ [256 + (l.length : Int)] ++ r' := by
          unfold merged
          rw [List.take_left, show P.length + 2 = (P ++ [x, y]).length by simp, show P ++ x :: y :: r' = (P ++ [x, y]) ++ r' by simp, List.drop_left]
          simp
        rw [hm]
        have hg := getD_mid P r' x y (256 + (l.length : Int))
        have hlen2 : (P ++ [256 + (l.length : Int)] ++ r').length = P.length + r'.length + 1 := by simp; omega
        have := ih r'.length (by omega) r' rfl (P ++ [256 + (l.length : Int)]) f (by omega) (fun i hi => by
          rw [hg i, hg (i + 1)]
          by_cases c1 : i + 1 < P.length
          · rw [if_pos (by omega), if_pos c1]; exact h1 i (by omega)
          · by_cases c2 : i + 1 = P.length
            · rw [if_neg c1, if_pos c2]; exact hnl _ _ (.inr rfl)
            · by_cases c3 : i = P.length
              · rw [if_neg (by omega), if_pos c3]; exact hnl _ _ (.inl rfl)
              · rw [if_neg (by omega), if_neg c3, if_neg c1, if_neg c2]; exact h1 (i + 1) (by omega)) (fun i hi hi2 e => by
          rw [hg i, hg (i + 1)] at e
          simp only [List.length_append, List.length_singleton] at hi
          by_cases c1 : i + 1 < P.length
          · rw [if_pos (by omega), if_pos c1] at e; exact h2 i (by omega) (by omega) e
          · by_cases c2 : i + 1 = P.length
            · rw [if_neg c1, if_pos c2] at e
              have := congrArg Prod.snd e
              dsimp only at this
              omega
            · rw [if_neg (by omega), if_pos (by omega)] at e
              have := congrArg Prod.fst e
              dsimp only at this
              omega)
        rw [this]
        simp
      · rw [if_neg hp]
        have e2 : P ++ x :: y :: r' = (P ++ [x]) ++ (y :: r') := by simp
        have := ih (y :: r').length (by simp; omega) (y :: r') rfl (P ++ [x]) f (by rw [← e2]; exact hf) (by rw [← e2]; exact h1) (by
          rw [← e2]
          intro i hi hi2 e
          by_cases c : i < P.length
          · exact h2 i c hi2 e
          · simp at hi
            obtain rfl : i = P.length := by omega
            rw [e0, e1] at e
            exact hp ⟨by rw [e], by rw [e]⟩)
        rw [e2, this]
        simp

theorem apply_ok {l : List (Int × Int)} {ids : List Int} (h : (apply l ids).2 = 0) : (texts l).2 = 0 ∧ ids.any (badId l.length) = false ∧ apply l ids = (mergeAll l ids, 0) := by
  by_cases h0 : (texts l).2 = 0
  · by_cases hb : 4096 < ids.length
    · rw [apply_long h0 hb] at h; cases h
    · cases hbad : ids.any (badId l.length) with
      | true => rw [apply_arg h0 hb hbad] at h; cases h
      | false => exact ⟨h0, rfl, apply_good h0 hb hbad⟩
  · rw [apply_bad rfl h0] at h; exact absurd h h0

/-- THE LAW, in plain words -/
theorem more {l : List (Int × Int)} {p : Int × Int} {ids : List Int} (h1 : (apply l ids).2 = 0) (h2 : (apply (l ++ [p]) ids).2 = 0) :
    (apply (l ++ [p]) ids).1 = wantL p.1 p.2 (256 + (l.length : Int)) (apply l ids).1 := by
  obtain ⟨t1, _, e1⟩ := apply_ok h1
  obtain ⟨t2, _, e2⟩ := apply_ok h2
  rw [e1, e2]
  have v1 := (texts_valid t1).2
  have v2 := (texts_valid t2).2 l.length (by simp)
  have ep : (l ++ [p]).getD l.length (0, 0) = p := by simp
  rw [ep] at v2
  obtain ⟨f', h3, h4⟩ := more_first (l := l) (p := p) ids.length ids (Nat.le_refl _)
  have hdone := mergeF_done (l := l) ids.length ids (Nat.le_refl _)
  have := more_then (l := l) (p := p) v2.2.1 v2.2.2.2 (fun j hj => by have := v1 j hj; omega) (mergeF l ids.length ids) [] f' (by simpa using h3)
    (fun i hi => by rw [List.nil_append] at hi ⊢; exact scanTo_none hdone i (by omega)) (fun i hi => absurd hi (by simp))
  rw [List.nil_append, List.nil_append] at this
  show mergeF (l ++ [p]) ids.length ids = _
  rw [h4, this]
  rfl

theorem wantL_hit {L R N : Int} {out : List Int} {k : Nat} (hk : k + 1 < out.length) (h1 : out.getD k 0 = L) (h2 : out.getD (k + 1) 0 = R) : wantL L R N (out.drop k) = N :: wantL L R N (out.drop (k + 2)) := by
  have e1 : out.drop k = out.getD k 0 :: out.drop (k + 1) := by rw [List.drop_eq_getElem_cons (by omega)]; simp [show k < out.length by omega]
  have e2 : out.drop (k + 1) = out.getD (k + 1) 0 :: out.drop (k + 2) := by rw [List.drop_eq_getElem_cons hk]; simp [hk]
  rw [e1, e2, wantL, if_pos ⟨h1, h2⟩]
theorem wantL_miss {L R N : Int} {out : List Int} {k : Nat} (hk : k < out.length) (h : k + 1 < out.length → out.getD k 0 = L → out.getD (k + 1) 0 = R → False) : wantL L R N (out.drop k) = out.getD k 0 :: wantL L R N (out.drop (k + 1)) := by
  have e1 : out.drop k = out.getD k 0 :: out.drop (k + 1) := by rw [List.drop_eq_getElem_cons hk]; simp [hk]
  by_cases hk2 : k + 1 < out.length
  · have e2 : out.drop (k + 1) = out.getD (k + 1) 0 :: out.drop (k + 2) := by rw [List.drop_eq_getElem_cons hk2]; simp [hk2]
    rw [e1, e2, wantL, if_neg (fun e => h hk2 e.1 e.2)]
  · have e2 : out.drop (k + 1) = [] := List.drop_of_length_le (by omega)
    rw [e1, e2]
    rfl
theorem wantL_len {L R N : Int} : ∀ (r : List Int), (wantL L R N r).length ≤ r.length
  | [] => by simp [wantL]
  | [x] => by simp [wantL]
  | x :: y :: r => by
    rw [wantL]
    have h1 := wantL_len (L := L) (R := R) (N := N) r
    have h2 := wantL_len (L := L) (R := R) (N := N) (y :: r)
    split
    · simp; omega
    · simp at h2 ⊢; omega
end Go.Proofs.Ytlfhiehlokedmaa
