/- Merging changes no text; what ids write. Plain. -/
import Derived.Test.YtfjgfabochiflaaCfgTc
import Derived.Test.YtfjgfabochiflaaTkTTc
import Derived.Test.YtfjgfabochiflaaHXMATc
namespace Go.Proofs.Ytfjgfabochiflaa.H14.R13

def joinT (T : List Txt) (ids : List Int) : Txt := ids.flatMap fun i => T.getD i.toNat []
theorem getD_append_left {α : Type} (a b : List α) (i : Nat) (d : α) (h : i < a.length) : (a ++ b).getD i d = a.getD i d := by
  rw [List.getD, List.getD, List.getElem?_append_left h]
theorem goTexts_keep : ∀ (ms : List (Int × Int)) (k : Nat) (out o : List Txt), goTexts k out ms = some o → out.length = 256 + k → short64 out →
    o.length = out.length + ms.length ∧ short64 o ∧ (∀ i, i < out.length → o.getD i [] = out.getD i []) ∧
    ∀ j, j < ms.length → o.getD (256 + k + j) [] = o.getD (ms.getD j (0,0)).1.toNat [] ++ o.getD (ms.getD j (0,0)).2.toNat []
  | [], k, out, o, h, hl, hs => by
    simp [goTexts] at h
    subst h
    exact ⟨by simp, hs, fun _ _ => rfl, fun j hj => absurd hj (by simp)⟩
  | m :: ms, k, out, o, h, hl, hs => by
    rw [goTexts] at h
    split at h
    · cases h
    · rename_i hv
      dsimp only at h
      split at h
      · cases h
      · rename_i h64
        obtain ⟨h1, h2, h3, h4⟩ := goTexts_keep ms _ _ _ h (by simp; omega) (short64_snoc hs (by
          by_cases hb : 64 < (out.getD m.1.toNat [] ++ out.getD m.2.toNat []).length
          · exact absurd (.inl hb) h64
          · omega))
        have hpre : ∀ i, i < out.length → o.getD i [] = out.getD i [] := fun i hi => by
          rw [h3 i (by simp; omega), getD_append_left _ _ _ _ hi]
        refine ⟨by rw [h1]; simp; omega, h2, hpre, fun j hj => ?_⟩
        match j with
        | 0 =>
          simp only [List.getD_cons_zero, Nat.add_zero]
          rw [hpre m.1.toNat (by omega), hpre m.2.toNat (by omega), h3 (256 + k) (by simp; omega), ← hl]
          simp
        | j + 1 =>
          have := h4 j (by simpa using hj)
          rw [List.getD_cons_succ, ← this]
          congr 1
          omega
theorem texts_keepB {l : List (Int × Int)} (h : (texts l).2 = 0) : (texts l).1.length = 256 + l.length ∧ short64 (texts l).1 ∧
    (∀ j, j < l.length → (texts l).1.getD (256 + j) [] = (texts l).1.getD (l.getD j (0,0)).1.toNat [] ++ (texts l).1.getD (l.getD j (0,0)).2.toNat []) ∧ ∀ b, b < 256 → (texts l).1.getD b [] = [UInt8.ofNat b] := by
  unfold texts at h ⊢
  split
  · rename_i hl; rw [if_pos hl] at h; cases h
  · rename_i hl
    rw [if_neg hl] at h
    cases hg : goTexts 0 baseTexts l with
    | none => rw [hg] at h; cases h
    | some o =>
      obtain ⟨h1, h2, h5, h4⟩ := goTexts_keep l 0 baseTexts o hg (by simp [baseTexts]) short64_base
      refine ⟨by rw [h1]; simp [baseTexts], h2, fun j hj => ?_, fun b hb => ?_⟩
      · have := h4 j hj
        rw [Nat.add_zero] at this
        exact this
      · show o.getD b [] = _
        rw [h5 b (by simp [baseTexts]; exact hb)]
        simp [baseTexts, hb]
theorem joinT_merged {T : List Txt} {out : List Int} {b i : Nat} (hi : i + 1 < out.length) (h : T.getD (256 + b) [] = T.getD (out.getD i 0).toNat [] ++ T.getD (out.getD (i + 1) 0).toNat []) :
    joinT T (merged out b i) = joinT T out := by
  have e : out = out.take i ++ (out.getD i 0 :: out.getD (i + 1) 0 :: out.drop (i + 2)) := by
    have h1 : out.drop i = out.getD i 0 :: out.drop (i + 1) := by
      rw [List.drop_eq_getElem_cons (by omega)]; simp [show i < out.length by omega]
    have h2 : out.drop (i + 1) = out.getD (i + 1) 0 :: out.drop (i + 2) := by
      rw [List.drop_eq_getElem_cons hi]; simp [hi]
    rw [← h2, ← h1, List.take_append_drop]
  have e2 : joinT T out = joinT T (out.take i ++ (out.getD i 0 :: out.getD (i + 1) 0 :: out.drop (i + 2))) := by rw [← e]
  rw [e2]
  unfold merged joinT
  have hn : (256 + (b : Int)).toNat = 256 + b := by omega
  simp only [List.flatMap_append, List.flatMap_cons, hn, h, List.append_assoc]
theorem mergeF_joins {l : List (Int × Int)} {T : List Txt} (hT : ∀ j, j < l.length → T.getD (256 + j) [] = T.getD (l.getD j (0,0)).1.toNat [] ++ T.getD (l.getD j (0,0)).2.toNat []) : ∀ (f : Nat) (out : List Int), joinT T (mergeF l f out) = joinT T out
  | 0, out => rfl
  | f + 1, out => by
    cases hs : scan l out with
    | none => rw [mergeF_stop hs]
    | some p =>
      obtain ⟨b, i⟩ := p
      obtain ⟨h1, h2, h3⟩ := scanTo_lt hs
      obtain ⟨-, h4, -⟩ := rankTo_some.1 h3
      rw [mergeF_step hs, mergeF_joins hT f]
      refine joinT_merged (by omega) ?_
      rw [hT b h2, h4]
theorem mergeF_bd {l : List (Int × Int)} {n : Nat} (hn : l.length = n) : ∀ (f : Nat) (out : List Int), (∀ i, i < out.length → 0 ≤ out.getD i 0 ∧ out.getD i 0 < 256 + (n : Int)) → ∀ i, i < (mergeF l f out).length → 0 ≤ (mergeF l f out).getD i 0 ∧ (mergeF l f out).getD i 0 < 256 + (n : Int)
  | 0, out, h => h
  | f + 1, out, h => by
    cases hs : scan l out with
    | none => rw [mergeF_stop hs]; exact h
    | some p =>
      obtain ⟨b, i⟩ := p
      obtain ⟨h1, h2, -⟩ := scanTo_lt hs
      rw [mergeF_step hs]
      exact mergeF_bd hn f _ (merged_bd (by omega) (by omega) h)
end Go.Proofs.Ytfjgfabochiflaa.H14.R13
namespace Go.Proofs.Ytfjgfabochiflaa
open H14 (bytesI)

theorem idsText_append (T : List H14.Txt) (a b : List Int) : idsText T (a ++ b) = idsText T a ++ idsText T b := by simp [idsText]
theorem idsText_up {T : List H14.Txt} {N : Nat} (hT : T.length = 256 + N) : ∀ l : List Int, (∀ j, j < l.length → 0 ≤ l.getD j 0) → idsText T (upI N l) = []
  | [], _ => rfl
  | x :: l, h => by
    have h1 := h 0 (by simp)
    simp at h1
    have h2 := idsText_up hT l (fun j hj => by have := h (j + 1) (by simpa using hj); simpa using this)
    have : idsText T (upI N (x :: l)) = idText T (256 + (N : Int) + x) ++ idsText T (upI N l) := by simp [idsText, upI]
    rw [this, h2]
    unfold idText
    rw [if_neg (by omega)]
    rfl
theorem idsText_join {T : List H14.Txt} : ∀ l : List Int, (∀ j, j < l.length → 0 ≤ l.getD j 0 ∧ l.getD j 0 < (T.length : Int)) → idsText T l = H14.R13.joinT T l
  | [], _ => rfl
  | x :: l, h => by
    have h1 := h 0 (by simp)
    simp at h1
    have h2 := idsText_join l (fun j hj => by have := h (j + 1) (by simpa using hj); simpa using this)
    have e1 : idsText T (x :: l) = idText T x ++ idsText T l := by simp [idsText]
    have e2 : H14.R13.joinT T (x :: l) = T.getD x.toNat [] ++ H14.R13.joinT T l := by simp [H14.R13.joinT]
    rw [e1, e2, h2]
    unfold idText
    rw [if_pos h1.2]
theorem bytesI_bd (p : ByteArray) : ∀ j, j < (bytesI p).length → 0 ≤ (bytesI p).getD j 0 ∧ (bytesI p).getD j 0 < 256 := fun j hj => by
  have hm : (bytesI p).getD j 0 ∈ bytesI p := getD_mem hj
  unfold H14.bytesI at hm
  obtain ⟨b, _, hb⟩ := List.mem_map.1 hm
  have := b.toNat_lt
  unfold H14.bytesI
  omega
theorem joinT_bytes {T : List H14.Txt} (h : ∀ b, b < 256 → T.getD b [] = [UInt8.ofNat b]) (p : ByteArray) : H14.R13.joinT T (bytesI p) = p.data.toList := by
  unfold H14.R13.joinT H14.bytesI
  rw [List.flatMap_map]
  have : ∀ l : List UInt8, (l.flatMap fun b => T.getD ((b.toNat : Int)).toNat []) = l := fun l => by
    induction l with
    | nil => rfl
    | cons b l ih =>
      rw [List.flatMap_cons, ih, Int.toNat_natCast, h _ b.toNat_lt]
      simp
  exact this _
theorem pieceI_bd (l : List (Int × Int)) (p : ByteArray) : ∀ j, j < (pieceI l p).length → 0 ≤ (pieceI l p).getD j 0 ∧ (pieceI l p).getD j 0 < 256 + (l.length : Int) :=
  H14.R13.mergeF_bd rfl _ _ (fun j hj => by have := bytesI_bd p j hj; omega)
theorem pieceI_text {l : List (Int × Int)} (h : (H14.texts l).2 = 0) (p : ByteArray) : idsText (H14.texts l).1 (pieceI l p) = p.data.toList := by
  obtain ⟨h1, _, h3, h4⟩ := H14.R13.texts_keepB h
  rw [idsText_join _ (fun j hj => by have := pieceI_bd l p j hj; omega)]
  unfold pieceI H14.R13.mergeAll
  rw [H14.R13.mergeF_joins h3, joinT_bytes h4]
theorem piecesI_text {l : List (Int × Int)} (h : (H14.texts l).2 = 0) : ∀ P : List ByteArray, idsText (H14.texts l).1 (piecesI l P) = P.flatMap (·.data.toList)
  | [] => rfl
  | p :: P => by
    have e : piecesI l (p :: P) = pieceI l p ++ piecesI l P := by simp [piecesI]
    rw [e, idsText_append, pieceI_text h, piecesI_text h P, List.flatMap_cons]
theorem frame_lo {l : List Int} {n : Nat} (h : FrameOk l n) : ∀ j, j < l.length → 0 ≤ l.getD j 0 ∧ l.getD j 0 < (n : Int) := fun j hj => by
  apply Classical.byContradiction
  intro h2
  exact h.all ⟨j, hj, by omega⟩
/-- nothing is lost -/
theorem tokL_text {c : Cfg} (h : cfgE c = 0) (x : ByteArray) : idsText (H14.texts c.merges).1 (tokL c x) = x.data.toList := by
  obtain ⟨hF, hR⟩ := cfgE_zero h
  have hl := (texts_len hF.merges).1
  unfold tokL
  rw [idsText_append, idsText_append, idsText_up hl _ (fun j hj => (frame_lo hR.before j hj).1), idsText_up hl _ (fun j hj => (frame_lo hR.after j hj).1), piecesI_text hF.merges, pieces_join, List.nil_append, List.append_nil]
theorem idsOk_append {a b : List Int} {N : Int} (ha : idsOk a N) (hb : idsOk b N) : idsOk (a ++ b) N := fun j hj => by
  by_cases h : j < a.length
  · have := ha j h
    simpa [List.getD, List.getElem?_append_left h] using this
  · have := hb (j - a.length) (by rw [List.length_append] at hj; omega)
    simpa [List.getD, List.getElem?_append_right (Nat.le_of_not_lt h)] using this
theorem upI_ok {l : List Int} {n M : Nat} (h : FrameOk l n) : idsOk (upI M l) ((256 + M + n : Nat) : Int) := fun j hj => by
  have hl : j < l.length := by simpa [upI] using hj
  have := frame_lo h j hl
  have e : (upI M l).getD j 0 = 256 + (M : Int) + l.getD j 0 := by simp [upI, hl]
  rw [e]
  omega
theorem piecesI_ok (l : List (Int × Int)) (n : Nat) : ∀ P : List ByteArray, idsOk (piecesI l P) ((256 + l.length + n : Nat) : Int)
  | [] => fun j hj => absurd hj (by simp [piecesI])
  | p :: P => by
    have e : piecesI l (p :: P) = pieceI l p ++ piecesI l P := by simp [piecesI]
    rw [e]
    exact idsOk_append (fun j hj => by have := pieceI_bd l p j hj; omega) (piecesI_ok l n P)
theorem tokL_ok {c : Cfg} (h : cfgE c = 0) (x : ByteArray) : idsOk (tokL c x) ((256 + c.merges.length + c.names.length : Nat) : Int) := by
  obtain ⟨hF, hR⟩ := cfgE_zero h
  exact idsOk_append (idsOk_append (upI_ok hR.before) (piecesI_ok _ _ _)) (upI_ok hR.after)
theorem tokL_len {c : Cfg} (x : ByteArray) : (tokL c x).length ≤ x.size + c.before.length + c.after.length ∧ c.before.length + c.after.length ≤ (tokL c x).length := by
  have h1 := piecesI_le c.merges (piecesT c.split x)
  rw [pieces_join, T12.size_data] at h1
  unfold tokL
  rw [List.length_append, List.length_append]
  simp only [upI, List.length_map]
  omega
end Go.Proofs.Ytfjgfabochiflaa
