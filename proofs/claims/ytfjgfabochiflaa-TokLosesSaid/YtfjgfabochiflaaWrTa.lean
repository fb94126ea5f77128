/- What ids write: plain. -/
import Derived.Test.YtfjgfabochiflaaCfgTa
namespace Go.Proofs.Ytfjgfabochiflaa
open Go.RowKit

theorem goTexts_len : ∀ (ms : List (Int × Int)) (k : Nat) (out o : List H14.Txt), H14.goTexts k out ms = some o → out.length = 256 + k → H14.short64 out → o.length = 256 + k + ms.length ∧ H14.short64 o
  | [], k, out, o, h, hl, hs => by
    unfold H14.goTexts at h
    injection h with h
    subst h
    exact ⟨by simpa using hl, hs⟩
  | m :: ms, k, out, o, h, hl, hs => by
    unfold H14.goTexts at h
    split at h
    · cases h
    · simp only at h
      split at h
      · cases h
      · rename_i h2
        have := goTexts_len ms (k + 1) _ o h (by simp; omega) (H14.short64_snoc hs (by omega))
        exact ⟨by rw [this.1]; simp; omega, this.2⟩
theorem texts_len {l : List (Int × Int)} (h : (H14.texts l).2 = 0) : (H14.texts l).1.length = 256 + l.length ∧ H14.short64 (H14.texts l).1 := by
  unfold H14.texts at h ⊢
  split
  · rename_i h1; rw [if_pos h1] at h; cases h
  · rename_i h1
    rw [if_neg h1] at h
    cases hg : H14.goTexts 0 H14.baseTexts l with
    | none => rw [hg] at h; cases h
    | some o =>
      have := goTexts_len l 0 H14.baseTexts o hg (by simp [H14.baseTexts]) H14.short64_base
      simpa using this

/-- what an id writes -/
def idText (T : List H14.Txt) (i : Int) : List UInt8 := if i < (T.length : Int) then T.getD i.toNat [] else []
def idsText (T : List H14.Txt) (ids : List Int) : List UInt8 := (ids.map (idText T)).flatten
theorem idsText_snoc (T : List H14.Txt) (ids : List Int) (x : Int) : idsText T (ids ++ [x]) = idsText T ids ++ idText T x := by simp [idsText]
theorem idText_le {T : List H14.Txt} (h : H14.short64 T) (x : Int) : (idText T x).length ≤ 64 := by
  unfold idText
  split
  · exact H14.short64_get h _
  · simp
theorem idsText_le {T : List H14.Txt} (h : H14.short64 T) : ∀ ids, (idsText T ids).length ≤ 64 * ids.length
  | [] => by simp [idsText]
  | x :: ids => by
    have h1 := idText_le h x
    have h2 := idsText_le h ids
    have : idsText T (x :: ids) = idText T x ++ idsText T ids := by simp [idsText]
    rw [this, List.length_append, List.length_cons]
    omega
def idsOk (ids : List Int) (N : Int) : Prop := ∀ j, j < ids.length → 0 ≤ ids.getD j 0 ∧ ids.getD j 0 < N
open Classical in
/-- what Text answers -/
noncomputable def textR (c : Cfg) (ids : List Int) : ByteArray × Int :=
  if cfgE c ≠ 0 then (⟨#[]⟩, cfgE c)
  else if 262144 < ids.length then (⟨#[]⟩, 2)
  else if idsOk ids (256 + c.merges.length + c.names.length : Nat) then (⟨(idsText (H14.texts c.merges).1 ids).toArray⟩, 0) else (⟨#[]⟩, 1)
theorem textR_cfg {c : Cfg} {ids : List Int} (h : cfgE c ≠ 0) : textR c ids = (⟨#[]⟩, cfgE c) := by unfold textR; rw [if_pos h]
theorem textR_long {c : Cfg} {ids : List Int} (h : cfgE c = 0) (h1 : 262144 < ids.length) : textR c ids = (⟨#[]⟩, 2) := by unfold textR; rw [if_neg (by rw [h]; simp), if_pos h1]
theorem textR_ok {c : Cfg} {ids : List Int} (h : cfgE c = 0) (h1 : ids.length ≤ 262144) (h2 : idsOk ids (256 + c.merges.length + c.names.length : Nat)) : textR c ids = (⟨(idsText (H14.texts c.merges).1 ids).toArray⟩, 0) := by unfold textR; rw [if_neg (by rw [h]; simp), if_neg (by omega), if_pos h2]
theorem textR_bad {c : Cfg} {ids : List Int} (h : cfgE c = 0) (h1 : ids.length ≤ 262144) (h2 : ¬ idsOk ids (256 + c.merges.length + c.names.length : Nat)) : textR c ids = (⟨#[]⟩, 1) := by unfold textR; rw [if_neg (by rw [h]; simp), if_neg (by omega), if_neg h2]
end Go.Proofs.Ytfjgfabochiflaa
