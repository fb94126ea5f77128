/- Merging by a queue and merging by definition: the same. Plain. -/
import Derived.Test.YtklklmaclaohaaaLAgain
import Derived.Test.YtklklmaclaohaaaXTok
namespace Go.Proofs.Ytklklmaclaohaaa
theorem bestTo_scan {F : Int → Int → Option Nat} {l : List (Int × Int)} {out : List Int} (h : ∀ a b, 0 ≤ a → 0 ≤ b → F a b = R13.rank l a b) (hp : ∀ k, 0 ≤ out.getD k 0) :
    ∀ k, bestTo (fget F) out k = (R13.scanTo l out k).map fun p => (p.2, (p.1 : Int), 256 + (p.1 : Int))
  | 0 => rfl
  | k + 1 => by
    rw [bestTo, R13.scanTo, bestTo_scan h hp k]
    unfold fget
    rw [h _ _ (hp k) (hp (k + 1))]
    cases R13.rank l (out.getD k 0) (out.getD (k + 1) 0) with
    | none => rfl
    | some r =>
      cases R13.scanTo l out k with
      | none => rfl
      | some q =>
        obtain ⟨b, i⟩ := q
        show (if (r : Int) < (b : Int) then some (k, (r : Int), 256 + (r : Int)) else some (i, (b : Int), 256 + (b : Int))) = Option.map _ (if r < b then some (r, k) else some (b, i))
        by_cases hrb : r < b
        · rw [if_pos hrb, if_pos (by omega)]; rfl
        · rw [if_neg hrb, if_neg (by omega)]; rfl
theorem mergeN_def {F : Int → Int → Option Nat} {l : List (Int × Int)} (hl : l.length ≤ 1024) (h : ∀ a b, 0 ≤ a → 0 ≤ b → F a b = R13.rank l a b) : ∀ (f : Nat) (out : List Int), (∀ x ∈ out, 0 ≤ x) → mergeN (fget F) 1280 f out = some (R13.mergeF l f out)
  | 0, out, _ => rfl
  | f + 1, out, hp => by
    have hp2 : ∀ k, 0 ≤ out.getD k 0 := fun k => by
      by_cases hk : k < out.length
      · have : out.getD k 0 = out[k] := by simp [hk]
        rw [this]; exact hp _ (List.getElem_mem hk)
      · simp [hk]
    rw [mergeN, bestOf, bestTo_scan h hp2, R13.mergeF, R13.scan]
    cases hs : R13.scanTo l out (out.length - 1) with
    | none => rfl
    | some q =>
      obtain ⟨b, i⟩ := q
      have hb := R13.scanTo_lt hs
      simp only [Option.map_some]
      rw [if_neg (by omega)]
      refine mergeN_def hl h f _ (fun x hx => ?_)
      rcases List.mem_append.1 hx with h9 | h9
      · exact hp x (List.mem_of_mem_take h9)
      · rcases List.mem_cons.1 h9 with h8 | h8
        · omega
        · exact hp x (List.mem_of_mem_drop h8)
theorem merge_def {F : Int → Int → Option Nat} {l : List (Int × Int)} (hl : l.length ≤ 1024) (h : ∀ a b, 0 ≤ a → 0 ≤ b → F a b = R13.rank l a b) (s : ByteArray) : mergeF (fget F) 1280 (bytesI s) = some (R13.mergeAll l (bytesI s)) :=
  mergeN_def hl h _ _ (fun x hx => by
    unfold bytesI at hx
    obtain ⟨b, _, rfl⟩ := List.mem_map.1 hx
    omega)
theorem rankTo_none (l : List (Int × Int)) (a b : Int) : ∀ n, rankTo noDrop l a b n = R13.rankTo l a b n
  | 0 => rfl
  | n + 1 => by
    rw [rankTo, R13.rankTo, rankTo_none l a b n]
    cases R13.rankTo l a b n with
    | some k => rfl
    | none => simp [noDrop]
theorem bytes_ok (s : ByteArray) (n : Nat) : (bytesI s).any (fun i => decide (i < 0) || decide (256 + (n : Int) ≤ i)) = false := by
  rw [List.any_eq_false]
  intro x hx
  unfold bytesI at hx
  obtain ⟨b, _, rfl⟩ := List.mem_map.1 hx
  have := b.toNat_lt
  simp
  omega
end Go.Proofs.Ytklklmaclaohaaa
