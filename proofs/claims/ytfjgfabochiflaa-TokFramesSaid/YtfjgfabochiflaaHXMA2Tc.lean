/- HXMA2, HXTok of this seat, in one text. -/
import Derived.Test.YtfjgfabochiflaaHXMATc
import Derived.Test.YtfjgfabochiflaaHXMCTc
import Derived.Test.YtfjgfabochiflaaHSmTc
/- The program's Apply: the ids, merged, or refused. -/
namespace Go.Proofs.Ytfjgfabochiflaa.H14.R13
open Go.RowKit Go.Maps Go.WideMaps

theorem goTexts_valid : ∀ (ms : List (Int × Int)) (k : Nat) (out o : List Txt), goTexts k out ms = some o → ∀ j, j < ms.length → 0 ≤ (ms.getD j (0,0)).1 ∧ (ms.getD j (0,0)).1 < 256 + (k + j : Nat) ∧ 0 ≤ (ms.getD j (0,0)).2 ∧ (ms.getD j (0,0)).2 < 256 + (k + j : Nat)
  | [], _, _, _, _, j, hj => absurd hj (by simp)
  | m :: ms, k, out, o, h, j, hj => by
    rw [goTexts] at h
    split at h
    · cases h
    · rename_i hv
      dsimp only at h
      split at h
      · cases h
      · match j with
        | 0 => simp; omega
        | j + 1 =>
          have := goTexts_valid ms _ _ _ h j (by simpa using hj)
          simp only [List.getD_cons_succ]
          omega
theorem texts_valid {l : List (Int × Int)} (h : (texts l).2 = 0) : l.length ≤ 1024 ∧ ∀ j, j < l.length → 0 ≤ (l.getD j (0,0)).1 ∧ (l.getD j (0,0)).1 < 256 + (j : Nat) ∧ 0 ≤ (l.getD j (0,0)).2 ∧ (l.getD j (0,0)).2 < 256 + (j : Nat) := by
  unfold texts at h
  split at h
  · cases h
  · rename_i hl
    cases hg : goTexts 0 baseTexts l with
    | none => rw [hg] at h; cases h
    | some o =>
      refine ⟨by omega, fun j hj => ?_⟩
      have := goTexts_valid l 0 baseTexts o hg j hj
      omega
theorem i64_of (a : Int) (h0 : 0 ≤ a) (h1 : a < 9223372036854775807) : I64 a := by
  unfold I64
  exact WalkArith.wf_i64 (by omega)

theorem rankTo_old {l : List (Int × Int)} {k : Nat} (h : (rankTo l (l.getD k (0,0)).1 (l.getD k (0,0)).2 k).isSome = true) (a b : Int) : rankTo l a b (k + 1) = rankTo l a b k := by
  rw [rankTo]
  cases hr : rankTo l a b k with
  | some m => rfl
  | none =>
    dsimp only
    rw [if_neg]
    intro e
    rw [e] at h
    dsimp only at h
    rw [hr] at h
    cases h
theorem rankTo_new {l : List (Int × Int)} {k : Nat} (h : (rankTo l (l.getD k (0,0)).1 (l.getD k (0,0)).2 k).isSome = false) (a b : Int) : rankTo l a b (k + 1) = if a = (l.getD k (0,0)).1 ∧ b = (l.getD k (0,0)).2 then some k else rankTo l a b k := by
  rw [rankTo]
  by_cases e : a = (l.getD k (0,0)).1 ∧ b = (l.getD k (0,0)).2
  · have : rankTo l a b k = none := by rw [e.1, e.2]; simpa using h
    rw [this]
    dsimp only
    rw [if_pos (by rw [e.1, e.2]), if_pos e]
  · rw [if_neg e]
    cases hr : rankTo l a b k with
    | some m => rfl
    | none =>
      dsimp only
      rw [if_neg]
      intro e2
      rw [e2] at e
      exact e ⟨rfl, rfl⟩

theorem right_any (A : Option Addr) (n c : Nat) (l : List (Int × Int)) (w : World) (hl : l.length = n) (hn : n ≤ 140737488355328) (h1 : Arr w w.heap.size 2 A n (PairC l)) :
    Calls Try.prog 67 #[.slice A n c] w fun e w' => e = .returned (.int .i64 (texts l).2) ∧ Below w.heap.size w w' := by
  go_enter Try.func67, Try.ntmps67
  go_wp2_with fail
  refine (mtexts_any A n c l w hl hn h1).mono ?_
  rintro e w' ⟨v, rfl, hown, hb⟩
  go_wp2_with fail
  go_ret
  exact ⟨rfl, hb⟩

theorem merged_bd {out : List Int} {b t n : Nat} (_ht : t + 1 < out.length) (hb : b < n) (h : ∀ i, i < out.length → 0 ≤ out.getD i 0 ∧ out.getD i 0 < 256 + (n : Int)) : ∀ i, i < (merged out b t).length → 0 ≤ (merged out b t).getD i 0 ∧ (merged out b t).getD i 0 < 256 + (n : Int) := by
  intro i hi
  have hall : ∀ x ∈ out, 0 ≤ x ∧ x < 256 + (n : Int) := fun x hx => by
    obtain ⟨j, hj, rfl⟩ := List.getElem_of_mem hx
    have := h j hj
    simpa [hj] using this
  have hm : (merged out b t).getD i 0 ∈ merged out b t := by
    rw [List.getD, List.getElem?_eq_getElem hi]
    exact List.getElem_mem hi
  obtain ⟨x, hx⟩ : ∃ x, x = (merged out b t).getD i 0 := ⟨_, rfl⟩
  rw [← hx] at hm ⊢
  rw [merged, List.mem_append, List.mem_cons] at hm
  rcases hm with hm | rfl | hm
  · exact hall x (List.mem_of_mem_take hm)
  · omega
  · exact hall x (List.mem_of_mem_drop hm)

def bestP (n : Nat) (r : Option (Nat × Nat)) : Int := match r with | none => n | some (b, _) => b
theorem scanP_none {l : List (Int × Int)} {out : List Int} {k : Nat} (h : rank l (out.getD k 0) (out.getD (k + 1) 0) = none) : scanTo l out (k + 1) = scanTo l out k := by
  rw [scanTo, h]
theorem scanP_new {l : List (Int × Int)} {out : List Int} {k r n : Nat} (h : rank l (out.getD k 0) (out.getD (k + 1) 0) = some r) (hb : (r : Int) < bestP n (scanTo l out k)) : scanTo l out (k + 1) = some (r, k) := by
  rw [scanTo, h]
  cases hs : scanTo l out k with
  | none => rfl
  | some p =>
    obtain ⟨b, t⟩ := p
    rw [hs] at hb
    simp [bestP] at hb
    dsimp only
    rw [if_pos hb]
theorem scanP_old {l : List (Int × Int)} {out : List Int} {k r n : Nat} (hn : l.length = n) (h : rank l (out.getD k 0) (out.getD (k + 1) 0) = some r) (hb : ¬ (r : Int) < bestP n (scanTo l out k)) : scanTo l out (k + 1) = scanTo l out k := by
  rw [scanTo, h]
  cases hs : scanTo l out k with
  | none =>
    rw [hs] at hb
    have := (rankTo_some.1 h).1
    simp [bestP] at hb
    omega
  | some p =>
    obtain ⟨b, t⟩ := p
    rw [hs] at hb
    simp [bestP] at hb
    dsimp only
    rw [if_neg (by omega)]
theorem bestP_bd (n : Nat) (r : Option (Nat × Nat)) : 0 ≤ bestP n r := by
  cases r with
  | none => simp [bestP]
  | some p => show (0 : Int) ≤ (p.1 : Int); omega

end Go.Proofs.Ytfjgfabochiflaa.H14.R13
/- Tokens, and the bytes of a text as ids. -/
namespace Go.Proofs.Ytfjgfabochiflaa.H14.R13
open Go.RowKit

theorem own_ints {w : World} {base : Nat} {v : Value} {n : Nat} {xs : List Int} {e : TypeId} (h : w.ownsRow base e 1 v n (intsV xs)) : xs.length = n ∧ ∃ A c, v = .slice A n c ∧ Arr w w.heap.size 1 A n (IntC xs) := by
  have hl : xs.length = n := by have := h.1; simpa [intsV] using this
  obtain ⟨A, c, rfl⟩ := own_form h
  refine ⟨hl, A, c, rfl, fun hn => ?_⟩
  obtain ⟨b, off, hA, hb, hc⟩ := Arr.of_own h hn
  refine ⟨b, off, hA, hb, fun k j hk hj => ?_⟩
  rw [hc k j hk hj, IntC]
  dsimp only
  rw [List.getD, intsV_get _ _ (by omega)]
  rfl

theorem bytes_any (s : ByteArray) (w : World) (hs : s.size ≤ 1048576) :
    Calls Try.prog 86 #[.string s] w fun e w' => ∃ v, e = .returned v ∧ w'.ownsRow w.heap.size 3 1 v s.size (intsV (bytesI s)) ∧ Below w.heap.size w w' := by
  obtain ⟨i3, hi3, hz3, hsz3, hbt3⟩ := info_parts info3
  go_enter Try.func86, Try.ntmps86
  go_wp2_with fail
  go_loopw [3, 4] (fun v i wr => ∃ k : Nat, k ≤ s.size ∧ i = .int .i64 k ∧ wr.ownsRow w.heap.size 3 1 v k (intsV ((bytesI s).take k)) ∧ Below w.heap.size w wr) (fun _ i _ => s.size - (intOf i).toNat)
  case atStart => exact ⟨0, by omega, rfl, World.ownsRow_made w #[] 0 (Nat.le_refl _) (by simp [maxLen]) rfl, (Below.refl _ _).alloc (Nat.le_refl _) _⟩
  case round =>
    obtain ⟨k, hk, rfl, hown, hbel⟩ := hrel
    have hsz := hbel.size
    by_cases hlt : k < s.size
    · obtain ⟨hx0, hx1, hidx⟩ := index_bytes s k hlt
      obtain ⟨x, hx⟩ : ∃ x, x = (bytesI s).getD k 0 := ⟨_, rfl⟩
      rw [← hx] at hidx hx0 hx1
      have HX := Lib.hid hx
      clear hx
      go_wp2_with (first
        | (at_builtin; refine wpList_app1 w _ rfl (.tmp 12) (.tmp 17) 32 rfl w.heap.size 3 i3 _ 8 Try.underlying32 hi3 hz3 hsz3 hbt3 rfl _ k (intsV ((bytesI s).take k)) rfl (hown.alloc _) (hbel.alloc hsz _) (.int .i64 x) _ rfl (by go_simp) rfl (by omega) (by unfold maxLen; omega) (by have := hsz; simp; omega) ?_; intro v1 w1 hown1 hb1 hg1))
      go_roundw
      case rel => exact ⟨k + 1, by omega, by go_num, by rw [getD_take _ _ (by rw [length_bytesI]; exact hlt), intsV_snoc, ← HX.out]; exact hown1, hb1⟩
      case measure => simp [intOf]; omega
    · have hown0 : wr.ownsRow w.heap.size 3 1 u3 s.size (intsV (bytesI s)) := by
        have hkn : k = s.size := by omega
        rw [List.take_of_length_le (by rw [length_bytesI]; omega), hkn] at hown
        exact hown
      clear hown
      go_wp2_with fail
      go_ret
      exact ⟨_, rfl, hown0, hbel⟩

end Go.Proofs.Ytfjgfabochiflaa.H14.R13
