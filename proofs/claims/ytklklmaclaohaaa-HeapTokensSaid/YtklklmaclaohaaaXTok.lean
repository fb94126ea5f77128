/- Tokens, and the bytes of a text as ids. -/
import Derived.Test.YtklklmaclaohaaaXMA2
import Derived.Test.YtklklmaclaohaaaSm
namespace Go.Proofs.Ytklklmaclaohaaa.R13
open Go.RowKit

theorem own_ints {w : World} {base : Nat} {v : Value} {n : Nat} {xs : List Int} {e : TypeId} (h : w.ownsRow base e 1 v n (intsV xs)) : xs.length = n ∧ ∃ A c, v = .slice A n c ∧ Arr w w.heap.size 1 A n (IntC xs) := by
  have hl : xs.length = n := by have := h.1; simpa [intsV] using this
  obtain ⟨A, c, rfl⟩ := own_form h
  refine ⟨hl, A, c, rfl, fun hn => ?_⟩
  obtain ⟨b, off, hA, hb, hc⟩ := Arr.of_own h hn
  refine ⟨b, off, hA, hb, fun k j hk hj => ?_⟩
  rw [hc k j hk hj, IntC]
  dsimp only
  rw [List.getD, intsV_get _ _ (by omega)]
  rfl

theorem tokens_any (A1 : Option Addr) (n1 c1 : Nat) (l : List (Int × Int)) (s : ByteArray) (w : World) (hl : l.length = n1) (hn1 : n1 ≤ 140737488355328) (hs : s.size ≤ 1048576)
    (h1 : Arr w w.heap.size 2 A1 n1 (PairC l)) :
    Calls Try.prog 16 #[.slice A1 n1 c1, .string s] w fun e w' => ∃ v, e = .returned (.tuple #[v, .int .i64 (apply l (bytesI s)).2]) ∧ w'.ownsRow w.heap.size 3 1 v (apply l (bytesI s)).1.length (intsV (apply l (bytesI s)).1) ∧ Below w.heap.size w w' := by
  obtain ⟨i3, hi3, hz3, hsz3, hbt3⟩ := info_parts info3
  have H1 := Lib.hid h1
  clear h1
  go_enter Try.func16, Try.ntmps16
  go_wp2_with fail
  go_loopw [6, 10] (fun v i wr => ∃ k : Nat, k ≤ s.size ∧ i = .int .i64 k ∧ wr.ownsRow w.heap.size 3 1 v k (intsV ((bytesI s).take k)) ∧ Below w.heap.size w wr) (fun _ i _ => s.size - (intOf i).toNat)
  case atStart => exact ⟨0, by omega, rfl, World.ownsRow_nil _ _ _ _, Below.refl _ _⟩
  case round =>
    obtain ⟨k, hk, rfl, hown, hbel⟩ := hrel
    have hsz := hbel.size
    by_cases hlt : k < s.size
    · obtain ⟨hx0, hx1, hidx⟩ := index_bytes s k hlt
      obtain ⟨x, hx⟩ : ∃ x, x = (bytesI s).getD k 0 := ⟨_, rfl⟩
      rw [← hx] at hidx hx0 hx1
      have HX := Lib.hid hx
      clear hx
      go_wp2_with (first
        | (at_builtin; refine wpList_app1 w _ rfl (.tmp 13) (.tmp 18) 23 rfl w.heap.size 3 i3 _ 8 Try.underlying23 hi3 hz3 hsz3 hbt3 rfl _ k (intsV ((bytesI s).take k)) rfl (hown.alloc _) (hbel.alloc hsz _) (.int .i64 x) _ rfl (by go_simp) rfl (by omega) (by unfold maxLen; omega) (by have := hsz; simp; omega) ?_; intro v1 w1 hown1 hb1 hg1))
      go_roundw
      case rel => exact ⟨k + 1, by omega, by go_num, by rw [getD_take _ _ (by rw [length_bytesI]; exact hlt), intsV_snoc, ← HX.out]; exact hown1, hb1⟩
      case measure => simp [intOf]; omega
    · have hkn : k = s.size := by omega
      have hown0 : wr.ownsRow w.heap.size 3 1 u6 k (intsV (bytesI s)) := by
        rw [List.take_of_length_le (by rw [length_bytesI]; omega)] at hown
        exact hown
      obtain ⟨-, A2, c2, rfl, ha2⟩ := own_ints hown0
      have HA := Lib.hid (apply_any A1 A2 n1 k c1 c2 l (bytesI s) wr hl (by rw [length_bytesI]; omega) hn1 (by omega) ((H1.out.below hbel).more hsz) ha2)
      clear hkn hown hown0 ha2
      go_wp2_with fail
      refine HA.out.mono ?_
      rintro e w2 ⟨v, rfl, hown2, hb2⟩
      have hown3 := own_base hown2 hsz
      have hB := hbel.trans (hb2.mono hsz)
      clear hown2 hb2 HA
      go_wp2_with fail
      go_ret2
      exact ⟨_, rfl, hown3, hB⟩

theorem bytes_any (s : ByteArray) (w : World) (hs : s.size ≤ 1048576) :
    Calls Try.prog 27 #[.string s] w fun e w' => ∃ v, e = .returned v ∧ w'.ownsRow w.heap.size 3 1 v s.size (intsV (bytesI s)) ∧ Below w.heap.size w w' := by
  obtain ⟨i3, hi3, hz3, hsz3, hbt3⟩ := info_parts info3
  go_enter Try.func27, Try.ntmps27
  go_wp2_with fail
  go_loopw [3, 4] (fun v i wr => ∃ k : Nat, k ≤ s.size ∧ i = .int .i64 k ∧ wr.ownsRow w.heap.size 3 1 v k (intsV ((bytesI s).take k)) ∧ Below w.heap.size w wr) (fun _ i _ => s.size - (intOf i).toNat)
  case atStart => exact ⟨0, by omega, rfl, World.ownsRow_made w #[] 0 (Nat.le_refl _) (by simp [maxLen]) rfl, (Below.refl _ _).alloc (Nat.le_refl _) _⟩
  case round =>
    obtain ⟨k, hk, rfl, hown, hbel⟩ := hrel
    have hsz := hbel.size
    by_cases hlt : k < s.size
    · obtain ⟨hx0, hx1, hidx⟩ := index_bytes s k hlt
      obtain ⟨x, hx⟩ : ∃ x, x = (bytesI s).getD k 0 := ⟨_, rfl⟩
      rw [← hx] at hidx hx0 hx1
      have HX := Lib.hid hx
      clear hx
      go_wp2_with (first
        | (at_builtin; refine wpList_app1 w _ rfl (.tmp 12) (.tmp 17) 23 rfl w.heap.size 3 i3 _ 8 Try.underlying23 hi3 hz3 hsz3 hbt3 rfl _ k (intsV ((bytesI s).take k)) rfl (hown.alloc _) (hbel.alloc hsz _) (.int .i64 x) _ rfl (by go_simp) rfl (by omega) (by unfold maxLen; omega) (by have := hsz; simp; omega) ?_; intro v1 w1 hown1 hb1 hg1))
      go_roundw
      case rel => exact ⟨k + 1, by omega, by go_num, by rw [getD_take _ _ (by rw [length_bytesI]; exact hlt), intsV_snoc, ← HX.out]; exact hown1, hb1⟩
      case measure => simp [intOf]; omega
    · have hown0 : wr.ownsRow w.heap.size 3 1 u3 s.size (intsV (bytesI s)) := by
        have hkn : k = s.size := by omega
        rw [List.take_of_length_le (by rw [length_bytesI]; omega), hkn] at hown
        exact hown
      clear hown
      go_wp2_with fail
      go_ret
      exact ⟨_, rfl, hown0, hbel⟩

end Go.Proofs.Ytklklmaclaohaaa.R13
