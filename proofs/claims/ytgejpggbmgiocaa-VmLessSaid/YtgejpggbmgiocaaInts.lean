/- Lists of numbers held against each other; a text's bytes as numbers. -/
import Derived.Test.YtgejpggbmgiocaaCom
namespace Go.Proofs.Ytgejpggbmgiocaa
open Go.RowKit

theorem info3 : (Try.prog.info? 3).map (fun i => (i.zero, i.size, i.bytes)) = some (some (.int .i64 0), 1, 8) := by kernel_rfl
/-- a slice of ints -/
def IntC (xs : List Int) (k _j : Nat) : Value := .int .i64 (xs.getD k 0)
theorem ints_any (A1 A2 : Option Addr) (n1 n2 c1 c2 B : Nat) (xs ys : List Int) (w : World) (hx : xs.length = n1) (hy : ys.length = n2) (hn : n1 ≤ 9223372036854775807) (hn2 : n2 ≤ 9223372036854775807)
    (h1 : Arr w B 1 A1 n1 (IntC xs)) (h2 : Arr w B 1 A2 n2 (IntC ys)) :
    Calls Try.prog 9 #[.slice A1 n1 c1, .slice A2 n2 c2] w fun e w' => e = .returned (.bool (decide (xs = ys))) ∧ ∃ m, w' = w.drewN m := by
  have H1 := Lib.hid h1
  have H2 := Lib.hid h2
  clear h1 h2
  by_cases hnn : n1 = n2
  · obtain rfl : n2 = n1 := hnn.symm
    go_enter Try.func9, Try.ntmps9
    go_wp2
    go_loopw [13] (fun i wr => ∃ k m : Nat, k ≤ n2 ∧ i = .int .i64 k ∧ (∀ j, j < k → xs.getD j 0 = ys.getD j 0) ∧ wr = w.drewN m) (fun i _ => n2 - (intOf i).toNat)
    case atStart => exact ⟨0, 0, Nat.zero_le _, rfl, fun j hj => absurd hj (by omega), rfl⟩
    case round =>
      obtain ⟨k, m, hk, rfl, heq, rfl⟩ := hrel
      have HQ := Lib.hid heq
      clear heq
      by_cases hlt : k < n2
      · obtain ⟨b1, o1, rfl, _, hc1⟩ := H1.out.one hlt
        obtain ⟨b2, o2, rfl, _, hc2⟩ := H2.out.one hlt
        unfold IntC at hc1 hc2
        obtain ⟨x, hxk⟩ : ∃ x, x = xs.getD k 0 := ⟨_, rfl⟩
        obtain ⟨y, hyk⟩ : ∃ y, y = ys.getD k 0 := ⟨_, rfl⟩
        rw [← hxk] at hc1
        rw [← hyk] at hc2
        have HX := Lib.hid hxk
        have HY := Lib.hid hyk
        clear hxk hyk
        go_wp2
        go_quiet (fail)
        go_wp2
        · have hb := (by assumption : (x != y) = true)
          go_ret
          have hne : ¬ xs = ys := by
            intro h
            have := HX.out; have := HY.out
            subst h; simp_all
          exact ⟨by simp [hne], _, World.drewN_drewN _ _ _⟩
        · have hb := (by assumption : (x != y) = false)
          go_roundw
          case rel => exact ⟨k + 1, _, by omega, by go_num, fun j hj => by
                        by_cases h : j < k
                        · exact HQ.out j h
                        · obtain rfl : j = k := by omega
                          rw [← HX.out, ← HY.out]; simpa using hb, rfl⟩
          case measure => simp [intOf]; omega
      · go_wp2
        go_ret
        have he : xs = ys := by
          apply List.ext_getElem (by omega)
          intro j h1 h2
          simpa [h1, h2] using HQ.out j (by omega)
        exact ⟨by simp [he], _, rfl⟩
  · have hb : ((n1 : Int) != (n2 : Int)) = true := by rw [bne_iff_ne]; omega
    have hne : ¬ xs = ys := by rintro rfl; omega
    go_enter Try.func9, Try.ntmps9
    go_wp2
    go_ret
    exact ⟨by simp [hne], 0, rfl⟩

/-- a text's bytes, as ids -/
def bytesI (s : ByteArray) : List Int := s.data.toList.map fun b => (b.toNat : Int)
theorem length_bytesI (s : ByteArray) : (bytesI s).length = s.size := by unfold bytesI; rw [List.length_map]; rfl
theorem index_bytes (s : ByteArray) (k : Nat) (h : k < s.size) : 0 ≤ (bytesI s).getD k 0 ∧ (bytesI s).getD k 0 < 256 ∧ ∀ W, (Instr.index 9 (.string s) (.int .i64 (k : Int))).run Try.prog W = .ok (.int .u8 ((bytesI s).getD k 0)) W := by
  have h' : k < s.data.size := h
  have e : (bytesI s).getD k 0 = ((s[k]'h).toNat : Int) := by
    unfold bytesI
    rw [List.getD, List.getElem?_map, Array.getElem?_toList, Array.getElem?_eq_getElem h']
    rfl
  have := (s[k]'h).toNat_lt
  refine ⟨by omega, by omega, fun W => ?_⟩
  rw [run_index_string W 9 s .i64 k Try.underlying9, dif_pos ⟨by omega, by omega⟩, e]
  rfl

theorem getD_take (l : List Int) (k : Nat) (h : k < l.length) : l.take (k + 1) = l.take k ++ [l.getD k 0] := by
  rw [List.take_succ_eq_append_getElem h]
  simp [h]
theorem bytes_any (s : ByteArray) (w : World) (hs : s.size ≤ 1048576) :
    Calls Try.prog 12 #[.string s] w fun e w' => ∃ v, e = .returned v ∧ w'.ownsRow w.heap.size 3 1 v s.size (numsV .i64 (bytesI s)) ∧ Below w.heap.size w w' := by
  obtain ⟨i3, hi3, hz3, hsz3, hbt3⟩ := info_parts info3
  go_enter Try.func12, Try.ntmps12
  go_wp2_with fail
  go_loopw [3, 4] (fun v i wr => ∃ k : Nat, k ≤ s.size ∧ i = .int .i64 k ∧ wr.ownsRow w.heap.size 3 1 v k (numsV .i64 ((bytesI s).take k)) ∧ Below w.heap.size w wr) (fun _ i _ => s.size - (intOf i).toNat)
  case atStart => exact ⟨0, by omega, rfl, World.ownsRow_made w #[] 0 (Nat.le_refl _) (by simp [maxLen]) rfl, (Below.refl _ _).alloc (Nat.le_refl _) _⟩
  case round =>
    obtain ⟨k, hk, rfl, hown, hbel⟩ := hrel
    have hsz := hbel.size
    by_cases hlt : k < s.size
    · obtain ⟨hx0, hx1, hidx⟩ := index_bytes s k hlt
      obtain ⟨x, hx⟩ : ∃ x, x = (bytesI s).getD k 0 := ⟨_, rfl⟩
      rw [← hx] at hidx hx0 hx1
      have HX := Lib.hid hx
      clear hx
      go_wp2_with (first
        | (at_builtin; refine wpList_app1 w _ rfl (.tmp 12) (.tmp 17) 26 rfl w.heap.size 3 i3 _ 8 Try.underlying26 hi3 hz3 hsz3 hbt3 rfl _ k (numsV .i64 ((bytesI s).take k)) rfl (hown.alloc _) (hbel.alloc hsz _) (.int .i64 x) _ rfl (by go_simp) rfl (by omega) (by unfold maxLen; omega) (by have := hsz; simp; omega) ?_; intro v1 w1 hown1 hb1 hg1))
      go_roundw
      case rel => exact ⟨k + 1, by omega, by go_num, by rw [getD_take _ _ (by rw [length_bytesI]; exact hlt), numsV_snoc, ← HX.out]; exact hown1, hb1⟩
      case measure => simp [intOf]; omega
    · have hown0 : wr.ownsRow w.heap.size 3 1 u3 s.size (numsV .i64 (bytesI s)) := by
        have hkn : k = s.size := by omega
        rw [List.take_of_length_le (by rw [length_bytesI]; omega), hkn] at hown
        exact hown
      clear hown
      go_wp2_with fail
      go_ret
      exact ⟨_, rfl, hown0, hbel⟩

end Go.Proofs.Ytgejpggbmgiocaa
