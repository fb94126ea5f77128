/- Lists held against each other; a text's first bytes. -/
import Derived.Test.YtklklmaclaohaaaTkE
import Derived.Test.YtklklmaclaohaaaAlive
namespace Go.Proofs.Ytklklmaclaohaaa
open Go.RowKit

/-- a slice of ints -/
def IntC (xs : List Int) (k _j : Nat) : Value := .int .i64 (xs.getD k 0)
theorem ints_any (A1 A2 : Option Addr) (n1 n2 c1 c2 B : Nat) (xs ys : List Int) (w : World) (hx : xs.length = n1) (hy : ys.length = n2) (hn : n1 ≤ 9223372036854775807) (hn2 : n2 ≤ 9223372036854775807)
    (h1 : Arr w B 1 A1 n1 (IntC xs)) (h2 : Arr w B 1 A2 n2 (IntC ys)) :
    Calls Try.prog 12 #[.slice A1 n1 c1, .slice A2 n2 c2] w fun e w' => e = .returned (.bool (decide (xs = ys))) ∧ ∃ m, w' = w.drewN m := by
  have H1 := Lib.hid h1
  have H2 := Lib.hid h2
  clear h1 h2
  by_cases hnn : n1 = n2
  · obtain rfl : n2 = n1 := hnn.symm
    go_enter Try.func12, Try.ntmps12
    go_wp2
    go_loopw [13] (fun i wr => ∃ k m : Nat, k ≤ n2 ∧ i = .int .i64 k ∧ (∀ j, j < k → xs.getD j 0 = ys.getD j 0) ∧ wr = w.drewN m) (fun i _ => n2 - (intOf i).toNat)
    case atStart => exact ⟨0, 0, Nat.zero_le _, rfl, fun j hj => absurd hj (by omega), rfl⟩
    case round =>
      obtain ⟨k, m, hk, rfl, heq, rfl⟩ := hrel
      have HQ := Lib.hid heq
      clear heq
      by_cases hlt : k < n2
      · obtain ⟨b1, o1, rfl, _, hc1⟩ := H1.out.one hlt
        obtain ⟨b2, o2, rfl, _, hc2⟩ := H2.out.one hlt
        unfold IntC at hc1 hc2
        obtain ⟨x, hxk⟩ : ∃ x, x = xs.getD k 0 := ⟨_, rfl⟩
        obtain ⟨y, hyk⟩ : ∃ y, y = ys.getD k 0 := ⟨_, rfl⟩
        rw [← hxk] at hc1
        rw [← hyk] at hc2
        have HX := Lib.hid hxk
        have HY := Lib.hid hyk
        clear hxk hyk
        go_wp2
        go_quiet (fail)
        go_wp2
        · have hb := (by assumption : (x != y) = true)
          go_ret
          have hne : ¬ xs = ys := by
            intro h
            have := HX.out; have := HY.out
            subst h; simp_all
          exact ⟨by simp [hne], _, World.drewN_drewN _ _ _⟩
        · have hb := (by assumption : (x != y) = false)
          go_roundw
          case rel => exact ⟨k + 1, _, by omega, by go_num, fun j hj => by
                        by_cases h : j < k
                        · exact HQ.out j h
                        · obtain rfl : j = k := by omega
                          rw [← HX.out, ← HY.out]; simpa using hb, rfl⟩
          case measure => simp [intOf]; omega
      · go_wp2
        go_ret
        have he : xs = ys := by
          apply List.ext_getElem (by omega)
          intro j h1 h2
          simpa [h1, h2] using HQ.out j (by omega)
        exact ⟨by simp [he], _, rfl⟩
  · have hb : ((n1 : Int) != (n2 : Int)) = true := by rw [bne_iff_ne]; omega
    have hne : ¬ xs = ys := by rintro rfl; omega
    go_enter Try.func12, Try.ntmps12
    go_wp2
    go_ret
    exact ⟨by simp [hne], 0, rfl⟩

/-- a text's first so many bytes -/
def cutS (s : ByteArray) (k : Nat) : ByteArray := if k < s.size then s.extract 0 k else s
theorem cutS_le (s : ByteArray) (k : Nat) : (cutS s k).size ≤ k := by
  unfold cutS
  split
  · rw [ByteArray.size_extract]; omega
  · omega
set_option maxRecDepth 100000 in
theorem short_any (s : ByteArray) (k : Nat) (hk : k < 1000000) (w : World) :
    Calls Try.prog 10 #[.string s, .int .i64 k] w fun e w' => e = .returned (.string (cutS s k)) ∧ w' = w := by
  have hsl : k < s.size → ∀ W, (Instr.slice 9 (.string s) none (some (.int .i64 (k : Int))) none).run Try.prog W = .ok (.string (s.extract 0 k)) W := fun h W => by
    rw [run_slice_string_to_if W 9 s .i64 _ Try.underlying9, if_pos ⟨by omega, by omega⟩]
    rfl
  have HSL := Lib.hid hsl
  clear hsl
  go_enter Try.func10, Try.ntmps10
  by_cases h : k < s.size
  · have e1 : decide ((k : Int) < (s.size : Int)) = true := by simp; omega
    have h1 := HSL.out h
    go_wp2_with fail
    go_returns
    exact ⟨by unfold cutS; rw [if_pos h]; rfl, rfl⟩
  · have e1 : decide ((k : Int) < (s.size : Int)) = false := by simp; omega
    go_wp2_with fail
    go_returns
    exact ⟨by unfold cutS; rw [if_neg h]; rfl, rfl⟩
end Go.Proofs.Ytklklmaclaohaaa
