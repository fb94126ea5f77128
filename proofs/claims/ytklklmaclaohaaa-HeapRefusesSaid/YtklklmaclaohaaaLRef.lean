/- HeapRefuses, with its arguments laid open. -/
import Derived.Test.YtklklmaclaohaaaNew
import Derived.Lib.SlBytesRow
namespace Go.Proofs.Ytklklmaclaohaaa
open Go.RowKit Go.Maps Go.WideMaps
theorem info5 : (Try.prog.info? 5).map (fun i => (i.zero, i.size, i.bytes)) = some (some (.int .u8 0), 1, 1) := by kernel_rfl
set_option maxRecDepth 100000 in
theorem tokens_none (s : ByteArray) (w : World) : Calls Try.prog 11 #[.pointer none, .string s] w fun e w' => e = .returned (.tuple #[.slice none 0 0, .int .i64 1]) ∧ Below w.heap.size w w' := by
  have HB := Lib.hid (show Below w.heap.size w (w.alloc (.cells #[.pointer none] 24)) from (Below.refl _ _).alloc (Nat.le_refl _) _)
  go_enter Try.func11, Try.ntmps11
  go_wp2_with fail
  go_returns
  exact ⟨by first | rfl | simp, HB.out⟩
set_option maxRecDepth 100000 in
theorem tokens_long (ge : Nat) (s : ByteArray) (w : World) (hs : 262144 < s.size) : Calls Try.prog 11 #[.pointer (some ⟨ge, 0, none⟩), .string s] w fun e w' => e = .returned (.tuple #[.slice none 0 0, .int .i64 2]) ∧ Below w.heap.size w w' := by
  have HB := Lib.hid (show Below w.heap.size w (w.alloc (.cells #[.pointer (some ⟨ge, 0, none⟩)] 24)) from (Below.refl _ _).alloc (Nat.le_refl _) _)
  have d1 : decide ((262144 : Int) < (s.size : Int)) = true := by simp; omega
  go_enter Try.func11, Try.ntmps11
  go_wp2_with fail
  go_returns
  exact ⟨by first | rfl | simp, HB.out⟩
def costH (x : Int) : Int := if x < 0 ∨ 262144 < x then 0 else 1 + 4 * x
set_option maxRecDepth 100000 in
theorem cost_any (x : Int) (w : World) : Calls Try.prog 14 #[.int .i64 x] w fun e w' => e = .returned (.int .i64 (costH x)) ∧ w' = w := by
  unfold costH
  by_cases h1 : x < 0
  · rw [if_pos (Or.inl h1)]
    go_enter Try.func14, Try.ntmps14
    go_wp2_with fail
    go_returns
    exact ⟨by first | rfl | simp, rfl⟩
  · by_cases h2 : 262144 < x
    · rw [if_pos (Or.inr h2)]
      go_enter Try.func14, Try.ntmps14
      go_wp2_with fail
      go_returns
      exact ⟨by first | rfl | simp, rfl⟩
    · rw [if_neg (by omega)]
      have w1 : wrap64 (4 * x) = 4 * x := IntWalk.wrap64_in _ (by omega)
      have w2 : wrap64 (1 + 4 * x) = 1 + 4 * x := IntWalk.wrap64_in _ (by omega)
      go_enter Try.func14, Try.ntmps14
      go_wp2_with fail
      go_returns
      exact ⟨by first | rfl | simp, rfl⟩
theorem zeros_size (S : Nat) : (⟨Array.replicate S 0⟩ : ByteArray).size = S := by show (Array.replicate S (0 : UInt8)).size = S; simp
theorem conv_zeros (S : Nat) (W : World) : (convert 39 9 (.slice (some ⟨W.heap.size, 0, none⟩) S S)).run Try.prog (W.alloc (.cells (Array.replicate S (.int .u8 0)) 5)) = .ok (.string ⟨Array.replicate S 0⟩) (W.alloc (.cells (Array.replicate S (.int .u8 0)) 5)) := by
  have h := Lib.run_convert_whole (P := Try.prog) (W.alloc (.cells (Array.replicate S (.int .u8 0)) 5)) 39 5 9 Try.underlying39 Try.underlying5 Try.underlying9 W.heap.size 0 ⟨Array.replicate S 0⟩ (fun i hi => by
    rw [zeros_size] at hi
    have e := (Blk.new W 5 (List.replicate S (Value.int .u8 0))).cell i
    simp only [List.toArray_replicate] at e
    rw [Nat.zero_add, e]
    rw [List.getElem?_replicate, if_pos hi]
    have hz : (⟨Array.replicate S 0⟩ : ByteArray)[i]'(by rw [zeros_size]; exact hi) = 0 := by
      show (Array.replicate S (0 : UInt8))[i]'_ = 0
      simp
    rw [hz]
    rfl) S
  rw [zeros_size] at h
  exact h
set_option maxRecDepth 100000 in
theorem law_hrefuses (A : Option Addr) (n c : Nat) (l : List (Int × Int)) (x : Int) (w : World) (hl : l.length = n) (hn : n ≤ 140737488355328) (h1 : Arr w w.heap.size 2 A n (PairC l)) :
    Calls Try.prog 4 #[.slice A n c, .int .i64 x] w fun e w' => e = .returned (.bool true) ∧ Below w.heap.size w w' := by
  have H1 := Lib.hid h1
  clear h1
  obtain ⟨S, hS⟩ : ∃ S : Nat, S = 262145 := ⟨_, rfl⟩
  have hmk : ∀ W : World, (Instr.makeSlice 39 (.int .i64 262145) (.int .i64 262145)).run Try.prog W = .ok (.slice (some ⟨W.heap.size, 0, none⟩) S S) (W.alloc (.cells (Array.replicate S (.int .u8 0)) 5)) := fun W => by
    have h := make_one 39 5 (.int .u8 0) 1 Try.underlying39 info5 rfl S (by omega) (by omega) W
    rw [show (S : Int) = 262145 by omega] at h
    exact h
  have hcv := fun W => conv_zeros S W
  have HZ := Lib.hid (show 262144 < (⟨Array.replicate S 0⟩ : ByteArray).size by rw [zeros_size]; omega)
  generalize (⟨Array.replicate S 0⟩ : ByteArray) = sb at hcv HZ
  clear hS
  obtain ⟨ct, hct⟩ : ∃ ct, ct = costH x := ⟨_, rfl⟩
  have HC := Lib.hid (fun W => cost_any x W)
  rw [← hct] at HC
  unfold costH at hct
  go_enter Try.func4, Try.ntmps4
  go_wp2_with fail
  refine (tokens_none _ _).mono ?_
  rintro e w1 ⟨rfl, hb1⟩
  have HB1 := Lib.hid hb1
  clear hb1
  have hcs : (x < 0 ∧ ct = 0) ∨ (262144 < x ∧ ct = 0) ∨ (0 ≤ x ∧ x ≤ 262144 ∧ ct = 1 + 4 * x) := by
    by_cases g1 : x < 0
    · rw [if_pos (Or.inl g1)] at hct; exact Or.inl ⟨g1, hct⟩
    · by_cases g2 : 262144 < x
      · rw [if_pos (Or.inr g2)] at hct; exact Or.inr (Or.inl ⟨g2, hct⟩)
      · rw [if_neg (by omega)] at hct; exact Or.inr (Or.inr ⟨by omega, by omega, hct⟩)
  clear hct
  rcases hcs with ⟨g1, g2⟩ | ⟨g1, g2⟩ | ⟨g1, g2, g3⟩
  case' inl =>
    subst g2
    have d1 : decide (0 ≤ x) = false := by simp; omega
    have HG := Lib.hid (show True from trivial)
    clear g1
  case' inr.inl =>
    subst g2
    have d1 : decide (0 ≤ x) = true := by simp; omega
    have d2 : decide (x ≤ 262144) = false := by simp; omega
    have HG := Lib.hid (show True from trivial)
    clear g1
  case' inr.inr =>
    have d1 : decide (0 ≤ x) = true := by simp; omega
    have d2 : decide (x ≤ 262144) = true := by simp; omega
    have w1 : wrap64 (4 * x) = 4 * x := IntWalk.wrap64_in _ (by omega)
    have w2 : wrap64 (1 + 4 * x) = 1 + 4 * x := IntWalk.wrap64_in _ (by omega)
    have HG := Lib.hid (show True from trivial)
    subst g3
    clear g1 g2
  all_goals
    go_wp2_with fail
    refine (HC.out _).mono ?_
    rintro e w2 ⟨rfl, rfl⟩
    go_wp2_with fail
    have ha := (H1.out.below HB1.out).more HB1.out.size
    refine (new_nil A n c l _ hl hn ha).mono ?_
    rintro e w3 ⟨hb3, hr⟩
    have HB3 := Lib.hid (HB1.out.trans (hb3.mono HB1.out.size))
    clear hb3 ha
    rcases hr with ⟨h0, rfl⟩ | ⟨h0, ge, gm, D, rfl, hE⟩
    · have e0 : ((texts l).2 == 0) = false := by simpa using h0
      go_wp2_with fail
      go_returns
      exact ⟨by first | rfl | simp, HB3.out⟩
    · clear hE h0
      go_wp2_with fail
      refine (tokens_long ge sb _ HZ.out).mono ?_
      rintro e w4 ⟨rfl, hb4⟩
      have HB4 := Lib.hid ((HB3.out.alloc HB3.out.size _).trans (hb4.mono (by have := HB3.out.size; simp; omega)))
      clear hb4
      go_wp2_with fail
      go_returns
      exact ⟨by first | rfl | simp, HB4.out⟩
end Go.Proofs.Ytklklmaclaohaaa
