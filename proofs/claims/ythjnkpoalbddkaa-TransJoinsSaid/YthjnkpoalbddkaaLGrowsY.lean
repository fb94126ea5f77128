/- RuleGrows, with its rules and text laid open. -/
import Derived.Test.YthjnkpoalbddkaaApplyY
import Derived.Test.YthjnkpoalbddkaaTellsY
namespace Go.Proofs.Ythjnkpoalbddkaa
open Go.RowKit

theorem count_a : Lib.runeCount ⟨#[97]⟩ = 1 := by decide +kernel
set_option maxHeartbeats 2000000 in
theorem alive_any (w : World) : Calls Try.prog 19 #[] w fun e w' => e = .returned (.bool true) ∧ Below w.heap.size w w' := by
  go_enter Try.func19, Try.ntmps19
  go_wp2_with (first
    | (go_at_call 63; refine (Try.utf8_RuneCountInString ⟨#[97]⟩ _ (by decide)).mono ?_; rw [count_a]; rintro e w1 ⟨rfl, pos, rfl⟩)
    | go_in)
  go_returns
  exact ⟨rfl, (Below.refl _ _).alloc (Nat.le_refl _) _⟩

/-- an argument: rules and their texts' sizes -/
structure RulesIn (w : World) (A : Option Addr) (n : Nat) (l : List SR) : Prop where
  len : l.length = n
  le : n ≤ 140737488355328
  arr : Arr w w.heap.size 2 A n (RuleC l)
  sizes : ∀ k, k < n → (l.getD k noRule).1.size ≤ maxLen ∧ (l.getD k noRule).2.size ≤ maxLen
theorem RulesIn.keep {w w' : World} {A : Option Addr} {n : Nat} {l : List SR} (h : RulesIn w A n l) (hb : Below w.heap.size w w') : RulesIn w' A n l :=
  ⟨h.len, h.le, (h.arr.below hb).more hb.size, h.sizes⟩

set_option maxRecDepth 100000 in
set_option maxHeartbeats 4000000 in
theorem law_grows (A : Option Addr) (n c : Nat) (l : List SR) (s : ByteArray) (w : World) (h : RulesIn w A n l) :
    Calls Try.prog 5 #[.slice A n c, .string s] w fun e w' => e = .returned (.bool true) ∧ Below w.heap.size w w' := by
  have H := Lib.hid h
  have hz := fun k (hk : k < n) => (h.sizes k hk).1
  have hl := h.len
  have HZ := Lib.hid hz
  clear h hz
  go_enter Try.func5, Try.ntmps5
  go_wp2_with fail
  refine (alive_any _).mono ?_
  rintro e w1 ⟨rfl, hb1⟩
  have H1 := Lib.hid (H.out.keep hb1)
  have HB1 := Lib.hid hb1
  clear hb1
  have hemp : (⟨#[]⟩ : ByteArray).toList.isEmpty = true := by rw [strB]; rfl
  rcases rightE_cases l with h0 | h0 | h0
  · have hok := allOk_of h0
    have hn64 := hok.1
    by_cases hs : s.size ≤ 262144
    · go_wp2_with fail
      refine (apply_ok A n c l s w1 hl H1.out.arr H.out.sizes hok hs).mono ?_
      rintro e w2 ⟨o, hrew, hol, rfl, hb2⟩
      have H2 := Lib.hid (H1.out.keep hb2)
      have HB2 := Lib.hid (HB1.out.trans (hb2.mono HB1.out.size))
      have hgr := hrew.grows (growN l l.length) (growN_pos _ _) (rules_grow hok)
      rw [size_data, hl] at hgr
      have hg32 := growN_le hok n (by omega)
      have hosz : (⟨o.toArray⟩ : ByteArray).size = o.length := by simp [ByteArray.size]
      clear hrew hb2
      go_wp2_with fail
      refine (grow_ok A n c l w2 hl H2.out.arr HZ.out hok).mono ?_
      rintro e w3 ⟨rfl, hb3⟩
      have HB3 := Lib.hid (HB2.out.trans (hb3.mono HB2.out.size))
      clear hb3
      obtain ⟨g, hg⟩ : ∃ g, g = growN l n := ⟨_, rfl⟩
      rw [← hg] at hgr hg32 ⊢
      have hgs : g * s.size ≤ 32 * 262144 := Nat.mul_le_mul hg32 hs
      have hcast : (g : Int) * (s.size : Int) = ((g * s.size : Nat) : Int) := by simp
      have hwr : IntKind.i64.wrap ((g : Int) * (s.size : Int)) = (g : Int) * (s.size : Int) := IntWalk.i64_in _ (by omega)
      have hdec : decide ((o.length : Int) ≤ (g : Int) * (s.size : Int)) = true := by rw [hcast]; simp only [decide_eq_true_eq]; omega
      clear hok hg h0 hcast
      go_wp2_with fail
      go_returns
      exact ⟨by first | rfl | (simp; omega), HB3.out⟩
    · go_wp2_with fail
      refine (apply_long A n c l s w1 hl H.out.le H1.out.arr HZ.out h0 (by omega)).mono ?_
      rintro e w2 ⟨rfl, hb2⟩
      have H2 := Lib.hid (H1.out.keep hb2)
      have HB2 := Lib.hid (HB1.out.trans (hb2.mono HB1.out.size))
      clear hb2
      go_wp2_with fail
      refine (grow_ok A n c l w2 hl H2.out.arr HZ.out hok).mono ?_
      rintro e w3 ⟨rfl, hb3⟩
      have HB3 := Lib.hid (HB2.out.trans (hb3.mono HB2.out.size))
      clear hb3 hok
      go_wp2_with fail
      go_returns
      exact ⟨by first | rfl | simp, HB3.out⟩
  all_goals
    have hne : rightE l ≠ 0 := by rw [h0]; decide
    go_wp2_with fail
    refine (apply_no A n c l s w1 hl H.out.le H1.out.arr HZ.out hne).mono ?_
    rw [h0]
    rintro e w2 ⟨rfl, hb2⟩
    have H2 := Lib.hid (H1.out.keep hb2)
    have HB2 := Lib.hid (HB1.out.trans (hb2.mono HB1.out.size))
    clear hb2
    go_wp2_with fail
    refine (grow_no A n c l w2 hl H.out.le H2.out.arr HZ.out hne).mono ?_
    rw [h0]
    rintro e w3 ⟨rfl, hb3⟩
    have HB3 := Lib.hid (HB2.out.trans (hb3.mono HB2.out.size))
    clear hb3
    go_wp2_with fail
    go_returns
    exact ⟨by first | rfl | simp, HB3.out⟩
end Go.Proofs.Ythjnkpoalbddkaa
