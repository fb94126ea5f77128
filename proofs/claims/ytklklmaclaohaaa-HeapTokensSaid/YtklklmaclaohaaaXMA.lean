/- The program's Apply: the ids, merged, or refused. -/
import Derived.Test.YtklklmaclaohaaaKey
import Derived.Test.YtklklmaclaohaaaXRA
import Derived.Test.YtklklmaclaohaaaShelf
import Derived.Test.YtklklmaclaohaaaMT
import Derived.Lib.OwnBridge
namespace Go.Proofs.Ytklklmaclaohaaa.R13
open Go.RowKit Go.Maps Go.WideMaps

theorem ret_bool {a b : Bool} (h : a = b) : Ending.returned (.bool a) = .returned (.bool b) := by rw [h]

def badId (n : Nat) (i : Int) : Bool := decide (i < 0) || decide (256 + (n : Int) ≤ i)
theorem badId_any (n : Nat) (ids : List Int) : ids.any (badId n) = ids.any (fun i => decide (i < 0) || decide (256 + (n : Int) ≤ i)) := rfl

theorem bad_any (g : Nat) (A : Option Addr) (n c : Nat) (x : Int) (w : World) (hn : n ≤ 140737488355328) (hc : w.cell? ⟨g, 0, none⟩ = some (.slice A n c)) :
    Calls Try.prog 38 #[.int .i64 x, .pointer (some ⟨g, 0, none⟩)] w fun e w' => e = .returned (.bool (badId n x)) ∧ w' = w := by
  by_cases h : x < 0
  · have hb : badId n x = true := by unfold badId; rw [decide_eq_true h]; rfl
    rw [hb]
    clear hb
    go_enter Try.func38, Try.ntmps38
    go_wp2
    go_ret
    exact ⟨rfl, rfl⟩
  · by_cases h2 : 256 + (n : Int) ≤ x
    · have hb : badId n x = true := by unfold badId; rw [decide_eq_true h2, Bool.or_true]
      rw [hb]
      clear hb
      go_enter Try.func38, Try.ntmps38
      go_wp2
      go_ret
      exact ⟨rfl, rfl⟩
    · have hb : badId n x = false := by unfold badId; rw [decide_eq_false h, decide_eq_false h2]; rfl
      rw [hb]
      clear hb
      go_enter Try.func38, Try.ntmps38
      go_wp2
      go_ret
      exact ⟨rfl, rfl⟩

def idxI (p : Int → Bool) (l : List Int) : Int := if l.any p then 0 else -1
def SomeIdx (b : Bool) (w : World) (e : Ending) (w' : World) : Prop := ∃ r : Int, e = .returned (.int .i64 r) ∧ (0 ≤ r ↔ b = true) ∧ -1 ≤ r ∧ w' = w
theorem any_take_succ (p : Int → Bool) (l : List Int) (k : Nat) (h : k < l.length) : (l.take (k + 1)).any p = ((l.take k).any p || p (l.getD k 0)) := by
  rw [getD_take l k h, List.any_append]; simp
theorem index_any (g : Nat) (A A2 : Option Addr) (n c n2 c2 : Nat) (ids : List Int) (w : World) (hi : ids.length = n2) (hn : n ≤ 140737488355328) (hn2 : n2 ≤ 1099511627776) (hc : w.cell? ⟨g, 0, none⟩ = some (.slice A n c)) (h2 : Arr w w.heap.size 1 A2 n2 (IntC ids)) :
    Calls Try.prog 44 #[.slice A2 n2 c2, .func (.func 38) #[] #[.pointer (some ⟨g, 0, none⟩)]] w (SomeIdx (ids.any (badId n)) w) := by
  have H2 := Lib.hid h2
  have HB := Lib.hid fun x => bad_any g A n c x w hn hc
  clear h2
  go_enter Try.func44, Try.ntmps44
  go_wp2_with fail
  go_loop [8] (fun i => ∃ k : Nat, k ≤ n2 ∧ i = .int .i64 k ∧ (ids.take k).any (badId n) = false) (fun i => n2 - (intOf i).toNat)
  case atStart => exact ⟨0, by omega, rfl, rfl⟩
  case round =>
    obtain ⟨k, hk, rfl, hno⟩ := hrel
    have HN := Lib.hid hno
    clear hno
    by_cases hlt : k < n2
    · obtain ⟨b1, o1, rfl, _, hc1⟩ := H2.out.one hlt
      unfold IntC at hc1
      obtain ⟨x, hx⟩ : ∃ x, x = ids.getD k 0 := ⟨_, rfl⟩
      rw [← hx] at hc1
      have HX := Lib.hid hx
      clear hx
      cases hbx : badId n x with
      | true =>
        have HBX := Lib.hid hbx
        have HC := Lib.hid (HB.out x)
        rw [hbx] at HC
        clear hbx HB
        go_wp2_with (go_at_call 38; refine HC.out.mono ?_; rintro e w' ⟨rfl, rfl⟩)
        go_ret
        refine ⟨k, rfl, ?_, by omega, rfl⟩
        have h1 : ids.any (badId n) = true := by
          rw [List.any_eq_true]
          exact ⟨x, by rw [HX.out]; simp [show k < ids.length by omega], HBX.out⟩
        rw [h1]; simp
      | false =>
        have HBX := Lib.hid hbx
        have HC := Lib.hid (HB.out x)
        rw [hbx] at HC
        clear hbx HB
        go_wp2_with (go_at_call 38; refine HC.out.mono ?_; rintro e w' ⟨rfl, rfl⟩)
        go_round
        case rel => exact ⟨k + 1, by omega, by go_num, by rw [any_take_succ _ _ _ (by omega), HN.out, ← HX.out, HBX.out]; rfl⟩
        case measure => simp [intOf]; omega
    · go_wp2_with fail
      go_ret
      have h1 := HN.out
      rw [List.take_of_length_le (by omega)] at h1
      rw [h1]
      exact ⟨-1, rfl, by simp, by omega, rfl⟩

theorem contains_any (g : Nat) (A A2 : Option Addr) (n c n2 c2 : Nat) (ids : List Int) (w : World) (hi : ids.length = n2) (hn : n ≤ 140737488355328) (hn2 : n2 ≤ 1099511627776) (hc : w.cell? ⟨g, 0, none⟩ = some (.slice A n c)) (h2 : Arr w w.heap.size 1 A2 n2 (IntC ids)) :
    Calls Try.prog 37 #[.slice A2 n2 c2, .func (.func 38) #[] #[.pointer (some ⟨g, 0, none⟩)]] w fun e w' => e = .returned (.bool (ids.any (badId n))) ∧ w' = w := by
  have HI := Lib.hid (index_any g A A2 n c n2 c2 ids w hi hn hn2 hc h2)
  clear h2 hc
  go_enter Try.func37, Try.ntmps37
  go_wp2_with fail
  refine HI.out.mono ?_
  rintro e w' ⟨r, rfl, hr, hr1, rfl⟩
  cases hb : ids.any (badId n) with
  | true =>
    have h0 : 0 ≤ r := hr.2 hb
    have HB0 := Lib.hid hb
    clear hr hb
    go_wp2_with fail
    go_ret
    exact ⟨ret_bool (by first | (rw [HB0.out]; done) | (rw [HB0.out]; simpa using h0) | simpa using h0), rfl⟩
  | false =>
    have h0 : r < 0 := by
      by_cases h : r < 0
      · exact h
      · have := hr.1 (by omega); rw [hb] at this; cases this
    have HB0 := Lib.hid hb
    clear hr hb
    go_wp2_with fail
    go_ret
    exact ⟨ret_bool (by first | (rw [HB0.out]; done) | (rw [HB0.out]; simpa using h0) | simpa using h0), rfl⟩
end Go.Proofs.Ytklklmaclaohaaa.R13
