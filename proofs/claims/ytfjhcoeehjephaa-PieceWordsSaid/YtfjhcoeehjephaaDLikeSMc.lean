/- PieceWhole, with its automaton, text and place laid open. -/
import Derived.Test.YtfjhcoeehjephaaDPTextsMc
import Derived.Deep.Cut
namespace Go.Proofs.Ytfjhcoeehjephaa.D8
open Go.RowKit
attribute [local go_sem ↓] load_box

theorem strB (s : ByteArray) : s.toList.isEmpty = decide (s.size = 0) := by
  rw [ByteArray.toList_eq]
  cases s with | mk x => cases x with | mk l => cases l <;> simp [ByteArray.size]
set_option maxRecDepth 100000 in
set_option maxHeartbeats 8000000 in
theorem like_same (A B : Option Addr) (n ca cb : Nat) (L : List ByteArray) (w : World) (hn : n ≤ 140737488355328) (h1 : Arr w w.heap.size 1 A n (StrC L)) (h2 : Arr w w.heap.size 1 B n (StrC L)) :
    Calls Try.prog 22 #[.slice A n ca, .slice B n cb] w fun e w' => e = .returned (.bool true) ∧ ∃ m, w' = w.drewN m := by
  have H1 := Lib.hid h1
  have H2 := Lib.hid h2
  clear h1 h2
  have e0 : ((n : Int) != (n : Int)) = false := by simp
  go_enter Try.func22, Try.ntmps22
  go_wp2_with fail
  go_loopw [13] (fun i wr => ∃ k mq : Nat, k ≤ n ∧ i = .int .i64 k ∧ wr = w.drewN mq) (fun i _ => n - (intOf i).toNat)
  case atStart => exact ⟨0, 0, by omega, rfl, rfl⟩
  case round =>
    obtain ⟨k, mq, hk, rfl, rfl⟩ := hrel
    by_cases hlt : k < n
    · obtain ⟨b, o, rfl, _, hc⟩ := H1.out.one hlt
      obtain ⟨b', o', rfl, _, hc'⟩ := H2.out.one hlt
      unfold StrC at hc hc'
      obtain ⟨x, hx⟩ : ∃ x, x = L.getD k ⟨#[]⟩ := ⟨_, rfl⟩
      rw [← hx] at hc hc'
      have e1 : (x.toList != x.toList) = false := by simp
      have e2 : (x.toList == x.toList) = true := by simp
      clear hx
      go_wp2_with fail
      go_quiet (fail)
      go_wp2_with fail
      go_roundw
      case rel => exact ⟨k + 1, mq + nq, by omega, by go_num, by first | rfl | trivial⟩
      case measure => simp [intOf]; omega
    · obtain rfl : k = n := by omega
      go_wp2_with fail
      go_returns
      exact ⟨by first | rfl | simp, mq, rfl⟩
end Go.Proofs.Ytfjhcoeehjephaa.D8
