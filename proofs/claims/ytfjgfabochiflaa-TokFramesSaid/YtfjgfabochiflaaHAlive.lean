/- A text of one byte has one character. -/
import Derived.Test.YtfjgfabochiflaaProg
import Derived.Test.YtfjgfabochiflaaBase
import Derived.Laws.Strings
import Derived.Laws.RangeString
namespace Go.Proofs.Ytfjgfabochiflaa.H14
open Go.RowKit

theorem next_a (w : World) (ty : TypeId) : (Instr.next (.pointer (some ⟨w.heap.size, 0, none⟩)) true ty).run Try.prog (w.iter ⟨#[97]⟩ 0) = .ok (.tuple #[.bool true, .int .i64 0, .int .i32 97]) (w.iter ⟨#[97]⟩ 1) :=
  run_next_ascii (P := Try.prog) w ⟨#[97]⟩ 0 ty (by decide) (by decide)
theorem next_e (w : World) (ty : TypeId) : (Instr.next (.pointer (some ⟨w.heap.size, 0, none⟩)) true ty).run Try.prog (w.iter ⟨#[97]⟩ 1) = .ok (.tuple #[.bool false]) (w.iter ⟨#[97]⟩ 1) :=
  run_next_end (P := Try.prog) w ⟨#[97]⟩ 1 ty (by decide)
theorem below_iter (w : World) (s : ByteArray) (p : Nat) : Below w.heap.size w (w.iter s p) := (Below.refl _ _).alloc (Nat.le_refl _) _
theorem runes_a (w : World) : Calls Try.prog 87 #[.string ⟨#[97]⟩] w fun e w' => e = .returned (.int .i64 1) ∧ Below w.heap.size w w' := by
  have h1 := next_a w
  have h2 := next_e w
  go_enter Try.func87, Try.ntmps87
  go_wp2
  refine wp_loop_rounds 2 ?_
  rw [rounds_succ]
  go_wp2
  rw [rounds_succ]
  go_wp2
  go_ret
  exact ⟨rfl, below_iter _ _ _⟩
theorem count_a (w : World) : Calls Try.prog 55 #[.string ⟨#[97]⟩] w fun e w' => e = .returned (.int .i64 1) ∧ Below w.heap.size w w' := by
  go_enter Try.func55, Try.ntmps55
  go_wp2_with fail
  refine (runes_a w).mono ?_
  rintro e w' ⟨rfl, hb⟩
  go_wp2_with fail
  go_ret
  exact ⟨rfl, hb⟩
end Go.Proofs.Ytfjgfabochiflaa.H14
