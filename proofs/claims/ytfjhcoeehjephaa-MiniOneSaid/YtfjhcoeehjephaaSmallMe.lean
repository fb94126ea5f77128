/- Ints, short, Ends of what may not be asked. -/
import Derived.Test.YtfjhcoeehjephaaEndsMe
import Derived.Deep.QuietTactic
namespace Go.Proofs.Ytfjhcoeehjephaa
open Go.RowKit


set_option maxRecDepth 100000 in
set_option maxHeartbeats 8000000 in
theorem ints_same (A B : Option Addr) (n ca cb : Nat) (L : List Int) (w : World) (hn : n ≤ 140737488355328) (h1 : Arr w w.heap.size 1 A n (NumC .i64 L)) (h2 : Arr w w.heap.size 1 B n (NumC .i64 L)) :
    Calls Try.prog 15 #[.slice A n ca, .slice B n cb] w fun e w' => e = .returned (.bool true) ∧ ∃ m, w' = w.drewN m := by
  have H1 := Lib.hid h1
  have H2 := Lib.hid h2
  clear h1 h2
  have e0 : ((n : Int) != (n : Int)) = false := by simp
  go_enter Try.func15, Try.ntmps15
  go_wp2_with fail
  go_loopw [13] (fun i wr => ∃ k mq : Nat, k ≤ n ∧ i = .int .i64 k ∧ wr = w.drewN mq) (fun i _ => n - (intOf i).toNat)
  case atStart => exact ⟨0, 0, by omega, rfl, rfl⟩
  case round =>
    obtain ⟨k, mq, hk, rfl, rfl⟩ := hrel
    by_cases hlt : k < n
    · obtain ⟨b, o, rfl, _, hc⟩ := H1.out.one hlt
      obtain ⟨b', o', rfl, _, hc'⟩ := H2.out.one hlt
      unfold NumC at hc hc'
      obtain ⟨x, hx⟩ : ∃ x, x = L.getD k 0 := ⟨_, rfl⟩
      rw [← hx] at hc hc'
      have e1 : (x != x) = false := by simp
      clear hx
      go_wp2_with fail
      go_quiet (fail)
      go_wp2_with fail
      go_roundw
      case rel => exact ⟨k + 1, mq + nq, by omega, by go_num, by first | rfl | trivial⟩
      case measure => simp [intOf]; omega
    · obtain rfl : k = n := by omega
      go_wp2_with fail
      go_returns
      exact ⟨by first | rfl | simp, mq, rfl⟩

/-- a text's first so many bytes -/
def cutS (s : ByteArray) (k : Nat) : ByteArray := if k < s.size then s.extract 0 k else s
theorem cutS_le (s : ByteArray) (k : Nat) : (cutS s k).size ≤ k := by
  unfold cutS
  split
  · rw [ByteArray.size_extract]; omega
  · omega
set_option maxRecDepth 100000 in
theorem short_any (s : ByteArray) (k : Nat) (hk : k < 1000000) (w : World) :
    Calls Try.prog 14 #[.string s, .int .i64 k] w fun e w' => e = .returned (.string (cutS s k)) ∧ w' = w := by
  have hsl : k < s.size → ∀ W, (Instr.slice 9 (.string s) none (some (.int .i64 (k : Int))) none).run Try.prog W = .ok (.string (s.extract 0 k)) W := fun h W => by
    rw [run_slice_string_to_if W 9 s .i64 _ Try.underlying9, if_pos ⟨by omega, by omega⟩]
    rfl
  have HSL := Lib.hid hsl
  clear hsl
  go_enter Try.func14, Try.ntmps14
  by_cases h : k < s.size
  · have e1 : decide ((k : Int) < (s.size : Int)) = true := by simp; omega
    have h1 := HSL.out h
    go_wp2_with fail
    go_returns
    exact ⟨by unfold cutS; rw [if_pos h]; rfl, rfl⟩
  · have e1 : decide ((k : Int) < (s.size : Int)) = false := by simp; omega
    go_wp2_with fail
    go_returns
    exact ⟨by unfold cutS; rw [if_neg h]; rfl, rfl⟩

set_option maxRecDepth 100000 in
set_option maxHeartbeats 8000000 in
theorem ends_no (A : Option Addr) (n c : Nat) (S a z : Int) (E : List Ed) (s : ByteArray) (x : Int) (w : World) (h : NfaIn w A n ⟨S, a, z, E⟩) (hno : ¬ (RightN ⟨S, a, z, E⟩ ∧ 0 ≤ x ∧ x ≤ (s.size : Int))) :
    Calls Try.prog 24 #[.agg #[.int .i64 S, .int .i64 a, .int .i64 z, .slice A n c], .string s, .int .i64 x] w fun e w' => e = .returned (.slice none 0 0) ∧ Below w.heap.size w w' := by
  obtain ⟨W1, hW1⟩ : ∃ W1, W1 = ((w.alloc (.cells #[.int .i64 S, .int .i64 a, .int .i64 z, .slice A n c] 24)).alloc (.cells #[.string s] 9)).alloc (.cells #[.int .i64 x] 3) := ⟨_, rfl⟩
  have hs1 : W1.heap.size = w.heap.size + 3 := by rw [hW1]; simp
  have hb1 : Below w.heap.size w W1 := by rw [hW1]; exact (((Below.refl _ _).alloc (Nat.le_refl _) _).alloc (by simp) _).alloc (by simp; omega) _
  have hsb1 : Boxed W1 (w.heap.size + 1) 9 (.string s) := by
    have := (Boxed.new (w.alloc (.cells #[.int .i64 S, .int .i64 a, .int .i64 z, .slice A n c] 24)) 9 (.string s)).alloc (.cells #[.int .i64 x] 3)
    rw [World.size_alloc] at this
    rw [hW1]; exact this
  have hab1 : Boxed W1 (w.heap.size + 2) 3 (.int .i64 x) := by
    have := Boxed.new ((w.alloc (.cells #[.int .i64 S, .int .i64 a, .int .i64 z, .slice A n c] 24)).alloc (.cells #[.string s] 9)) 3 (.int .i64 x)
    rw [World.size_alloc, World.size_alloc] at this
    rw [hW1]; exact this
  have HRT := Lib.hid (nright_any A n c S a z E W1 (h.keep hb1))
  obtain ⟨bq, hbq⟩ : ∃ bq, bq = rightN ⟨S, a, z, E⟩ := ⟨_, rfl⟩
  rw [← hbq] at HRT
  have hcase : bq = false ∨ (bq = true ∧ x < 0) ∨ (bq = true ∧ 0 ≤ x ∧ (s.size : Int) < x) := by
    by_cases hr : RightN ⟨S, a, z, E⟩
    · rw [rightN_yes hr] at hbq
      have : ¬ (0 ≤ x ∧ x ≤ (s.size : Int)) := fun h9 => hno ⟨hr, h9⟩
      rcases (by omega : x < 0 ∨ (0 ≤ x ∧ (s.size : Int) < x)) with h9 | h9
      · exact .inr (.inl ⟨hbq, h9⟩)
      · exact .inr (.inr ⟨hbq, h9⟩)
    · rw [rightN_no hr] at hbq; exact .inl hbq
  have HB1 := Lib.hid hb1
  have HNB1 := Lib.hid (And.intro hsb1 hab1)
  clear h hb1 hsb1 hab1 hno hbq
  go_enter Try.func24, Try.ntmps24
  go_wp2_with fail
  rw [← hW1]
  refine HRT.out.mono ?_
  rintro e w2 ⟨rfl, hb2⟩
  have hs2 := hb2.size
  have hm4 : Boxed w2 (w.heap.size + 1) 9 (.string s) := (hb2.block _ HNB1.out.1.lt).trans HNB1.out.1
  have hm5 : Boxed w2 (w.heap.size + 2) 3 (.int .i64 x) := (hb2.block _ HNB1.out.2.lt).trans HNB1.out.2
  have m4 := hm4.cell
  have m5 := hm5.cell
  clear hm4 hm5
  have HB2 := Lib.hid (HB1.out.trans (hb2.mono (by omega)))
  clear hb2
  rcases hcase with rfl | ⟨rfl, hx⟩ | ⟨rfl, hx, hy⟩
  · go_wp2_with fail
    go_returns
    exact ⟨by first | rfl | simp, HB2.out⟩
  · have d1 : decide (x < 0) = true := by simpa using hx
    go_wp2_with fail
    go_returns
    exact ⟨by first | rfl | simp, HB2.out⟩
  · have d1 : decide (x < 0) = false := by simp; omega
    have d2 : decide ((s.size : Int) < x) = true := by simpa using hy
    go_wp2_with fail
    go_returns
    exact ⟨by first | rfl | simp, HB2.out⟩

theorem u64w_of {x : Int} (h : (Lit.int .u64 x).wf = true) : U64w x := by
  have h1 : IntKind.u64.min = 0 := by decide
  have h2 : IntKind.u64.max = 18446744073709551615 := by decide
  simp only [Lit.wf, Bool.and_eq_true, decide_eq_true_eq, h1, h2] at h
  unfold U64w
  omega
theorem endsN_len (E : List Ed) (S : Nat) (a z : Int) (s : ByteArray) (p0 : Nat) : (endsN E S a z s p0).length ≤ s.size + 1 := by
  unfold endsN
  exact Nat.le_trans (outsTo_len _ _ _) (by omega)
end Go.Proofs.Ytfjhcoeehjephaa
