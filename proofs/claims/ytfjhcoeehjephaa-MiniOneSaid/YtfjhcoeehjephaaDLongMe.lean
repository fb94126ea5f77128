/- Ends of any automaton; Longest; the list comparison; short. -/
import Derived.Test.YtfjhcoeehjephaaDEndsMe
namespace Go.Proofs.Ytfjhcoeehjephaa.D8
open Go.RowKit

set_option maxRecDepth 100000 in
set_option maxHeartbeats 8000000 in
theorem dends_any (ds : Array Value) (A1 A2 : Option Addr) (n1 n2 c1 c2 : Nat) (D : Dfa) (RA : Nat → Option Addr) (rc : Nat → Nat) (s : ByteArray) (w : World) (h : DfaIn w ds A1 A2 n1 n2 c1 c2 D RA rc) (x : Int) (hs : s.size ≤ 1000000) :
    Calls Try.prog 16 #[.agg ds, .string s, .int .i64 x] w fun e w' => ∃ A c, e = .returned (.slice A (endsR D s x).length c) ∧ Arr w' w'.heap.size 1 A (endsR D s x).length (NumC .i64 (endsR D s x)) ∧ Below w.heap.size w w' := by
  by_cases hok : RightD D ∧ 0 ≤ x ∧ x ≤ (s.size : Int)
  · obtain ⟨hr, h0, h1⟩ := hok
    obtain ⟨a, rfl⟩ := Int.eq_ofNat_of_zero_le h0
    rw [endsR_yes hr (by omega)]
    exact dends_ok ds A1 A2 n1 n2 c1 c2 D RA rc s w h hr a (by omega) hs
  · rw [endsR_no hok]
    have hb0 : Below w.heap.size w (w.alloc (.cells ds 30)) := (Below.refl _ _).alloc (Nat.le_refl _) _
    have HRT := Lib.hid (dright_any ds A1 A2 n1 n2 c1 c2 D RA rc (w.alloc (.cells ds 30)) (h.keep hb0))
    obtain ⟨-, -, -, -, hrng⟩ := kept_cell (w := w) (t := 30) (Below.refl _ _) h.cells
    have hinf : (Try.prog.info? 30).map (·.size) = some ds.toList.length := by rw [Array.length_toList, h.cells.size]; exact info26
    have HRNG := Lib.hid (And.intro hrng hinf)
    obtain ⟨bq, hbq⟩ : ∃ bq, bq = rightD D := ⟨_, rfl⟩
    rw [← hbq] at HRT
    have hcase : bq = false ∨ (bq = true ∧ x < 0) ∨ (bq = true ∧ 0 ≤ x ∧ (s.size : Int) < x) := by
      by_cases hr : RightD D
      · rw [rightD_yes hr] at hbq
        have : ¬ (0 ≤ x ∧ x ≤ (s.size : Int)) := fun h9 => hok ⟨hr, h9⟩
        rcases (by omega : x < 0 ∨ (0 ≤ x ∧ (s.size : Int) < x)) with h9 | h9
        · exact .inr (.inl ⟨hbq, h9⟩)
        · exact .inr (.inr ⟨hbq, h9⟩)
      · rw [rightD_no hr] at hbq; exact .inl hbq
    clear h hrng hinf hbq hok
    go_enter Try.func16, Try.ntmps16
    rcases hcase with rfl | ⟨rfl, hx⟩ | ⟨rfl, hx, hy⟩
    · go_wp2_with (first | (refine wpList_load_mid rfl 30 (.tmp 3) rfl w.heap.size 0 rfl ds.toList _ HRNG.out.1 Try.underlying30 rfl HRNG.out.2 ?_))
      refine HRT.out.mono ?_
      rintro e w1 ⟨rfl, hb1⟩
      have HB1 := Lib.hid (below_new (Below.refl w.heap.size w) (Nat.le_refl _) hb1)
      clear hb1
      go_wp2_with fail
      go_returns
      exact ⟨none, 0, rfl, fun h9 => absurd h9 (by simp), HB1.out⟩
    · have d1 : decide (x < 0) = true := by simpa using hx
      go_wp2_with (first | (refine wpList_load_mid rfl 30 (.tmp 3) rfl w.heap.size 0 rfl ds.toList _ HRNG.out.1 Try.underlying30 rfl HRNG.out.2 ?_))
      refine HRT.out.mono ?_
      rintro e w1 ⟨rfl, hb1⟩
      have HB1 := Lib.hid (below_new (Below.refl w.heap.size w) (Nat.le_refl _) hb1)
      clear hb1
      go_wp2_with fail
      go_returns
      exact ⟨none, 0, rfl, fun h9 => absurd h9 (by simp), HB1.out⟩
    · have d1 : decide (x < 0) = false := by simp; omega
      have d2 : decide ((s.size : Int) < x) = true := by simpa using hy
      go_wp2_with (first | (refine wpList_load_mid rfl 30 (.tmp 3) rfl w.heap.size 0 rfl ds.toList _ HRNG.out.1 Try.underlying30 rfl HRNG.out.2 ?_))
      refine HRT.out.mono ?_
      rintro e w1 ⟨rfl, hb1⟩
      have HB1 := Lib.hid (below_new (Below.refl w.heap.size w) (Nat.le_refl _) hb1)
      clear hb1
      go_wp2_with fail
      go_returns
      exact ⟨none, 0, rfl, fun h9 => absurd h9 (by simp), HB1.out⟩

/-- the last one; -1 if there is none -/
def lastI (l : List Int) : Int := if l.length = 0 then -1 else l.getD (l.length - 1) 0

set_option maxRecDepth 100000 in
set_option maxHeartbeats 8000000 in
theorem dlong_any (ds : Array Value) (A1 A2 : Option Addr) (n1 n2 c1 c2 : Nat) (D : Dfa) (RA : Nat → Option Addr) (rc : Nat → Nat) (s : ByteArray) (w : World) (h : DfaIn w ds A1 A2 n1 n2 c1 c2 D RA rc) (x : Int) (hs : s.size ≤ 1000000) :
    Calls Try.prog 25 #[.agg ds, .string s, .int .i64 x] w fun e w' => e = .returned (.int .i64 (lastI (endsR D s x))) ∧ Below w.heap.size w w' := by
  have hb0 : Below w.heap.size w (w.alloc (.cells ds 30)) := (Below.refl _ _).alloc (Nat.le_refl _) _
  have HE := Lib.hid (dends_any ds A1 A2 n1 n2 c1 c2 D RA rc s (w.alloc (.cells ds 30)) (h.keep hb0) x hs)
  obtain ⟨-, -, -, -, hrng⟩ := kept_cell (w := w) (t := 30) (Below.refl _ _) h.cells
  have hinf : (Try.prog.info? 30).map (·.size) = some ds.toList.length := by rw [Array.length_toList, h.cells.size]; exact info26
  have HRNG := Lib.hid (And.intro hrng hinf)
  have hlen := endsR_len D s x
  obtain ⟨L, hL⟩ : ∃ L, L = endsR D s x := ⟨_, rfl⟩
  rw [← hL] at HE hlen ⊢
  clear h hrng hinf hL hb0
  go_enter Try.func25, Try.ntmps25
  go_wp2_with (first | (refine wpList_load_mid rfl 30 (.tmp 3) rfl w.heap.size 0 rfl ds.toList _ HRNG.out.1 Try.underlying30 rfl HRNG.out.2 ?_))
  refine HE.out.mono ?_
  rintro e w1 ⟨A, c, rfl, harr, hb1⟩
  have HB1 := Lib.hid (below_new (Below.refl w.heap.size w) (Nat.le_refl _) hb1)
  clear hb1
  obtain ⟨n, hn⟩ : ∃ n, n = L.length := ⟨_, rfl⟩
  rw [← hn] at harr hlen ⊢
  have HN := Lib.hid hn
  clear hn
  by_cases h0 : n = 0
  · have e1 : ((n : Int) == 0) = true := by simp [h0]
    have HZ := Lib.hid h0
    clear h0 harr
    go_wp2_with fail
    go_returns
    exact ⟨by unfold lastI; rw [if_pos (by rw [← HN.out]; exact HZ.out)]; rfl, HB1.out⟩
  · have e1 : ((n : Int) == 0) = false := beq_eq_false_iff_ne.mpr (by omega)
    obtain ⟨m, rfl⟩ : ∃ m, n = m + 1 := ⟨n - 1, by omega⟩
    obtain ⟨b, o, rfl, _, hc⟩ := harr.one (k := m) (by omega)
    unfold NumC at hc
    have e2 : ((m + 1 : Nat) : Int) - 1 = (m : Int) := by omega
    clear h0 harr
    go_wp2_with fail
    go_returns
    exact ⟨by unfold lastI; rw [if_neg (by rw [← HN.out]; omega), ← HN.out]; rfl, HB1.out⟩
set_option maxRecDepth 100000 in
set_option maxHeartbeats 8000000 in
theorem ints_same (A B : Option Addr) (n ca cb : Nat) (L : List Int) (w : World) (hn : n ≤ 140737488355328) (h1 : Arr w w.heap.size 1 A n (NumC .i64 L)) (h2 : Arr w w.heap.size 1 B n (NumC .i64 L)) :
    Calls Try.prog 15 #[.slice A n ca, .slice B n cb] w fun e w' => e = .returned (.bool true) ∧ ∃ m, w' = w.drewN m := by
  have H1 := Lib.hid h1
  have H2 := Lib.hid h2
  clear h1 h2
  have e0 : ((n : Int) != (n : Int)) = false := by simp
  go_enter Try.func15, Try.ntmps15
  go_wp2_with fail
  go_loopw [13] (fun i wr => ∃ k mq : Nat, k ≤ n ∧ i = .int .i64 k ∧ wr = w.drewN mq) (fun i _ => n - (intOf i).toNat)
  case atStart => exact ⟨0, 0, by omega, rfl, rfl⟩
  case round =>
    obtain ⟨k, mq, hk, rfl, rfl⟩ := hrel
    by_cases hlt : k < n
    · obtain ⟨b, o, rfl, _, hc⟩ := H1.out.one hlt
      obtain ⟨b', o', rfl, _, hc'⟩ := H2.out.one hlt
      unfold NumC at hc hc'
      obtain ⟨x, hx⟩ : ∃ x, x = L.getD k 0 := ⟨_, rfl⟩
      rw [← hx] at hc hc'
      have e1 : (x != x) = false := by simp
      clear hx
      go_wp2_with fail
      go_quiet (fail)
      go_wp2_with fail
      go_roundw
      case rel => exact ⟨k + 1, mq + nq, by omega, by go_num, by first | rfl | trivial⟩
      case measure => simp [intOf]; omega
    · obtain rfl : k = n := by omega
      go_wp2_with fail
      go_returns
      exact ⟨by first | rfl | simp, mq, rfl⟩

/-- a text's first so many bytes -/
def cutS (s : ByteArray) (k : Nat) : ByteArray := if k < s.size then s.extract 0 k else s
theorem cutS_le (s : ByteArray) (k : Nat) : (cutS s k).size ≤ k := by
  unfold cutS
  split
  · rw [ByteArray.size_extract]; omega
  · omega
set_option maxRecDepth 100000 in
theorem short_any (s : ByteArray) (k : Nat) (hk : k < 1000000) (w : World) :
    Calls Try.prog 14 #[.string s, .int .i64 k] w fun e w' => e = .returned (.string (cutS s k)) ∧ w' = w := by
  have hsl : k < s.size → ∀ W, (Instr.slice 9 (.string s) none (some (.int .i64 (k : Int))) none).run Try.prog W = .ok (.string (s.extract 0 k)) W := fun h W => by
    rw [run_slice_string_to_if W 9 s .i64 _ Try.underlying9, if_pos ⟨by omega, by omega⟩]
    rfl
  have HSL := Lib.hid hsl
  clear hsl
  go_enter Try.func14, Try.ntmps14
  by_cases h : k < s.size
  · have e1 : decide ((k : Int) < (s.size : Int)) = true := by simp; omega
    have h1 := HSL.out h
    go_wp2_with fail
    go_returns
    exact ⟨by unfold cutS; rw [if_pos h]; rfl, rfl⟩
  · have e1 : decide ((k : Int) < (s.size : Int)) = false := by simp; omega
    go_wp2_with fail
    go_returns
    exact ⟨by unfold cutS; rw [if_neg h]; rfl, rfl⟩
end Go.Proofs.Ytfjhcoeehjephaa.D8
