/- The reference's Is and Put. -/
import Derived.Test.YtfjgfabochiflaaTRApply
import Derived.Test.YtfjgfabochiflaaFixP
import Derived.IntWalk
namespace Go.Proofs.Ytfjgfabochiflaa
open Go.RowKit

theorem is_any (c : Int) (w : World) : Calls Try.prog 77 #[.int .i64 c] w fun e w' => e = .returned (.bool (isC c)) ∧ w' = w := by
  obtain ⟨b, hb⟩ : ∃ b, b = isC c := ⟨_, rfl⟩
  have h := isC_iff c
  rw [← hb] at h ⊢
  have H := Lib.hid h
  clear h hb
  by_cases h1 : 0 ≤ c
  · have d1 : decide (0 ≤ c) = true := by simpa using h1
    by_cases h2 : c ≤ 1114111
    · have d2 : decide (c ≤ 1114111) = true := by simpa using h2
      by_cases h3 : 55296 ≤ c
      · have d3 : decide (55296 ≤ c) = true := by simpa using h3
        by_cases h4 : c ≤ 57343
        · have d4 : decide (c ≤ 57343) = true := by simpa using h4
          obtain rfl : b = false := by rw [Bool.eq_false_iff]; intro e; have := H.out.1 e; omega
          go_enter Try.func77, Try.ntmps77
          go_wp2
          go_returns
          exact ⟨by first | rfl | simp, rfl⟩
        · have d4 : decide (c ≤ 57343) = false := by simpa using h4
          obtain rfl : b = true := H.out.2 (by omega)
          go_enter Try.func77, Try.ntmps77
          go_wp2
          go_returns
          exact ⟨by first | rfl | simp, rfl⟩
      · have d3 : decide (55296 ≤ c) = false := by simpa using h3
        obtain rfl : b = true := H.out.2 (by omega)
        go_enter Try.func77, Try.ntmps77
        go_wp2
        go_returns
        exact ⟨by first | rfl | simp, rfl⟩
    · have d2 : decide (c ≤ 1114111) = false := by simpa using h2
      obtain rfl : b = false := by rw [Bool.eq_false_iff]; intro e; have := H.out.1 e; omega
      go_enter Try.func77, Try.ntmps77
      go_wp2
      go_returns
      exact ⟨by first | rfl | simp, rfl⟩
  · have d1 : decide (0 ≤ c) = false := by simpa using h1
    obtain rfl : b = false := by rw [Bool.eq_false_iff]; intro e; have := H.out.1 e; omega
    go_enter Try.func77, Try.ntmps77
    go_wp2
    go_returns
    exact ⟨by first | rfl | simp, rfl⟩

/-- a character's bytes -/
def putS (c : Int) : ByteArray := ⟨((putZ c).map fun x => UInt8.ofNat x.toNat).toArray⟩
theorem conv_new (w : World) (l : List Int) (hl : ∀ x, x ∈ l → 0 ≤ x ∧ x ≤ 255) (c : Nat) :
    (convert 65 9 (.slice (some ⟨w.heap.size, 0, none⟩) l.length c)).run Try.prog (w.alloc (.cells (l.map (Value.int .u8)).toArray 5)) = .ok (.string ⟨(l.map fun x => UInt8.ofNat x.toNat).toArray⟩) (w.alloc (.cells (l.map (Value.int .u8)).toArray 5)) := by
  have e : l.length = (l.map fun x => UInt8.ofNat x.toNat).length := by simp
  rw [e]
  refine run_convert_bytes_back _ 65 9 5 ⟨w.heap.size, 0, none⟩ c _ Try.underlying65 Try.underlying5 Try.underlying9 fun j hj => ?_
  have hj2 : j < l.length := by simpa using hj
  have h9 := hl l[j] (List.getElem_mem hj2)
  have : ((⟨w.heap.size, 0, none⟩ : Addr).add j) = ⟨w.heap.size, j, none⟩ := by unfold Addr.add; split <;> simp [*]
  rw [this, cell_of_row _ _ _ _ _ _ (heap_alloc_new w _)]
  simp [hj2]
  omega
set_option maxHeartbeats 4000000 in
theorem put_any (c : Int) (w : World) : Calls Try.prog 43 #[.int .i64 c] w fun e w' => e = .returned (.string (putS c)) ∧ Below w.heap.size w w' := by
  obtain ⟨ic, hic⟩ : ∃ ic, ic = isC c := ⟨_, rfl⟩
  have HI := Lib.hid (is_any c w)
  rw [← hic] at HI
  have H := Lib.hid (isC_iff c)
  rw [← hic] at H
  have HP := Lib.hid hic
  clear hic
  cases ic with
  | false =>
    have hp : putS c = ⟨#[]⟩ := by unfold putS putZ; rw [← HP.out]; rfl
    rw [hp]
    clear hp
    go_enter Try.func43, Try.ntmps43
    go_wp2_with (go_at_call 77; refine HI.out.mono ?_; rintro e w2 ⟨rfl, hw2⟩; rw [hw2]; clear hw2)
    go_returns
    exact ⟨by first | rfl | simp, Below.refl _ _⟩
  | true =>
    obtain ⟨h0, h1, h2⟩ := H.out.1 rfl
    by_cases a1 : c < 128
    · have d1 : decide (c < 128) = true := by simpa using a1
      have hcv := conv_new w [c] (by simp; omega) 1
      have hp : putS c = ⟨([c].map fun x => UInt8.ofNat x.toNat).toArray⟩ := by unfold putS; rw [putZ_one h0 (by omega)]
      rw [hp]
      simp only [List.map_cons, List.map_nil, List.length_cons, List.length_nil, Nat.zero_add] at hcv ⊢
      clear hp
      have HCV := Lib.hid hcv
      go_enter Try.func43, Try.ntmps43
      go_wp2_with (go_at_call 77; refine HI.out.mono ?_; rintro e w2 ⟨rfl, hw2⟩; rw [hw2]; clear hw2)
      go_returns
      exact ⟨by first | rfl | simp, (Below.refl _ _).alloc (Nat.le_refl _) _⟩
    · have d1 : decide (c < 128) = false := by simpa using a1
      by_cases a2 : c < 2048
      · have d2 : decide (c < 2048) = true := by simpa using a2
        have hcv := conv_new w [192 + c / 64, 128 + c % 64] (by simp; omega) 2
        have hp : putS c = ⟨([192 + c / 64, 128 + c % 64].map fun x => UInt8.ofNat x.toNat).toArray⟩ := by unfold putS; rw [putZ_two (by omega) (by omega)]
        rw [hp]
        simp only [List.map_cons, List.map_nil, List.length_cons, List.length_nil, Nat.zero_add, Nat.reduceAdd] at hcv ⊢
        clear hp
        have HCV := Lib.hid hcv
        go_enter Try.func43, Try.ntmps43
        go_wp2_with (go_at_call 77; refine HI.out.mono ?_; rintro e w2 ⟨rfl, hw2⟩; rw [hw2]; clear hw2)
        go_returns
        exact ⟨by first | rfl | simp, (Below.refl _ _).alloc (Nat.le_refl _) _⟩
      · have d2 : decide (c < 2048) = false := by simpa using a2
        by_cases a3 : c < 65536
        · have d3 : decide (c < 65536) = true := by simpa using a3
          have hcv := conv_new w [224 + c / 4096, 128 + c / 64 % 64, 128 + c % 64] (by simp; omega) 3
          have hp : putS c = ⟨([224 + c / 4096, 128 + c / 64 % 64, 128 + c % 64].map fun x => UInt8.ofNat x.toNat).toArray⟩ := by unfold putS; rw [putZ_three (by omega)]
          rw [hp]
          simp only [List.map_cons, List.map_nil, List.length_cons, List.length_nil, Nat.zero_add, Nat.reduceAdd] at hcv ⊢
          clear hp
          have HCV := Lib.hid hcv
          go_enter Try.func43, Try.ntmps43
          go_wp2_with (go_at_call 77; refine HI.out.mono ?_; rintro e w2 ⟨rfl, hw2⟩; rw [hw2]; clear hw2)
          go_returns
          exact ⟨by first | rfl | simp, (Below.refl _ _).alloc (Nat.le_refl _) _⟩
        · have d3 : decide (c < 65536) = false := by simpa using a3
          have hcv := conv_new w [240 + c / 262144, 128 + c / 4096 % 64, 128 + c / 64 % 64, 128 + c % 64] (by simp; omega) 4
          have hp : putS c = ⟨([240 + c / 262144, 128 + c / 4096 % 64, 128 + c / 64 % 64, 128 + c % 64].map fun x => UInt8.ofNat x.toNat).toArray⟩ := by unfold putS; rw [putZ_four (by omega) h1]
          rw [hp]
          simp only [List.map_cons, List.map_nil, List.length_cons, List.length_nil, Nat.zero_add, Nat.reduceAdd] at hcv ⊢
          clear hp
          have HCV := Lib.hid hcv
          go_enter Try.func43, Try.ntmps43
          go_wp2_with (go_at_call 77; refine HI.out.mono ?_; rintro e w2 ⟨rfl, hw2⟩; rw [hw2]; clear hw2)
          go_returns
          exact ⟨by first | rfl | simp, (Below.refl _ _).alloc (Nat.le_refl _) _⟩
end Go.Proofs.Ytfjgfabochiflaa
