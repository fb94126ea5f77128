/- strings.Join with nothing between. -/
import Derived.Test.YtnadkmdbbmbdpaaPTexts
import Derived.Test.YtnadkmdbbmbdpaaBld
import Derived.Test.YtnadkmdbbmbdpaaShelf
namespace Go.Proofs.Ytnadkmdbbmbdpaa
open Go.RowKit

theorem byteCells_append (a b : Bs) : Lib.byteCells a ++ Lib.byteCells b = Lib.byteCells (a ++ b) := by simp [Lib.byteCells]
theorem byteCells_length (a : Bs) : (Lib.byteCells a).length = a.length := by simp [Lib.byteCells]
def catB (l : List ByteArray) : Bs := (l.map (fun t => t.data.toList)).flatten
theorem catB_snoc (l : List ByteArray) (t : ByteArray) : catB (l ++ [t]) = catB l ++ t.data.toList := by simp [catB]
theorem catB_append (l m : List ByteArray) : catB (l ++ m) = catB l ++ catB m := by simp [catB]
theorem catB_cons (t : ByteArray) (l : List ByteArray) : catB (t :: l) = t.data.toList ++ catB l := by simp [catB]
theorem catB_step (l : List ByteArray) (k : Nat) (hk : k < l.length) : catB (l.take (k + 1)) = catB (l.take k) ++ (l.getD k ⟨#[]⟩).data.toList := by
  rw [List.take_succ_eq_append_getElem hk, catB_snoc]
  simp [hk]
theorem catB_take_len (l : List ByteArray) (k : Nat) : (catB (l.take k)).length ≤ (catB l).length := by
  have h : catB (l.take k ++ l.drop k) = catB (l.take k) ++ catB (l.drop k) := catB_append _ _
  rw [List.take_append_drop] at h
  rw [h, List.length_append]; omega
theorem slice_tail (b o n c k : Nat) (hk : k ≤ n) (hc : k < c) (W : World) : (Instr.slice 37 (.slice (some ⟨b, o, none⟩) n c) (some (.int .i64 (k : Int))) none none).run Try.prog W = .ok (.slice (some ⟨b, o + k, none⟩) (n - k) (c - k)) W := by
  have h1 : Try.prog.underlying 37 = some (.slice (Try.prog.elem 37)) := by kernel_rfl
  have h2 : Try.prog.elem 37 = 9 := by kernel_rfl
  rw [run_slice_l W 37 (some ⟨b, o, none⟩) n c h1 .i64 (k : Int) (by omega) (by omega), h2, Try.sizeOf9]
  have h3 : c ≠ k := by omega
  simp [Result.andThen, sliced, Addr.add_mid, h3]

set_option maxRecDepth 100000 in
set_option maxHeartbeats 8000000 in
theorem join_any (A : Option Addr) (n c : Nat) (L : List ByteArray) (w : World) (hn : L.length = n) (h : Arr w w.heap.size 1 A n (StrC L)) (hc : 0 < n → n ≤ c) (hcat : (catB L).length ≤ 262144) (hn2 : n ≤ 262144) :
    Calls Try.prog 18 #[.slice A n c, .string ⟨#[]⟩] w fun e w' => e = .returned (.string ⟨(catB L).toArray⟩) ∧ Below w.heap.size w w' := by
  have H := Lib.hid h
  have hs0 : (⟨#[]⟩ : ByteArray).size = 0 := rfl
  clear h
  rcases (by omega : n = 0 ∨ n = 1 ∨ 2 ≤ n) with h0 | h0 | h0
  · have e1 : ((n : Int) == 0) = true := by simp [h0]
    have hl : catB L = [] := by rw [List.eq_nil_of_length_eq_zero (by omega : L.length = 0)]; rfl
    have HL := Lib.hid hl
    clear h0 hl
    go_enter Try.func18, Try.ntmps18
    go_wp2_with fail
    go_returns
    exact ⟨by rw [HL.out]; rfl, Below.refl _ _⟩
  · have e1 : ((n : Int) == 0) = false := beq_eq_false_iff_ne.mpr (by omega)
    have e2 : ((n : Int) == 1) = true := by simp [h0]
    obtain ⟨b, o, rfl, _, hx⟩ := H.out.one (k := 0) (by omega)
    unfold StrC at hx
    rw [Nat.add_zero] at hx
    obtain ⟨t, ht⟩ : ∃ t, t = L.getD 0 ⟨#[]⟩ := ⟨_, rfl⟩
    rw [← ht] at hx
    have hl : catB L = t.data.toList := by
      have := catB_step L 0 (by omega)
      rw [List.take_of_length_le (by omega), ← ht] at this
      simpa [catB] using this
    have HL := Lib.hid hl
    have h10 : (0 : Int) < (n : Int) := by omega
    clear h0 hl ht
    go_enter Try.func18, Try.ntmps18
    go_wp2_with fail
    go_returns
    exact ⟨by rw [HL.out]; rfl, Below.refl _ _⟩
  · have e1 : ((n : Int) == 0) = false := beq_eq_false_iff_ne.mpr (by omega)
    have e2 : ((n : Int) == 1) = false := beq_eq_false_iff_ne.mpr (by omega)
    have hnc := hc (by omega)
    have HLN := Lib.hid hn
    obtain ⟨b, o, rfl, hbw, hx0⟩ := H.out.one (k := 0) (by omega)
    unfold StrC at hx0
    rw [Nat.add_zero] at hx0
    have h10 : (0 : Int) < (n : Int) := by omega
    clear hc hn
    go_enter Try.func18, Try.ntmps18
    go_wp2_with fail
    go_loop [5, 41] (fun m i => ∃ k : Nat, k ≤ n ∧ i = .int .i64 k ∧ m = .int .i64 ((catB (L.take k)).length : Nat)) (fun _ i => n - (intOf i).toNat)
    case atStart => exact ⟨0, by omega, rfl, rfl⟩
    case round =>
      obtain ⟨k, hk, rfl, rfl⟩ := hrel
      by_cases hlt : k < n
      · obtain ⟨b', o', hA, _, hx⟩ := H.out.one hlt
        simp only [Option.some.injEq, Addr.mk.injEq, and_true] at hA
        obtain ⟨rfl, rfl⟩ := hA
        unfold StrC at hx
        have hst := catB_step L k (by rw [HLN.out]; exact hlt)
        have h1 := catB_take_len L (k + 1)
        obtain ⟨t, ht⟩ : ∃ t, t = L.getD k ⟨#[]⟩ := ⟨_, rfl⟩
        rw [← ht] at hx hst
        have hst2 : (catB (L.take (k + 1))).length = (catB (L.take k)).length + t.size := by rw [hst, List.length_append, size_data]
        obtain ⟨m, hm⟩ : ∃ m, m = (catB (L.take k)).length := ⟨_, rfl⟩
        rw [← hm] at hst2 ⊢
        have HST := Lib.hid hst2
        have hb1 : m + t.size ≤ 262144 := by omega
        have e3 : decide ((9223372036854775807 : Int) - (m : Int) < (t.size : Int)) = false := by simp; omega
        clear hst h1 ht hm hst2
        go_wp2_with fail
        go_round
        case rel => exact ⟨k + 1, by omega, by go_num, by rw [HST.out]; go_num⟩
        case measure => simp [intOf]; omega
      · obtain rfl : k = n := by omega
        rw [List.take_of_length_le (by rw [HLN.out]; exact Nat.le_refl _)]
        obtain ⟨m, hm⟩ : ∃ m, m = (catB L).length := ⟨_, rfl⟩
        rw [← hm] at hcat ⊢
        have HM := Lib.hid hm
        clear hm
        have hgr := Try.Builder_Grow_fresh w.heap.size w.heap.size m (w.alloc (.cells #[.pointer none, .slice none 0 0] 54)) (Nat.le_refl _) (heap_alloc_new w _) (by simp) (by omega)
        have HGR := Lib.hid hgr
        clear hgr
        go_wp2_with fail
        refine HGR.out.mono ?_
        rintro e w2 ⟨rfl, hbl2, hb2⟩
        have hbb2 : Below w.heap.size w w2 := ((Below.refl _ _).alloc (Nat.le_refl _) _).trans hb2
        have hlt2 : w.heap.size < w2.heap.size := hbl2.lt
        have hx2 := (hbb2.cell (p := ⟨b, o, none⟩) hbw).trans hx0
        obtain ⟨t0, ht0⟩ : ∃ t0, t0 = L.getD 0 ⟨#[]⟩ := ⟨_, rfl⟩
        rw [← ht0] at hx2
        have hs1 := catB_step L 0 (by rw [HLN.out]; omega)
        rw [← ht0] at hs1
        have hs2 : catB (L.take 1) = t0.data.toList := by simpa [catB] using hs1
        have hs3 := catB_take_len L 1
        have hts : t0.size ≤ 262144 := by rw [hs2, size_data] at hs3; have := HM.out; omega
        have hw0 := writeString_any w.heap.size w.heap.size [] t0 w2 (.inr hbl2) (by simpa using (by omega : t0.size ≤ 140737488355328)) (Nat.le_of_lt hlt2)
        have HW0 := Lib.hid hw0
        have HS := Lib.hid hs2
        obtain ⟨p, rfl⟩ : ∃ p, k = p + 1 := ⟨k - 1, by omega⟩
        have hsl : ∀ W, (Instr.slice 37 (.slice (some ⟨b, o, none⟩) (p + 1) c) (some (.int .i64 1)) none none).run Try.prog W = .ok (.slice (some ⟨b, o + 1, none⟩) p (c - 1)) W := fun W => slice_tail b o (p + 1) c 1 (by omega) (by omega) W
        have hp1 : (1 : Int) ≤ ((p + 1 : Nat) : Int) := by omega
        clear hw0 hs1 hs2 hs3 ht0 hbl2 hb2 hx0
        go_wp2_with fail
        refine HW0.out.mono ?_
        rintro e w3 ⟨rfl, hbl3, hb3⟩
        have hB3 : Below w.heap.size w w3 := hbb2.trans hb3
        have hl3 : w.heap.size < w3.heap.size := Nat.lt_of_lt_of_le hlt2 hb3.size
        have HB3 := Lib.hid (And.intro hbl3 hB3)
        clear hbl3 hb3 hbb2 HW0 hB3
        go_wp2_with fail
        go_loopw [65] (fun i wr => ∃ j : Nat, j ≤ p ∧ i = .int .i64 j ∧ Lib.IsBuilder 54 5 w.heap.size w.heap.size (Lib.byteCells (catB (L.take (j + 1)))) wr ∧ Below w.heap.size w wr ∧ w.heap.size < wr.heap.size) (fun i _ => p - (intOf i).toNat)
        case atStart => exact ⟨0, by omega, rfl, by rw [Nat.zero_add, HS.out]; exact HB3.out.1, HB3.out.2, hl3⟩
        case round =>
          obtain ⟨j, hj, rfl, hbl, hbw4, hlw⟩ := hrel
          obtain ⟨w4, rfl⟩ : ∃ w4 : World, w4 = wr := ⟨_, rfl⟩
          have hcl := catB_take_len L (j + 1)
          have hcm := HM.out
          by_cases hlj : j < p
          · obtain ⟨b', o', hA, _, hx⟩ := H.out.one (k := j + 1) (by omega)
            simp only [Option.some.injEq, Addr.mk.injEq, and_true] at hA
            obtain ⟨rfl, rfl⟩ := hA
            unfold StrC at hx
            rw [show o + (j + 1) = o + 1 + j by omega] at hx
            have hst := catB_step L (j + 1) (by rw [HLN.out]; omega)
            have h1 := catB_take_len L (j + 1 + 1)
            obtain ⟨t, ht⟩ : ∃ t, t = L.getD (j + 1) ⟨#[]⟩ := ⟨_, rfl⟩
            rw [← ht] at hx hst
            have hln : (catB (L.take (j + 1 + 1))).length = (catB (L.take (j + 1))).length + t.size := by rw [hst, List.length_append, size_data]
            have hx4 := (hbw4.cell (p := ⟨b, o + 1 + j, none⟩) hbw).trans hx
            have HW1 := Lib.hid (writeString_any w.heap.size w.heap.size (Lib.byteCells (catB (L.take (j + 1)))) ⟨#[]⟩ w4 hbl (by rw [byteCells_length, hs0]; omega) (Nat.le_of_lt hlw))
            have HW2 := Lib.hid (fun W hW hle => writeString_any w.heap.size w.heap.size (Lib.byteCells (catB (L.take (j + 1)))) t W hW (by rw [byteCells_length]; omega) hle)
            have HST := Lib.hid hst
            have HB4 := Lib.hid hbw4
            clear hcl hcm hst h1 ht hln hbl hbw4 hx
            go_wp2_with fail
            refine HW1.out.mono ?_
            rintro e w5 ⟨rfl, hbl5, hb5⟩
            have hbl5' : Lib.IsBuilder 54 5 w.heap.size w.heap.size (Lib.byteCells (catB (L.take (j + 1)))) w5 := by
              have e9 : Lib.byteCells (catB (L.take (j + 1))) ++ Lib.strCells ⟨#[]⟩ = Lib.byteCells (catB (L.take (j + 1))) := List.append_nil _
              rw [e9] at hbl5; exact hbl5
            have hB5 : Below w.heap.size w w5 := HB4.out.trans hb5
            have hl5 : w.heap.size < w5.heap.size := Nat.lt_of_lt_of_le hlw hb5.size
            have HW3 := Lib.hid (HW2.out w5 hbl5' (Nat.le_of_lt hl5))
            clear hbl5 hbl5' hb5
            go_wp2_with fail
            refine HW3.out.mono ?_
            rintro e w6 ⟨rfl, hbl6, hb6⟩
            have HB6 := Lib.hid (And.intro hbl6 hb6)
            clear hbl6 hb6
            go_wp2_with fail
            go_roundw
            case rel => exact ⟨j + 1, by omega, by go_num, by rw [HST.out, ← byteCells_append]; exact HB6.out.1, hB5.trans HB6.out.2, Nat.lt_of_lt_of_le hl5 HB6.out.2.size⟩
            case measure => simp [intOf]; omega
          · obtain rfl : j = p := by omega
            rw [List.take_of_length_le (by rw [HLN.out]; exact Nat.le_refl _)] at hbl
            have HSTR := Lib.hid (Try.Builder_String_any w.heap.size w.heap.size (catB L) w4 hbl (Nat.le_of_lt hlw))
            have HB4 := Lib.hid hbw4
            clear hbl hcl hcm hbw4
            go_wp2_with fail
            refine HSTR.out.mono ?_
            rintro e w5 ⟨rfl, hb5⟩
            have HB5 := Lib.hid (HB4.out.trans hb5)
            clear hb5
            go_wp2_with fail
            go_returns
            exact ⟨by first | rfl | simp, HB5.out⟩
end Go.Proofs.Ytnadkmdbbmbdpaa
