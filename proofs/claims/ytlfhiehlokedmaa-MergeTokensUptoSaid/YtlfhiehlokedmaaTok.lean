/- Tokens, and the bytes of a text as ids. -/
import Derived.Test.YtlfhiehlokedmaaL4
namespace Go.Proofs.Ytlfhiehlokedmaa
open Go.RowKit

/-- a text's bytes, as ids -/
def bytesI (s : ByteArray) : List Int := s.data.toList.map fun b => (b.toNat : Int)
theorem length_bytesI (s : ByteArray) : (bytesI s).length = s.size := by unfold bytesI; rw [List.length_map]; rfl
theorem index_bytes (s : ByteArray) (k : Nat) (h : k < s.size) : 0 ≤ (bytesI s).getD k 0 ∧ (bytesI s).getD k 0 < 256 ∧ ∀ W, (Instr.index 9 (.string s) (.int .i64 (k : Int))).run Try.prog W = .ok (.int .u8 ((bytesI s).getD k 0)) W := by
  have h' : k < s.data.size := h
  have e : (bytesI s).getD k 0 = ((s[k]'h).toNat : Int) := by
    unfold bytesI
    rw [List.getD, List.getElem?_map, Array.getElem?_toList, Array.getElem?_eq_getElem h']
    rfl
  have := (s[k]'h).toNat_lt
  refine ⟨by omega, by omega, fun W => ?_⟩
  rw [run_index_string W 9 s .i64 k Try.underlying9, dif_pos ⟨by omega, by omega⟩, e]
  rfl

theorem tokens_any (A1 : Option Addr) (n1 c1 : Nat) (l : List (Int × Int)) (s : ByteArray) (w : World) (hl : l.length = n1) (hn1 : n1 ≤ 140737488355328) (hs : s.size ≤ 1048576)
    (h1 : Arr w w.heap.size 2 A1 n1 (PairC l)) :
    Calls Try.prog 18 #[.slice A1 n1 c1, .string s] w fun e w' => ∃ v, e = .returned (.tuple #[v, .int .i64 (apply l (bytesI s)).2]) ∧ w'.ownsRow w.heap.size 3 1 v (apply l (bytesI s)).1.length (intsV (apply l (bytesI s)).1) ∧ Below w.heap.size w w' := by
  obtain ⟨i3, hi3, hz3, hsz3, hbt3⟩ := info_parts info3
  have H1 := Lib.hid h1
  clear h1
  go_enter Try.func18, Try.ntmps18
  go_wp2_with fail
  go_loopw [6, 10] (fun v i wr => ∃ k : Nat, k ≤ s.size ∧ i = .int .i64 k ∧ wr.ownsRow w.heap.size 3 1 v k (intsV ((bytesI s).take k)) ∧ Below w.heap.size w wr) (fun _ i _ => s.size - (intOf i).toNat)
  case atStart => exact ⟨0, by omega, rfl, World.ownsRow_nil _ _ _ _, Below.refl _ _⟩
  case round =>
    obtain ⟨k, hk, rfl, hown, hbel⟩ := hrel
    have hsz := hbel.size
    by_cases hlt : k < s.size
    · obtain ⟨hx0, hx1, hidx⟩ := index_bytes s k hlt
      obtain ⟨x, hx⟩ : ∃ x, x = (bytesI s).getD k 0 := ⟨_, rfl⟩
      rw [← hx] at hidx hx0 hx1
      have HX := Lib.hid hx
      clear hx
      go_wp2_with (first
        | (at_builtin; refine wpList_app1 w _ rfl (.tmp 13) (.tmp 18) 30 rfl w.heap.size 3 i3 _ 8 Try.underlying30 hi3 hz3 hsz3 hbt3 rfl _ k (intsV ((bytesI s).take k)) rfl (hown.alloc _) (hbel.alloc hsz _) (.int .i64 x) _ rfl (by go_simp) rfl (by omega) (by unfold maxLen; omega) (by have := hsz; simp; omega) ?_; intro v1 w1 hown1 hb1 hg1))
      go_roundw
      case rel => exact ⟨k + 1, by omega, by go_num, by rw [getD_take _ _ (by rw [length_bytesI]; exact hlt), intsV_snoc, ← HX.out]; exact hown1, hb1⟩
      case measure => simp [intOf]; omega
    · have hkn : k = s.size := by omega
      have hown0 : wr.ownsRow w.heap.size 3 1 u6 k (intsV (bytesI s)) := by
        rw [List.take_of_length_le (by rw [length_bytesI]; omega)] at hown
        exact hown
      obtain ⟨-, A2, c2, rfl, ha2⟩ := own_ints hown0
      have HA := Lib.hid (apply_any A1 A2 n1 k c1 c2 l (bytesI s) wr hl (by rw [length_bytesI]; omega) hn1 (by omega) ((H1.out.below hbel).more hsz) ha2)
      clear hkn hown hown0 ha2
      go_wp2_with fail
      refine HA.out.mono ?_
      rintro e w2 ⟨v, rfl, hown2, hb2⟩
      have hown3 := own_base hown2 hsz
      have hB := hbel.trans (hb2.mono hsz)
      clear hown2 hb2 HA
      go_wp2_with fail
      go_ret2
      exact ⟨_, rfl, hown3, hB⟩

theorem bytes_any (s : ByteArray) (w : World) (hs : s.size ≤ 1048576) :
    Calls Try.prog 19 #[.string s] w fun e w' => ∃ v, e = .returned v ∧ w'.ownsRow w.heap.size 3 1 v s.size (intsV (bytesI s)) ∧ Below w.heap.size w w' := by
  obtain ⟨i3, hi3, hz3, hsz3, hbt3⟩ := info_parts info3
  go_enter Try.func19, Try.ntmps19
  go_wp2_with fail
  go_loopw [3, 4] (fun v i wr => ∃ k : Nat, k ≤ s.size ∧ i = .int .i64 k ∧ wr.ownsRow w.heap.size 3 1 v k (intsV ((bytesI s).take k)) ∧ Below w.heap.size w wr) (fun _ i _ => s.size - (intOf i).toNat)
  case atStart => exact ⟨0, by omega, rfl, World.ownsRow_made w #[] 0 (Nat.le_refl _) (by simp [maxLen]) rfl, (Below.refl _ _).alloc (Nat.le_refl _) _⟩
  case round =>
    obtain ⟨k, hk, rfl, hown, hbel⟩ := hrel
    have hsz := hbel.size
    by_cases hlt : k < s.size
    · obtain ⟨hx0, hx1, hidx⟩ := index_bytes s k hlt
      obtain ⟨x, hx⟩ : ∃ x, x = (bytesI s).getD k 0 := ⟨_, rfl⟩
      rw [← hx] at hidx hx0 hx1
      have HX := Lib.hid hx
      clear hx
      go_wp2_with (first
        | (at_builtin; refine wpList_app1 w _ rfl (.tmp 12) (.tmp 17) 30 rfl w.heap.size 3 i3 _ 8 Try.underlying30 hi3 hz3 hsz3 hbt3 rfl _ k (intsV ((bytesI s).take k)) rfl (hown.alloc _) (hbel.alloc hsz _) (.int .i64 x) _ rfl (by go_simp) rfl (by omega) (by unfold maxLen; omega) (by have := hsz; simp; omega) ?_; intro v1 w1 hown1 hb1 hg1))
      go_roundw
      case rel => exact ⟨k + 1, by omega, by go_num, by rw [getD_take _ _ (by rw [length_bytesI]; exact hlt), intsV_snoc, ← HX.out]; exact hown1, hb1⟩
      case measure => simp [intOf]; omega
    · have hown0 : wr.ownsRow w.heap.size 3 1 u3 s.size (intsV (bytesI s)) := by
        have hkn : k = s.size := by omega
        rw [List.take_of_length_le (by rw [length_bytesI]; omega), hkn] at hown
        exact hown
      clear hown
      go_wp2_with fail
      go_ret
      exact ⟨_, rfl, hown0, hbel⟩

set_option maxRecDepth 100000 in
set_option maxHeartbeats 4000000 in
theorem law_tokens (A1 : Option Addr) (n1 c1 : Nat) (l : List (Int × Int)) (s0 : ByteArray) (w : World) (hl : l.length = n1) (hn1 : n1 ≤ 140737488355328) (hs0 : s0.size ≤ 1048576)
    (h1 : Arr w w.heap.size 2 A1 n1 (PairC l)) :
    Calls Try.prog 6 #[.slice A1 n1 c1, .string s0] w fun e w' => e = .returned (.bool true) ∧ Below w.heap.size w w' := by
  have H1 := Lib.hid h1
  clear h1
  obtain ⟨bq, hbq⟩ : ∃ bq, bq = (decide (60 < s0.size) && decide (s0.size ≤ 4096)) := ⟨_, rfl⟩
  have HBQ := Lib.hid hbq
  clear hbq
  go_enter Try.func6, Try.ntmps6
  go_upto_region 1 with (fail)
  go_cut [16] from 9 (fun v wx => v = .bool bq ∧ wx = w)
  case first =>
    by_cases h : 60 < s0.size
    · by_cases h' : s0.size ≤ 4096
      · go_wp2_with fail
        go_meet
        exact ⟨by rw [HBQ.out]; simp [h, h']; omega, rfl⟩
      · go_wp2_with fail
        go_meet
        exact ⟨by rw [HBQ.out]; simp [h, h']; omega, rfl⟩
    · go_wp2_with fail
      go_meet
      exact ⟨by rw [HBQ.out]; simp [h], rfl⟩
  case rest =>
  obtain ⟨rfl, rfl⟩ := hcut
  go_upto_if 16 with (fail)
  go_cut [1] from 9 (fun v wx => ∃ s : ByteArray, v = .string s ∧ s.size ≤ 1048576 ∧ wx = wc)
  case first =>
    cases bq with
    | true =>
      have h := HBQ.out.symm
      rw [Bool.and_eq_true, decide_eq_true_eq, decide_eq_true_eq] at h
      have hd : decide (60 ≤ s0.size) = true := by simp; omega
      go_wp2_with fail
      go_meet
      exact ⟨_, rfl, by simp; omega, rfl⟩
    | false =>
      go_wp2_with fail
      go_meet
      exact ⟨s0, rfl, hs0, rfl⟩
  case rest =>
    obtain ⟨s, rfl, hs, rfl⟩ := hcut
    obtain ⟨ids, hids⟩ : ∃ ids, ids = bytesI s := ⟨_, rfl⟩
    have hi : ids.length = s.size := by rw [hids, length_bytesI]
    have HIL := Lib.hid hi
    have hbad : ids.any (badId n1) = false := by
      rw [List.any_eq_false]
      intro x hx
      rw [hids] at hx
      simp only [bytesI, List.mem_map] at hx
      obtain ⟨b, _, rfl⟩ := hx
      have := b.toNat_lt
      rw [badId, decide_eq_false (by omega), decide_eq_false (by omega)]
      simp
    have HBAD := Lib.hid hbad
    obtain ⟨er, her⟩ : ∃ er, er = (texts l).2 := ⟨_, rfl⟩
    have HER := Lib.hid her
    obtain ⟨eo, heo⟩ : ∃ eo, eo = (apply l ids).2 := ⟨_, rfl⟩
    obtain ⟨lo, hlo⟩ : ∃ lo, lo = (apply l ids).1.length := ⟨_, rfl⟩
    have HEO := Lib.hid heo
    have HLO := Lib.hid hlo
    have hlo3 : lo ≤ s.size := by rw [hlo, ← hi]; exact apply_len l ids
    have hA := tokens_any A1 n1 c1 l s wc hl hn1 hs H1.out
    rw [← hids, ← heo, ← hlo] at hA
    have HA := Lib.hid hA
    have hBy := fun W => bytes_any s W hs
    rw [← hids] at hBy
    have HBY := Lib.hid hBy
    clear her heo hlo hA hids hi hbad hBy
    go_wp2_with fail
    refine HA.out.mono ?_
    rintro e w1 ⟨v, rfl, hown, hb1⟩
    obtain ⟨-, A4, c4, rfl, ha4⟩ := own_ints hown
    have HA4 := Lib.hid ha4
    have hT := rtexts_any A1 n1 c1 l w1 hl hn1 ((H1.out.below hb1).more hb1.size)
    rw [← HER.out] at hT
    have HT := Lib.hid hT
    clear hT ha4 hown
    go_wp2_with fail
    refine HT.out.mono ?_
    rintro e w2 ⟨v, rfl, -, hb2⟩
    have hB2 := hb1.trans (hb2.mono hb1.size)
    have HA5 := Lib.hid ((HA4.out.below hb2).more hb2.size)
    clear HT HA HA4 hb1 hb2
    by_cases he : er = 0
    · subst he
      by_cases hbig : 4096 < s.size
      · have h := apply_long (l := l) (ids := ids) HER.out.symm (by rw [HIL.out]; exact hbig)
        obtain rfl : eo = 2 := by rw [HEO.out, h]
        obtain rfl : lo = 0 := by rw [HLO.out, h]; rfl
        clear h
        go_wp2_with fail
        go_ret
        exact ⟨rfl, hB2⟩
      · have h := apply_good (l := l) (ids := ids) HER.out.symm (by rw [HIL.out]; exact hbig) (by rw [hl]; exact HBAD.out)
        obtain rfl : eo = 0 := by rw [HEO.out, h]
        have hlm : lo = (mergeAll l ids).length := by rw [HLO.out, h]
        have hap : (apply l ids).1 = mergeAll l ids := by rw [h]
        have HLM := Lib.hid hlm
        have HAP := Lib.hid hap
        clear h hlm hap
        go_wp2_with fail
        refine (HBY.out w2).mono ?_
        rintro e w3 ⟨v3, rfl, hown3, hb3⟩
        obtain ⟨-, A2, c2, rfl, ha2⟩ := own_ints hown3
        have hB3 := hB2.trans (hb3.mono hB2.size)
        have hR := rapply_any A1 A2 n1 s.size c1 c2 l ids w3 hl HIL.out hn1 (by omega) ((H1.out.below hB3).more hB3.size) ha2
        rw [← HLM.out] at hR
        have HR := Lib.hid hR
        clear hR hown3 ha2
        go_wp2_with fail
        refine HR.out.mono ?_
        rintro e w4 ⟨v4, rfl, hown4, hb4⟩
        obtain ⟨-, A6, c6, rfl, ha6⟩ := own_ints hown4
        have ha5 := (((HA5.out.below hb3).more hb3.size).below hb4).more hb4.size
        rw [HAP.out] at ha5
        have HC := Lib.hid (ints_any A4 A6 lo lo c4 c6 w4.heap.size _ _ w4 HLM.out.symm HLM.out.symm (by omega) (by omega) ha5 ha6)
        have hB4 := hB3.trans (hb4.mono hB3.size)
        clear ha5 ha6 hown4
        go_wp2_with fail
        refine HC.out.mono ?_
        rintro e w5 ⟨rfl, q, rfl⟩
        go_wp2_with fail
        go_ret
        exact ⟨ret_bool (by simp), below_drewN hB4 _⟩
    · have h := apply_bad (l := l) (ids := ids) (er := er) HER.out.symm he
      obtain rfl : er = eo := by rw [HEO.out, h]
      obtain rfl : lo = 0 := by rw [HLO.out, h]; rfl
      have hbe : (er != 0) = true := by rw [bne_iff_ne]; exact he
      have hbe2 : (er == 0) = false := by rw [beq_eq_false_iff_ne]; exact he
      clear h he
      go_wp2_with fail
      go_ret
      exact ⟨rfl, hB2⟩
end Go.Proofs.Ytlfhiehlokedmaa
