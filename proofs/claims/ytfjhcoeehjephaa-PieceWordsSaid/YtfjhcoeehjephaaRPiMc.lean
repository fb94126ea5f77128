/- The reference's Pieces: a text, taken apart by a tree's own words. -/
import Derived.Test.YtfjhcoeehjephaaDLikeSMc
import Derived.Test.YtfjhcoeehjephaaREnMc
namespace Go.Proofs.Ytfjhcoeehjephaa.D8
open Go.RowKit
attribute [local go_sem ↓] Go.wp_at_zero Go.wp_at_succ

theorem own_keptD {w w' : World} {base n size : Nat} {e : TypeId} {v : Value} {xs : List Value} (h : w.ownsRow base e size v n xs) (hb : Below w.heap.size w w') : w'.ownsRow base e size v n xs :=
  own_move h (fun b _ _ ho _ => (hb.block b (Array.getElem?_eq_some_iff.1 ho).1).trans ho)
/-- the greatest of a number and a list -/
def mxL (L : List Int) (m : Int) : Int := L.foldl (fun m x => if m < x then x else m) m
theorem mxL_snoc (L : List Int) (x m : Int) : mxL (L ++ [x]) m = if mxL L m < x then x else mxL L m := by
  unfold mxL; rw [List.foldl_append]; rfl
theorem mxL_sorted : ∀ (L : List Int) (m : Int), L.Pairwise (· < ·) → mxL L m = if L.length = 0 then m else if lastI L ≤ m then m else lastI L
  | [], m, _ => rfl
  | [x], m, _ => by
    show (if m < x then x else m) = if lastI [x] ≤ m then m else lastI [x]
    show (if m < x then x else m) = if x ≤ m then m else x
    by_cases h : m < x
    · rw [if_pos h, if_neg (by omega)]
    · rw [if_neg h, if_pos (by omega)]
  | x :: y :: L, m, h => by
    rw [List.pairwise_cons] at h
    have h1 := mxL_sorted (y :: L) (if m < x then x else m) h.2
    have h2 : mxL (x :: y :: L) m = mxL (y :: L) (if m < x then x else m) := rfl
    have h3 : lastI (x :: y :: L) = lastI (y :: L) := by
      unfold lastI
      rw [if_neg (by simp), if_neg (by simp)]
      simp
    have h4 : x < lastI (y :: L) := h.1 _ (lastI_mem (by simp))
    have hl : (y :: L).length ≠ 0 := by simp
    have hl2 : (x :: y :: L).length ≠ 0 := by simp
    by_cases hm : m < x
    · rw [if_pos hm] at h1 h2
      rw [h2, h1, if_neg hl, if_neg hl2, h3, if_neg (by omega), if_neg (by omega)]
    · rw [if_neg hm] at h1 h2
      rw [h2, h1, if_neg hl, if_neg hl2, h3]
theorem outs_sorted (f : Nat → Bool) (p m : Nat) : (outsTo f p m).Pairwise (· < ·) := by
  unfold outsTo
  refine List.pairwise_map.2 ((List.Pairwise.filter _ List.pairwise_lt_range).imp (fun {a b} h => ?_))
  show ((p + a : Nat) : Int) < ((p + b : Nat) : Int)
  omega
theorem outs_ge (f : Nat → Bool) (p m : Nat) : ∀ x ∈ outsTo f p m, (p : Int) ≤ x := fun x hx => by
  unfold outsTo at hx
  obtain ⟨k, _, rfl⟩ := List.mem_map.1 hx
  show (p : Int) ≤ ((p + k : Nat) : Int)
  omega
/-- a piece's end by the tree -/
theorem piece_mx {D : Dfa} (hr : RightD D) (s : ByteArray) (k : Nat) (hk : k < s.size) {L : List Int} (hL : endsR D s (k : Int) = L) (hs : L.Pairwise (· < ·)) : (pieceEnd D s k : Int) = mxL L ((k : Int) + 1) := by
  rw [pieceEnd_last D hr s k hk, hL, mxL_sorted L _ hs]
  by_cases h0 : L.length = 0
  · have : lastI L = -1 := by unfold lastI; rw [if_pos h0]
    rw [if_pos h0, this, if_pos (by omega)]
  · rw [if_neg h0]
    by_cases h1 : lastI L ≤ (k : Int)
    · rw [if_pos h1, if_pos (by omega)]
    · rw [if_neg h1]
      by_cases h2 : lastI L ≤ (k : Int) + 1
      · rw [if_pos h2]; omega
      · rw [if_neg h2]

set_option maxRecDepth 100000 in
set_option maxHeartbeats 16000000 in
theorem rpieces_any (t : Tr) (D : Dfa) (s : ByteArray) (TA : Option Addr) (n tc : Nat) (W : World) (hs : s.size ≤ 40) (ht : TrIn W t TA n) (hsh : Shp t) (hwf : TrWf t) (hpe : ∀ k, k < s.size → (pieceEnd D s k : Int) = mxL (endsT s t k) ((k : Int) + 1)) :
    Calls Try.prog 23 #[.agg #[.int .i64 t.kind, .int .u64 t.s0, .int .u64 t.s1, .int .u64 t.s2, .int .u64 t.s3, .int .i64 t.lo, .int .i64 t.hi, .slice TA n tc], .string s] W fun e W' =>
      ∃ A c, e = .returned (.slice A (chunks D s 0).length c) ∧ Arr W' W'.heap.size 1 A (chunks D s 0).length (StrC (chunks D s 0)) ∧ Below W.heap.size W W' := by
  obtain ⟨i9, hi9, hz9, hsz9, hbt9⟩ := info_parts info9
  have hb0 : Below W.heap.size W (W.alloc (tbox t TA n tc)) := (Below.refl _ _).alloc (Nat.le_refl _) _
  have hb1 := hb0.alloc hb0.size (.cells #[] 9)
  have hbx : Blk (W.alloc (tbox t TA n tc)) W.heap.size 49 [.int .i64 t.kind, .int .u64 t.s0, .int .u64 t.s1, .int .u64 t.s2, .int .u64 t.s3, .int .i64 t.lo, .int .i64 t.hi, .slice TA n tc] := Blk.new W 49 _
  have HBX := Lib.hid hbx
  have HR := Lib.hid (fun (p : Nat) (hp : p ≤ s.size) (w' : World) (hb : Below W.heap.size W w') => rends_any t s p TA n tc w' (by omega) hp (ht.keep hb) hsh hwf)
  have HPE := Lib.hid hpe
  have HB0 := Lib.hid hb0
  have hmade := World.ownsRow_made (W.alloc (tbox t TA n tc)) #[] 0 (base := W.heap.size + 1) (e := 9) (size := 1) (by simp) (by unfold maxLen; omega) (by simp)
  have HMD := Lib.hid hmade
  have hbl := Below.refl (W.heap.size + 1) (W.alloc (tbox t TA n tc))
  have hbl2 := hbl.alloc (by simp) (.cells #[] 9)
  have HBL := Lib.hid hbl2
  clear ht hsh hwf hpe hb0 hb1 hbx hmade hbl hbl2
  go_enter Try.func23, Try.ntmps23
  go_upto_region 3 with (fail)
  obtain ⟨W1, hW1⟩ : ∃ W1, W1 = W.alloc (tbox t TA n tc) := ⟨_, rfl⟩
  rw [← hW1] at HBX HB0 HMD HBL
  have hsw : W1.heap.size = W.heap.size + 1 := by rw [hW1]; simp
  have HSW := Lib.hid hsw
  rw [hsw] at HMD
  (try rw [← hW1])
  clear hW1 hsw
  generalize W1.alloc (.cells #[] 9) = w2 at HMD HBL ⊢
  go_loopw [5, 6] (fun v av wr => ∃ (k : Nat) (C : List ByteArray), av = .int .i64 (k : Int) ∧ k ≤ s.size ∧ C.length ≤ k ∧ C ++ chunks D s k = chunks D s 0 ∧ wr.ownsRow (W.heap.size + 1) 9 1 v C.length (strsV C) ∧ Below (W.heap.size + 1) W1 wr ∧ W.heap.size + 1 ≤ wr.heap.size) (fun _ av _ => s.size - (intOf av).toNat)
  case atStart => exact ⟨0, [], rfl, by omega, by simp, rfl, HMD.out, HBL.out, by have := HBL.out.size; rw [HSW.out] at this; exact this⟩
  case round =>
    obtain ⟨k, C, rfl, hk, hCk, hC, hown, hbe, hsz⟩ := hrel
    obtain ⟨w3, rfl⟩ : ∃ w3 : World, w3 = wr := ⟨_, rfl⟩
    obtain ⟨v, rfl⟩ : ∃ v : Value, v = u5 := ⟨_, rfl⟩
    clear HMD HBL
    have HO := Lib.hid hown
    have HBE := Lib.hid hbe
    have HC := Lib.hid hC
    clear hown hbe hC
    by_cases hlt : k < s.size
    · have d1 : decide ((k : Int) < (s.size : Int)) = true := by simp; omega
      have d1' : decide (k < s.size) = true := by simpa using hlt
      have hbx := HBX.out.below HBE.out (by have := HBX.out.lt; rw [HSW.out] at this; exact this)
      have q0 := hbx.cell 0
      have q1 := hbx.cell 1
      have q2 := hbx.cell 2
      have q3 := hbx.cell 3
      have q4 := hbx.cell 4
      have q5 := hbx.cell 5
      have q6 := hbx.cell 6
      have q7 := hbx.cell 7
      simp only [List.getElem?_cons_zero, List.getElem?_cons_succ] at q0 q1 q2 q3 q4 q5 q6 q7
      have hbw := HB0.out.trans (HBE.out.mono (by omega))
      have hrc := HR.out k hk w3 hbw
      have hpe := HPE.out k hlt
      have hpb := pieceEnd_bounds D s k hlt
      have hlen : (endsT s t k).length ≤ 1000 := by
        have := endsT_len s t k
        omega
      obtain ⟨L, hL⟩ : ∃ L, L = endsT s t k := ⟨_, rfl⟩
      rw [← hL] at hrc hpe hlen
      obtain ⟨m, hm⟩ : ∃ m, m = L.length := ⟨_, rfl⟩
      rw [← hm] at hrc hlen
      have HRC := Lib.hid hrc
      have HPE2 := Lib.hid (And.intro hpe hpb)
      have HM := Lib.hid hm
      clear hbx hrc hpe hpb hL hm
      go_upto_region 6 with (go_at_call 49; refine HRC.out.mono ?_; rintro e w4 ⟨A4, c4, rfl, hA4, hb4⟩; have HA4 := Lib.hid hA4; have HB4 := Lib.hid hb4; clear hA4 hb4)
      clear q0 q1 q2 q3 q4 q5 q6 q7
      have HO4 := Lib.hid (own_keptD HO.out HB4.out)
      have HBE4 := Lib.hid (HBE.out.trans (HB4.out.mono hsz))
      clear HBE HO hsz
      go_loopw [7, 22] (fun tv iv wr => ∃ q : Nat, iv = .int .i64 (q : Int) ∧ q ≤ m ∧ tv = .int .i64 (mxL (L.take q) ((k : Int) + 1)) ∧ wr = w4) (fun _ iv _ => m - (intOf iv).toNat)
      case atStart => exact ⟨0, rfl, by omega, by first | rfl | simp [mxL], rfl⟩
      case round =>
        obtain ⟨q, rfl, hq, rfl, hwr⟩ := hrel
        subst hwr
        by_cases hlq : q < m
        · have d2 : decide ((q : Int) < (m : Int)) = true := by simp; omega
          obtain ⟨b9, o9, rfl, _, hc9⟩ := HA4.out.one hlq
          unfold NumC at hc9
          have hsn := mxL_snoc (L.take q) (L.getD q 0) ((k : Int) + 1)
          rw [← take_next L q 0 (by rw [← HM.out]; exact hlq)] at hsn
          obtain ⟨x, hx⟩ : ∃ x, x = L.getD q 0 := ⟨_, rfl⟩
          obtain ⟨y, hy⟩ : ∃ y, y = mxL (L.take q) ((k : Int) + 1) := ⟨_, rfl⟩
          rw [← hx] at hc9
          rw [← hx, ← hy] at hsn
          rw [← hy]
          have HSN := Lib.hid hsn
          clear hx hsn
          by_cases hxy : y < x
          · have d3 : decide (y < x) = true := by simpa using hxy
            clear hy
            go_wp2_with fail
            go_roundw
            case rel => exact ⟨q + 1, by go_num, by omega, by rw [HSN.out, if_pos hxy], by first | rfl | trivial⟩
            case measure => simp [intOf]; omega
          · have d3 : decide (y < x) = false := by simp; omega
            clear hy
            go_wp2_with fail
            go_roundw
            case rel => exact ⟨q + 1, by go_num, by omega, by rw [HSN.out, if_neg hxy], by first | rfl | trivial⟩
            case measure => simp [intOf]; omega
        · obtain rfl : q = m := by omega
          have d2 : decide ((q : Int) < (q : Int)) = false := by simp
          have hfin : mxL (L.take q) ((k : Int) + 1) = (pieceEnd D s k : Int) := by rw [List.take_of_length_le (by rw [← HM.out]; exact Nat.le_refl _)]; exact HPE2.out.1.symm
          rw [hfin]
          have hpb := HPE2.out.2
          obtain ⟨pe, hpe⟩ : ∃ pe, pe = pieceEnd D s k := ⟨_, rfl⟩
          rw [← hpe] at hpb ⊢
          have hsl := fun W => slice_mid s k pe (by omega) hpb.2 W
          obtain ⟨tx, htx⟩ : ∃ tx, tx = s.extract k pe := ⟨_, rfl⟩
          rw [← htx] at hsl
          have HTX := Lib.hid (And.intro hpe htx)
          have hcl : C.length ≤ 40 := by omega
          have hsz4 : W.heap.size + 1 ≤ wr.heap.size := by have := HBE4.out.size; rw [HSW.out] at this; exact this
          have hp1 := hpb.1
          have hp2 := hpb.2
          clear hfin hpe htx hpb
          go_wp2_with (first
            | (at_builtin; refine wpList_app1 W1 _ rfl (.tmp 31) (.tmp 36) 54 rfl (W.heap.size + 1) 9 i9 (.string ⟨#[]⟩) 16 Try.underlying54 hi9 hz9 hsz9 hbt9 rfl _ C.length (strsV C) rfl (HO4.out.alloc _) (HBE4.out.alloc hsz4 _) (.string tx) _ rfl (by go_simp) rfl (by omega) (by unfold maxLen; omega) (by simp; omega) ?_; intro v5 w5 hown5 hbel5 hg5))
          go_roundw
          case rel => exact ⟨pe, C ++ [tx], by go_num, by omega, by rw [List.length_append, List.length_singleton]; omega, by rw [← HC.out, chunks_step D s k hlt, ← HTX.out.1, ← HTX.out.2, List.append_assoc]; rfl, by rw [List.length_append, strsV_snoc]; exact hown5, hbel5, by have := hbel5.size; rw [HSW.out] at this; exact this⟩
          case measure => simp [intOf]; omega
    · have hke : k = s.size := by omega
      have d1 : decide ((k : Int) < (s.size : Int)) = false := by simp; omega
      have d1' : decide (k < s.size) = false := by simp; omega
      have hfin := HC.out
      rw [chunks_end D s k (by omega), List.append_nil] at hfin
      have HF := Lib.hid hfin
      clear hfin hke
      go_wp2_with fail
      obtain ⟨A, c, hv⟩ := own_slice HO.out
      go_returns
      rw [HF.out] at hv
      refine ⟨A, c, by rw [← hv]; rfl, ?_, HB0.out.trans (HBE.out.mono (by omega))⟩
      have h8 := HO.out
      rw [HF.out, hv] at h8
      exact own_strs h8
end Go.Proofs.Ytfjhcoeehjephaa.D8
