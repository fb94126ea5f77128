/- tok.pieces. -/
import Derived.Test.YtfjgfabochiflaaPcsTc
import Derived.Test.YtfjgfabochiflaaEndsTc
import Derived.Test.YtfjgfabochiflaaHRTTc
import Derived.Lib.MinMax
import Derived.Deep.Cut
import Derived.Deep.CutRange
namespace Go.Proofs.Ytfjgfabochiflaa
open Go.RowKit

def strsV (l : List ByteArray) : List Value := l.map Value.string
theorem strsV_snoc (l : List ByteArray) (x : ByteArray) : strsV (l ++ [x]) = strsV l ++ [.string x] := by simp [strsV]
set_option maxRecDepth 100000 in
set_option maxHeartbeats 8000000 in
theorem pieces_any (t : Tr) (S : Nat) (E : List Ed) (hm : Made t S E) (A : Option Addr) (n c : Nat) (s : ByteArray) (w : World) (h : NfaIn w A n ⟨(S : Int), 0, 1, E⟩) (hs : s.size ≤ 1000000) :
    Calls Try.prog 62 #[.agg #[.int .i64 (S : Int), .int .i64 0, .int .i64 1, .slice A n c], .string s] w fun e w' =>
      ∃ v, e = .returned v ∧ w'.ownsRow w.heap.size 9 1 v (piecesT t s).length (strsV (piecesT t s)) ∧ Below w.heap.size w w' := by
  obtain ⟨i9, hi9, hz9, hs9, hb9⟩ := info_parts H14.info9
  obtain ⟨w1, hw1⟩ : ∃ w1, w1 = w.alloc (.cells #[.int .i64 (S : Int), .int .i64 0, .int .i64 1, .slice A n c] 118) := ⟨_, rfl⟩
  have hb0 : Below w.heap.size w w1 := by rw [hw1]; exact (Below.refl _ _).alloc (Nat.le_refl _) _
  have hgl : w.heap.size < w1.heap.size := by rw [hw1]; simp
  have q0 : w1.cell? ⟨w.heap.size, 0, none⟩ = some (.int .i64 (S : Int)) := by rw [hw1]; simp
  have q1 : w1.cell? ⟨w.heap.size, 1, none⟩ = some (.int .i64 0) := by rw [hw1]; simp
  have q2 : w1.cell? ⟨w.heap.size, 2, none⟩ = some (.int .i64 1) := by rw [hw1]; simp
  have q3 : w1.cell? ⟨w.heap.size, 3, none⟩ = some (.slice A n c) := by rw [hw1]; simp
  have HE := Lib.hid (fun (k : Nat) (hk : k ≤ s.size) (w2 : World) (hb : Below w1.heap.size w1 w2) => ends_ok A n c S 0 1 E s k w2 ((h.keep hb0).keep hb) hm.right (fun e he => hm.wf e he) hk hs)
  have HB := Lib.hid hb0
  have GO := Lib.hid (fun (w2 : World) (hb : Below w1.heap.size w1 w2) (j : Nat) (v : Value) (hv : w1.cell? ⟨w.heap.size, j, none⟩ = some v) => (hb.cell (p := ⟨w.heap.size, j, none⟩) hgl).trans hv)
  have HM := Lib.hid hm
  obtain ⟨P, hP⟩ : ∃ P, P = piecesT t s := ⟨_, rfl⟩
  rw [← hP]
  have HP := Lib.hid hP
  clear hP h hb0 hm
  go_enter Try.func62, Try.ntmps62
  go_upto_region 1 with (fail)
  rw [← hw1]
  clear hw1
  go_wp2_with fail
  go_loopw [5, 6] (fun v i wr => ∃ (k f : Nat) (out : List ByteArray), k ≤ s.size ∧ s.size ≤ k + f ∧ i = .int .i64 (k : Int) ∧ out.length ≤ k ∧ out ++ chunksF (toT t s) s f k = P ∧ wr.ownsRow w1.heap.size 9 1 v out.length (strsV out) ∧ Below w1.heap.size w1 wr) (fun _ i _ => s.size - (intOf i).toNat)
  case atStart => exact ⟨0, s.size, [], by omega, by omega, rfl, by simp, HP.out.symm, World.ownsRow_nil _ _ _ _, Below.refl _ _⟩
  case round =>
    obtain ⟨k, f, out, hk, hf, rfl, hol, hout, hown, hbl⟩ := hrel
    have HOUT := Lib.hid hout
    have HOW := Lib.hid hown
    have HBL := Lib.hid hbl
    have r0 := GO.out _ hbl _ _ q0
    have r1 := GO.out _ hbl _ _ q1
    have r2 := GO.out _ hbl _ _ q2
    have r3 := GO.out _ hbl _ _ q3
    clear hout hown hbl
    by_cases hlt : k < s.size
    · have dt : decide ((k : Int) < (s.size : Int)) = true := by simp; omega
      have HEK := Lib.hid (HE.out k hk wr HBL.out)
      have hto1 := toT_lo t s k
      have hto2 := toT_hi t s k hlt
      have hto3 : toT t s k = toL (endsT s t k) k := rfl
      rw [HM.out.ends] at HEK
      obtain ⟨L, hL⟩ : ∃ L, L = endsT s t k := ⟨_, rfl⟩
      rw [← hL] at HEK hto3
      have hch : ∀ f', f = f' + 1 → chunksF (toT t s) s f k = s.extract k (toT t s k) :: chunksF (toT t s) s f' (toT t s k) := fun f' hf' => by rw [hf', chunksF, if_pos hlt]
      obtain ⟨m, hm⟩ : ∃ m, toT t s k = k + m := ⟨toT t s k - k, by omega⟩
      rw [hm] at hto1 hto2 hto3 hch
      have hsl := fun W => T12.slice_piece s k m (by omega) W
      obtain ⟨ex, hex⟩ : ∃ ex, ex = s.extract k (k + m) := ⟨_, rfl⟩
      rw [← hex] at hsl hch
      obtain ⟨ll, hll⟩ : ∃ ll, ll = L.length := ⟨_, rfl⟩
      rw [← hll] at HEK
      have hllb : ll ≤ 1000001 := by rw [hll, hL]; exact Nat.le_trans (outsTo_len _ _ _) (by omega)
      have HLL := Lib.hid hll
      have HT3 := Lib.hid hto3
      have HCH := Lib.hid hch
      have hkm : ((k + m : Nat) : Int) = (k : Int) + (m : Int) := by omega
      clear hL hm hex hll hto3 hch
      have hnx : (out.length + 1) * 16 ≤ 140737488355328 := by omega
      by_cases h0 : ll = 0
      · have d1 : decide ((0 : Int) < (ll : Int)) = false := by simp; omega
        have d1n : decide (0 < ll) = false := by simp; omega
        have hm1 : m = 1 := by
          have := HT3.out
          unfold toL at this
          rw [if_pos (by rw [← HLL.out]; exact h0)] at this
          omega
        have hsl1 : ∀ W, (Instr.slice 9 (.string s) (some (.int .i64 (k : Int))) (some (.int .i64 ((k : Int) + 1))) none).run Try.prog W = .ok (.string ex) W := fun W => by
          have := hsl W
          rw [hm1] at this
          exact this
        have HM1 := Lib.hid hm1
        clear hsl h0 hm1 hkm
        go_wp2_with first
          | (go_at_call 92; refine HEK.out.mono ?_; rintro e w2 ⟨A9, c9, rfl, _, hb2⟩; have HB2 := Lib.hid (HBL.out.trans (hb2.mono HBL.out.size)); have HO2 := Lib.hid (own_keep HOW.out hb2 (Nat.le_refl _)); clear hb2)
          | (at_builtin; refine wpList_app1 w1 _ rfl (.tmp 30) (.tmp 35) 31 rfl w1.heap.size 9 i9 _ 16 Try.underlying31 hi9 hz9 hs9 hb9 rfl _ out.length (strsV out) rfl (HO2.out.alloc _) (HB2.out.alloc HB2.out.size _) (.string ex) _ rfl (by go_simp) rfl hnx (by unfold maxLen; omega) (by have := HB2.out.size; simp; omega) ?_; intro v3 w3 hown3 hb3 hg3)
        have H3 := Lib.hid (And.intro hown3 hb3)
        clear hown3 hb3 hg3
        go_roundw
        case rel =>
          refine ⟨k + 1, f - 1, out ++ [ex], by omega, by omega, by go_num, by rw [List.length_append]; simp; omega, ?_, ?_, H3.out.2⟩
          · rw [List.append_assoc, List.singleton_append]
            have := HCH.out (f - 1) (by omega)
            rw [HM1.out] at this
            rw [← this]
            exact HOUT.out
          · rw [List.length_append, List.length_singleton, strsV_snoc]; exact H3.out.1
        case measure => simp [intOf]; omega
      · have d1 : decide ((0 : Int) < (ll : Int)) = true := by simp; omega
        have d1n : decide (0 < ll) = true := by simp; omega
        obtain ⟨l1, hl1⟩ : ∃ l1, ll = l1 + 1 := ⟨ll - 1, by omega⟩
        have m1 : (ll : Int) - 1 = (l1 : Int) := by omega
        have i1 : (l1 : Int) < (ll : Int) := by omega
        have hl1n : l1 < ll := by omega
        obtain ⟨x, hx⟩ : ∃ x, x = L.getD l1 0 := ⟨_, rfl⟩
        have hmax : max ((k : Int) + 1) x = (k : Int) + (m : Int) := by
          have := HT3.out
          unfold toL at this
          rw [if_neg (by rw [← HLL.out]; exact h0), ← HLL.out, show ll - 1 = l1 by omega, ← hx] at this
          omega
        have hmx := fun (ts : Array TypeId) (ty : TypeId) (W : World) => Lib.run_max_ints (P := Try.prog) W ts ty .i64 .i64 ((k : Int) + 1) x
        rw [hmax] at hmx
        have HX := Lib.hid hx
        clear hmax h0 hl1 hx hkm
        go_wp2_with first
          | (go_at_call 92; refine HEK.out.mono ?_; rintro e w2 ⟨A9, c9, rfl, harr, hb2⟩; have HB2 := Lib.hid (HBL.out.trans (hb2.mono HBL.out.size)); have HO2 := Lib.hid (own_keep HOW.out hb2 (Nat.le_refl _)); obtain ⟨b9, o9, rfl, _, hc9⟩ := harr.one hl1n; unfold NumC at hc9; rw [← HX.out] at hc9; clear hb2 harr)
          | (at_builtin; refine wpList_app1 w1 _ rfl (.tmp 30) (.tmp 35) 31 rfl w1.heap.size 9 i9 _ 16 Try.underlying31 hi9 hz9 hs9 hb9 rfl _ out.length (strsV out) rfl (HO2.out.alloc _) (HB2.out.alloc HB2.out.size _) (.string ex) _ rfl (by go_simp) rfl hnx (by unfold maxLen; omega) (by have := HB2.out.size; simp; omega) ?_; intro v3 w3 hown3 hb3 hg3)
        have H3 := Lib.hid (And.intro hown3 hb3)
        clear hown3 hb3 hg3
        go_roundw
        case rel =>
          refine ⟨k + m, f - 1, out ++ [ex], by omega, by omega, by go_num, by rw [List.length_append]; simp; omega, ?_, ?_, H3.out.2⟩
          · rw [List.append_assoc, List.singleton_append]
            rw [← HCH.out (f - 1) (by omega)]
            exact HOUT.out
          · rw [List.length_append, List.length_singleton, strsV_snoc]; exact H3.out.1
        case measure => simp [intOf]; omega
    · have dt : decide ((k : Int) < (s.size : Int)) = false := by simp; omega
      have hend := HOUT.out
      rw [chunksF_end hlt, List.append_nil] at hend
      have HEND := Lib.hid hend
      clear hend
      go_wp2_with fail
      go_ret
      refine ⟨_, rfl, ?_, HB.out.trans (HBL.out.mono HB.out.size)⟩
      rw [← HEND.out]
      exact own_base HOW.out HB.out.size
end Go.Proofs.Ytfjgfabochiflaa
