/- The reference's Fix. -/
import Derived.Test.YtfjgfabochiflaaR01c
namespace Go.Proofs.Ytfjgfabochiflaa
open Go.RowKit

theorem decode_next (s : ByteArray) (k0 : Nat) (h : k0 < s.size) : nextC (gS s) s.size k0 = (((Utf8.decode s k0).1 : Int), (Utf8.decode s k0).2) := next_decode s k0 h
theorem next_le {g : Nat → Nat} {N k0 : Nat} : (nextC g N k0).2 ≤ 4 := by
  unfold nextC
  split
  · simp
  · split
    · simp
    · split
      · simp
      · split <;> simp
theorem putS_rune {c : Int} (h : isC c = true) : putS c = ⟨(Lib.encodeRune c).toArray⟩ := by
  unfold putS putZ
  rw [if_pos h]
  rfl
theorem strCells_list (l : List UInt8) : Lib.strCells ⟨l.toArray⟩ = Lib.byteCells l := by
  simp [Lib.strCells, Lib.byteCells]

set_option maxRecDepth 100000 in
set_option maxHeartbeats 8000000 in
theorem rfix_any (s : ByteArray) (w : World) (hs : s.size ≤ 35184372088) :
    Calls Try.prog 15 #[.string s] w fun e w' => e = .returned (.string ⟨(fixT s).toArray⟩) ∧ Below w.heap.size w w' := by
  obtain ⟨i0, hi, hz0, hz1, hz2⟩ := info_parts T12.info5
  have HNX := Lib.hid (fun (k0 : Nat) (W : World) (h : k0 < s.size) => next_any s k0 W h (by omega))
  go_enter Try.func15, Try.ntmps15
  go_wp2_with fail
  have hb0 : Below w.heap.size w (w.alloc (.cells #[] 5)) := (Below.refl _ _).alloc (Nat.le_refl _) _
  have hown0 := World.ownsRow_made w #[] 0 (base := w.heap.size) (size := 1) (e := 5) (Nat.le_refl _) (by unfold maxLen; omega) (by simp)
  have H0 := Lib.hid (And.intro hb0 hown0)
  clear hb0 hown0
  go_loopw [3, 4] (fun v i wr => ∃ (k fuel : Nat) (acc : List UInt8), k ≤ s.size + 3 ∧ i = .int .i64 (k : Int) ∧ wr.ownsRow w.heap.size 5 1 v acc.length (Lib.byteCells acc) ∧ Below w.heap.size w wr ∧ acc ++ fixFrom s fuel k = fixT s ∧ s.size ≤ k + fuel ∧ acc.length ≤ 4 * k) (fun _ i _ => s.size - (intOf i).toNat)
  case atStart => exact ⟨0, s.size, [], by omega, rfl, H0.out.2, H0.out.1, rfl, by omega, by simp⟩
  case round =>
    obtain ⟨k, fuel, acc, hk, rfl, hown, hbw, hacc, hfu, hal⟩ := hrel
    have HO := Lib.hid hown
    have HB := Lib.hid hbw
    have HA := Lib.hid hacc
    clear hown hbw hacc
    by_cases hlt : k < s.size
    · have dt : decide ((k : Int) < (s.size : Int)) = true := by simp; omega
      have hnx := HNX.out k wr hlt
      have hdn := decode_next s k hlt
      have hisc : isC ((Utf8.decode s k).1 : Int) = true := by
        have := next_is (g := gS s) (N := s.size) (k0 := k)
        rw [hdn] at this
        exact this
      have hw4 := next_le (g := gS s) (N := s.size) (k0 := k)
      rw [hdn] at hw4
      have hps := putS_rune hisc
      have hwd := width_pos s k hlt
      have hd1 := decode_le s k
      have hfix : ∀ f, fuel = f + 1 → fixFrom s fuel k = Lib.encodeRune (Utf8.decode s k).1 ++ fixFrom s f (k + (Utf8.decode s k).2) := fun f hf => by
        rw [hf, fixFrom, if_pos hlt]
      have hrl := Lib.runeCells_le ((Utf8.decode s k).1 : Int)
      rw [Lib.runeCells_length] at hrl
      rw [hdn] at hnx
      obtain ⟨nb, hnb⟩ : ∃ nb, nb = nextB s k := ⟨_, rfl⟩
      rw [← hnb] at hnx
      obtain ⟨d, hd⟩ : ∃ d, d = Utf8.decode s k := ⟨_, rfl⟩
      rw [← hd] at hnx hps hwd hd1 hfix hrl hw4
      obtain ⟨c, n⟩ := d
      simp only at hnx hps hwd hd1 hfix hrl hw4
      have HPT := Lib.hid (put_any (c : Int))
      rw [hps] at HPT
      obtain ⟨l, hl⟩ : ∃ l, l = Lib.encodeRune (c : Int) := ⟨_, rfl⟩
      rw [← hl] at HPT hfix hrl
      obtain ⟨bs, hbs⟩ : ∃ bs : ByteArray, bs = ⟨l.toArray⟩ := ⟨_, rfl⟩
      rw [← hbs] at HPT
      have hbz : bs.size = l.length := by rw [hbs]; simp [ByteArray.size]
      have hcells : Lib.strCells bs = Lib.byteCells l := by rw [hbs]; exact strCells_list l
      have HX := Lib.hid hnx
      have HF := Lib.hid hfix
      have HCE := Lib.hid hcells
      have HBZ := Lib.hid hbz
      clear hnx hdn hisc hps hfix hnb hd hl hbs hcells hbz
      have hn2 : acc.length + bs.size ≤ 140737488355328 := by have := HBZ.out; omega
      go_wp2_with first
        | (go_at_call 42; refine HX.out.mono ?_; rintro e w2 ⟨rfl, hb2⟩; have HB2 := Lib.hid hb2; clear hb2)
        | (go_at_call 43; refine (HPT.out _).mono ?_; rintro e w3 ⟨rfl, hb3⟩; have hb4 := HB2.out.trans (hb3.mono HB2.out.size); have HO3 := Lib.hid (T12.own_below HO.out hb4); have HB3 := Lib.hid (HB.out.trans (hb4.mono HB.out.size)); have hs3 := HB3.out.size; clear hb3 hb4)
        | (at_builtin; refine Lib.wpList_append_own_string _ rfl _ _ 65 9 rfl w.heap.size 5 i0 Try.underlying65 Try.underlying9 hi hz0 hz1 hz2 _ _ _ rfl HO3.out bs rfl (by unfold maxLen; omega) hn2 hs3 ?_; intro v' w6 hown' hgrow _)
      have HOW := Lib.hid hown'
      have HB6 := Lib.hid (HB3.out.grown hgrow hs3 (fun j hj => (HO3.out.lt j hj).1))
      clear hown' hgrow
      go_roundw
      case rel =>
        refine ⟨k + n, fuel - 1, acc ++ l, by omega, by go_num, ?_, HB6.out, ?_, by omega, ?_⟩
        · have h1 := HOW.out
          rw [HCE.out, T12.byteCells_append, HBZ.out] at h1
          rw [List.length_append]
          exact h1
        · rw [← HA.out, HF.out (fuel - 1) (by omega), List.append_assoc]
        · rw [List.length_append]; omega
      case measure => simp [intOf]; omega
    · have dt : decide ((k : Int) < (s.size : Int)) = false := by simp; omega
      have hend := HA.out
      rw [fixFrom_end s fuel k hlt, List.append_nil] at hend
      have hconv := T12.conv_own HO.out
      rw [hend] at hconv
      go_wp2_with fail
      go_returns
      exact ⟨by first | rfl | simp, HB.out⟩
end Go.Proofs.Ytfjgfabochiflaa
