/- take: the least number out of the heap. -/
import Derived.Test.YtodcengadecboaaPut
namespace Go.Proofs.Ytodcengadecboaa
open Go.RowKit

/-- but the box and the row nothing has changed -/
structure Far (g0 g : Nat) (w w' : World) : Prop where
  size : w.heap.size ≤ w'.heap.size
  block : ∀ k, k < w.heap.size → k ≠ g0 → k ≠ g → w'.heap[k]? = w.heap[k]?
section
variable {g0 g : Nat} {w w' : World}
theorem Far.refl (g0 g : Nat) (w : World) : Far g0 g w w := ⟨Nat.le_refl _, fun _ _ _ _ => rfl⟩
theorem Far.drew (h : Far g0 g w w') : Far g0 g w w'.drew := ⟨h.size, h.block⟩
theorem Far.drewN (h : Far g0 g w w') (n : Nat) : Far g0 g w (w'.drewN n) := ⟨h.size, h.block⟩
theorem Far.box (h : Far g0 g w w') (j : Nat) (v : Value) : Far g0 g w (w'.setCell ⟨g0, j, none⟩ v) :=
  ⟨by simpa using h.size, fun k hk h1 h2 => (heap_setCell_other w' ⟨g0, j, none⟩ k v (fun e => h1 e)).trans (h.block k hk h1 h2)⟩
theorem Far.row (h : Far g0 g w w') (j : Nat) (v : Value) : Far g0 g w (w'.setCell ⟨g, j, none⟩ v) :=
  ⟨by simpa using h.size, fun k hk h1 h2 => (heap_setCell_other w' ⟨g, j, none⟩ k v (fun e => h2 e)).trans (h.block k hk h1 h2)⟩
end

/-- the least after so many of the two children -/
def L (ys : List Int) (k : Nat) : Nat → Nat
  | 0 => k
  | 1 => least1 ys ys.length k (2 * k + 1)
  | _ => least ys k
theorem L_lt (ys : List Int) (k j : Nat) (hk : k < ys.length) : L ys k j < ys.length := by
  have h1 : least1 ys ys.length k (2 * k + 1) < ys.length := by unfold least1; split <;> omega
  match j with
  | 0 => exact hk
  | 1 => exact h1
  | _ + 2 => exact (least_le ys k hk).1

set_option maxRecDepth 100000 in
set_option maxHeartbeats 8000000 in
theorem take_any (g0 n : Nat) (w0 w : World) (a : Value) (xs : List Int) (hl : xs.length = n) (hn : n ≤ 300) (hh : Heap xs) (h : HB g0 w0 w 28 3 F7 a n (numsV .i64 xs)) (ha : ∃ A c, a = .slice A n c) :
    Calls Try.prog 9 #[.pointer (some ⟨g0, 0, none⟩)] w fun e w' => (n = 0 ∧ e = .returned (.tuple #[.int .i64 0, .bool false]) ∧ w' = w) ∨
      (0 < n ∧ e = .returned (.tuple #[.int .i64 (xs.getD 0 0), .bool true]) ∧ ∃ ys g c, a = .slice (some ⟨g, 0, none⟩) n c ∧ HB g0 w0 w' 28 3 F7 (.slice (some ⟨g, 0, none⟩) (n - 1) c) (n - 1) (numsV .i64 ys) ∧ Far g0 g w w' ∧ Heap ys ∧ ys.length = n - 1 ∧ xs.Perm (xs.getD 0 0 :: ys)) := by
  have H0 := Lib.hid h
  have HH := Lib.hid hh
  have hlt := h.lt
  have q0 := h.c0
  have f0 := h.f 0
  obtain ⟨A, c, rfl⟩ := ha
  clear hh
  by_cases h0 : n = 0
  · subst h0
    clear h
    go_enter Try.func9, Try.ntmps9
    go_wp2_with fail
    go_returns
    exact .inl ⟨trivial, rfl, rfl⟩
  · obtain ⟨g, cap, e⟩ := h.form (by omega)
    simp only [Value.slice.injEq, true_and] at e
    obtain ⟨rfl, rfl⟩ := e
    have c0 := h.cell 0 (by omega)
    have cn := h.cell (n - 1) (by omega)
    have e0 := h.frozen 0
    have nr := h.near
    clear h
    obtain ⟨m, rfl⟩ : ∃ m, n = m + 1 := ⟨n - 1, by omega⟩
    simp only [Nat.add_sub_cancel] at cn ⊢
    obtain ⟨x0, hx0⟩ : ∃ x0, x0 = xs.getD 0 0 := ⟨_, rfl⟩
    obtain ⟨xn, hxn⟩ : ∃ xn, xn = xs.getD m 0 := ⟨_, rfl⟩
    rw [← hx0] at c0 ⊢
    rw [← hxn] at cn
    have HX := Lib.hid (And.intro hx0 hxn)
    clear hx0 hxn
    have b1 : ((m : Int) + 1 == 0) = false := by simp; omega
    have b2 : (0 : Int) ≤ (m : Int) := by omega
    have b3 : (m : Int) < ((m + 1 : Nat) : Int) := by omega
    go_enter Try.func9, Try.ntmps9
    go_wp2_with fail
    go_region
    go_upto_region 8 with (fail)
    have hB2 : HB g0 w0 (((w.setCell ⟨g, 0, none⟩ (.int .i64 xn)).setCell ⟨g0, 0, none⟩ (.slice (some ⟨g, 0, none⟩) m c)).drew) 28 3 F7 (.slice (some ⟨g, 0, none⟩) m c) m (numsV .i64 ((xs.set 0 xn).take m)) := by
      have h1 := H0.out.set 0 xn
      rw [← numsV_take]
      exact (HB.put h1.below h1.box (own_cut h1.own (by omega))).drew
    have hF2 : Far g0 g w (((w.setCell ⟨g, 0, none⟩ (.int .i64 xn)).setCell ⟨g0, 0, none⟩ (.slice (some ⟨g, 0, none⟩) m c)).drew) := (((Far.refl g0 g w).row 0 _).box 0 _).drew
    generalize ((w.setCell ⟨g, 0, none⟩ (.int .i64 xn)).setCell ⟨g0, 0, none⟩ (.slice (some ⟨g, 0, none⟩) m c)).drew = w2 at hB2 hF2 ⊢
    have HF2 := Lib.hid hF2
    clear hF2
    have HB2 := Lib.hid hB2
    have HD := Lib.hid (Down.new HH.out)
    have HP := Lib.hid (take_perm (xs := xs) (by omega))
    rw [hl, Nat.add_sub_cancel, ← HX.out.2] at HD HP
    rw [← HX.out.1] at HP
    clear hB2 q0 f0 hlt c0 cn e0 nr
    go_upto_region 9 with (fail)
    go_loopw [7] (fun i wr => ∃ (k : Nat) (ys : List Int), i = .int .i64 k ∧ ys.length = m ∧ (k < m ∨ k = 0) ∧ HB g0 w0 wr 28 3 F7 (.slice (some ⟨g, 0, none⟩) m c) m (numsV .i64 ys) ∧ Far g0 g w wr ∧ Down ys k ∧ xs.Perm (x0 :: ys)) (fun i _ => m - (intOf i).toNat)
    case atStart => exact ⟨0, _, rfl, by simp; omega, .inr rfl, HB2.out, HF2.out, HD.out, HP.out⟩
    case round =>
      obtain ⟨k, ys, rfl, hyl, hkm, hB, hfar, hdn, hp⟩ := hrel
      have HFAR := Lib.hid hfar
      clear hfar
      have hkb : k ≤ 300 := by omega
      have H := Lib.hid hB
      have HDN := Lib.hid hdn
      have HPP := Lib.hid hp
      obtain ⟨w3, rfl⟩ : ∃ w3 : World, w3 = wr := ⟨_, rfl⟩
      have c0 := hB.c0
      have c1 := hB.c1
      clear hB hdn hp HB2 HD HP
      have ix0 : ∀ w, (Instr.index 34 (.agg #[.int .i64 (2 * (k : Int) + 1), .int .i64 (2 * (k : Int) + 2)]) (.int .i64 0)).run Try.prog w = .ok (.int .i64 (2 * (k : Int) + 1)) w := fun _ => by kernel_rfl
      have ix1 : ∀ w, (Instr.index 34 (.agg #[.int .i64 (2 * (k : Int) + 1), .int .i64 (2 * (k : Int) + 2)]) (.int .i64 1)).run Try.prog w = .ok (.int .i64 (2 * (k : Int) + 2)) w := fun _ => by kernel_rfl
      go_wp2_with fail
      go_loopw [8, 56] (fun l i wr => ∃ (j mq : Nat), j ≤ 2 ∧ i = .int .i64 j ∧ l = .int .i64 (L ys k j) ∧ wr = w3.drewN mq) (fun _ i _ => 2 - (intOf i).toNat)
      case atStart => exact ⟨0, 0, by omega, rfl, rfl, rfl⟩
      case round =>
        obtain ⟨j, mq, hj, rfl, rfl, rfl⟩ := hrel
        rcases (show j = 0 ∨ j = 1 ∨ j = 2 by omega) with rfl | rfl | rfl
        · have HL := Lib.hid (show L ys k (0 + 1) = if 2 * k + 1 < ys.length ∧ ys.getD (2 * k + 1) 0 < ys.getD (L ys k 0) 0 then 2 * k + 1 else L ys k 0 from rfl)
          have t1 : (2 * (k : Int) + 1 : Int).toNat = 2 * k + 1 := by omega
          have n1 : (0 : Int) ≤ 2 * (k : Int) + 1 := by omega
          obtain ⟨l, hlv⟩ : ∃ l, l = L ys k 0 := ⟨_, rfl⟩
          rw [← hlv] at HL ⊢
          have HLV := Lib.hid hlv
          clear hlv
          by_cases hlt : 2 * k + 1 < m
          · have hll : l < m := by rw [HLV.out, ← hyl]; exact L_lt ys k 0 (by omega)
            have d1 : decide ((2 * (k : Int) + 1 : Int) < (m : Int)) = true := by simp; omega
            have n2 : (2 * (k : Int) + 1 : Int) < (m : Int) := by omega
            have n3 : (l : Int) < (m : Int) := by omega
            have ca := H.out.cell (2 * k + 1) hlt
            have cb := H.out.cell l hll
            obtain ⟨p, hp⟩ : ∃ p, p = ys.getD (2 * k + 1) 0 := ⟨_, rfl⟩
            obtain ⟨q, hq⟩ : ∃ q, q = ys.getD l 0 := ⟨_, rfl⟩
            rw [← hp] at ca
            rw [← hq] at cb
            have HPQ := Lib.hid (And.intro hp hq)
            clear hp hq
            have HC := Lib.hid (compare_any p q)
            by_cases hpq : p < q
            · have hc0 : decide (cmp p q < 0) = true := by unfold cmp; simp [hpq]
              have HPL := Lib.hid hpq
              clear hpq
              go_wp2_with fail
              go_quiet ((go_at_call 7; exact quiet_add_same (HC.out _)))
              go_wp2_with fail
              go_roundw
              case rel => exact ⟨0 + 1, _, by omega, by go_num, by rw [HL.out, if_pos ⟨by omega, by rw [← HPQ.out.1, ← HPQ.out.2]; exact HPL.out⟩]; go_num, rfl⟩
              case measure => simp [intOf]
            · have hc0 : decide (cmp p q < 0) = false := by unfold cmp; simp [hpq]; split <;> omega
              have HPL := Lib.hid hpq
              clear hpq
              go_wp2_with fail
              go_quiet ((go_at_call 7; exact quiet_add_same (HC.out _)))
              go_wp2_with fail
              go_roundw
              case rel => exact ⟨0 + 1, _, by omega, by go_num, by rw [HL.out, if_neg (fun h => by have h2 := h.2; rw [← HPQ.out.1, ← HPQ.out.2] at h2; have h3 := HPL.out; omega)], rfl⟩
              case measure => simp [intOf]
          · have d1 : decide ((2 * (k : Int) + 1 : Int) < (m : Int)) = false := by simp; omega
            have d2 : ¬ (2 * (k : Int) + 1 : Int) < (m : Int) := by omega
            go_wp2_with fail
            go_quiet (fail)
            go_wp2_with fail
            go_roundw
            case rel => exact ⟨0 + 1, _, by omega, by go_num, by rw [HL.out, if_neg (fun h => by omega)], rfl⟩
            case measure => simp [intOf]
        · have HL := Lib.hid (show L ys k (1 + 1) = if 2 * k + 2 < ys.length ∧ ys.getD (2 * k + 2) 0 < ys.getD (L ys k 1) 0 then 2 * k + 2 else L ys k 1 from rfl)
          have t1 : (2 * (k : Int) + 2 : Int).toNat = 2 * k + 2 := by omega
          have n1 : (0 : Int) ≤ 2 * (k : Int) + 2 := by omega
          obtain ⟨l, hlv⟩ : ∃ l, l = L ys k 1 := ⟨_, rfl⟩
          rw [← hlv] at HL ⊢
          have HLV := Lib.hid hlv
          clear hlv
          by_cases hlt : 2 * k + 2 < m
          · have hll : l < m := by rw [HLV.out, ← hyl]; exact L_lt ys k 1 (by omega)
            have d1 : decide ((2 * (k : Int) + 2 : Int) < (m : Int)) = true := by simp; omega
            have n2 : (2 * (k : Int) + 2 : Int) < (m : Int) := by omega
            have n3 : (l : Int) < (m : Int) := by omega
            have ca := H.out.cell (2 * k + 2) hlt
            have cb := H.out.cell l hll
            obtain ⟨p, hp⟩ : ∃ p, p = ys.getD (2 * k + 2) 0 := ⟨_, rfl⟩
            obtain ⟨q, hq⟩ : ∃ q, q = ys.getD l 0 := ⟨_, rfl⟩
            rw [← hp] at ca
            rw [← hq] at cb
            have HPQ := Lib.hid (And.intro hp hq)
            clear hp hq
            have HC := Lib.hid (compare_any p q)
            by_cases hpq : p < q
            · have hc0 : decide (cmp p q < 0) = true := by unfold cmp; simp [hpq]
              have HPL := Lib.hid hpq
              clear hpq
              go_wp2_with fail
              go_quiet ((go_at_call 7; exact quiet_add_same (HC.out _)))
              go_wp2_with fail
              go_roundw
              case rel => exact ⟨1 + 1, _, by omega, by go_num, by rw [HL.out, if_pos ⟨by omega, by rw [← HPQ.out.1, ← HPQ.out.2]; exact HPL.out⟩]; go_num, rfl⟩
              case measure => simp [intOf]
            · have hc0 : decide (cmp p q < 0) = false := by unfold cmp; simp [hpq]; split <;> omega
              have HPL := Lib.hid hpq
              clear hpq
              go_wp2_with fail
              go_quiet ((go_at_call 7; exact quiet_add_same (HC.out _)))
              go_wp2_with fail
              go_roundw
              case rel => exact ⟨1 + 1, _, by omega, by go_num, by rw [HL.out, if_neg (fun h => by have h2 := h.2; rw [← HPQ.out.1, ← HPQ.out.2] at h2; have h3 := HPL.out; omega)], rfl⟩
              case measure => simp [intOf]
          · have d1 : decide ((2 * (k : Int) + 2 : Int) < (m : Int)) = false := by simp; omega
            have d2 : ¬ (2 * (k : Int) + 2 : Int) < (m : Int) := by omega
            go_wp2_with fail
            go_quiet (fail)
            go_wp2_with fail
            go_roundw
            case rel => exact ⟨1 + 1, _, by omega, by go_num, by rw [HL.out, if_neg (fun h => by omega)], rfl⟩
            case measure => simp [intOf]
        · obtain ⟨l, hlv⟩ : ∃ l, l = L ys k 2 := ⟨_, rfl⟩
          rw [← hlv]
          have hle : l = least ys k := hlv
          have HLE := Lib.hid hle
          clear hlv hle
          by_cases hlk : l = k
          · have d1 : ((l : Int) == (k : Int)) = true := by simp; omega
            have HLK := Lib.hid hlk
            clear hlk
            go_wp2_with fail
            go_returns
            have hfin := HDN.out.stop (by rw [← HLE.out]; exact HLK.out)
            first
              | exact .inr ⟨by omega, rfl, ys, g, c, rfl, H.out.drewN _, HFAR.out.drewN _, hfin, hyl, HPP.out⟩
              | exact ⟨rfl, ys, g, c, rfl, H.out.drewN _, HFAR.out.drewN _, hfin, hyl, HPP.out⟩
          · have d1 : ((l : Int) == (k : Int)) = false := by simp; omega
            have hkm2 : k < m := by
              rcases hkm with h | h
              · exact h
              · apply Classical.byContradiction
                intro hm
                have h5 := (least_spec ys k).1
                rw [← HLE.out] at h5
                omega
            have hll := least_le ys k (by omega)
            rw [← HLE.out] at hll
            have hl1 : l < m := by omega
            have hl2 : k < l := by omega
            have H3 := Lib.hid (H.out.drewN mq)
            have HF3 := Lib.hid (HFAR.out.drewN mq)
            generalize w3.drewN mq = w4 at H3 HF3 ⊢
            have r0 := H3.out.c0
            have r1 := H3.out.f 0
            have ca := H3.out.cell k hkm2
            have cb := H3.out.cell l hl1
            have fa := H3.out.frozen k
            have fb := H3.out.frozen l
            have nr := H3.out.near
            have nb : ¬ g = g0 := by omega
            have i1 : (k : Int) < (m : Int) := by omega
            have i2 : (l : Int) < (m : Int) := by omega
            obtain ⟨p, hp⟩ : ∃ p, p = ys.getD k 0 := ⟨_, rfl⟩
            obtain ⟨q, hq⟩ : ∃ q, q = ys.getD l 0 := ⟨_, rfl⟩
            rw [← hp] at ca
            rw [← hq] at cb
            have HPQ := Lib.hid (And.intro hp hq)
            clear hp hq c0 c1 hll
            go_wp2_with fail
            go_region
            go_wp2_with fail
            go_roundw
            case rel =>
              refine ⟨l, swap ys k l, by go_num, by rw [length_swap]; exact hyl, .inl hl1, ?_, ((HF3.out.row k _).row l _).drew, ?_, HPP.out.trans ((swap_perm ys k l (by omega) (by omega)).symm.cons _)⟩
              · have h3 := ((H3.out.set k q).set l p).drew
                have e : (ys.set k q).set l p = swap ys k l := by rw [swap, HPQ.out.1, HPQ.out.2]
                rw [e] at h3
                exact h3
              · have h3 := HDN.out.swap (by omega) (by rw [← HLE.out]; exact hlk)
                rw [← HLE.out] at h3
                exact h3
            case measure => simp [intOf]; omega
end Go.Proofs.Ytodcengadecboaa
