/- put: a number more in the heap. -/
import Derived.Test.YtodcengadecboaaSmall
import Derived.BigRegion
import Derived.Deep.Cut
import Derived.Handy
namespace Go.Proofs.Ytodcengadecboaa
open Go.RowKit

abbrev F7 : Value := .func (.func 7) #[] #[]
theorem info3 : (Try.prog.info? 3).map (fun i => (i.zero, i.size, i.bytes)) = some (some (.int .i64 0), 1, 8) := by kernel_rfl
theorem half_nat (k : Nat) (h : 0 < k) : ((k : Int) - 1).tdiv 2 = (((k - 1) / 2 : Nat) : Int) := by
  rw [Int.tdiv_eq_ediv_of_nonneg (by omega)]
  omega

set_option maxRecDepth 100000 in
set_option maxHeartbeats 4000000 in
theorem put_any (g0 n : Nat) (w0 w : World) (a : Value) (xs : List Int) (x : Int) (hl : xs.length = n) (hn : n < 300) (hh : Heap xs) (h : HB g0 w0 w 28 3 F7 a n (numsV .i64 xs)) :
    Calls Try.prog 8 #[.pointer (some ⟨g0, 0, none⟩), .int .i64 x] w fun e w' => e = .returned (.tuple #[]) ∧ ∃ a' ys, HB g0 w0 w' 28 3 F7 a' (n + 1) (numsV .i64 ys) ∧ Heap ys ∧ ys.Perm (xs ++ [x]) := by
  obtain ⟨i3, hi3, hz3, hsz3, hbt3⟩ := info_parts info3
  have H0 := Lib.hid h
  have HH := Lib.hid hh
  have hlt := h.lt
  have q0 := h.c0
  have f0 := h.f 0
  have y1 : (0 : Nat) < 1 := by omega
  have y2 : n + 1 ≤ maxLen := by unfold maxLen; omega
  have y3 : (n + 1) * 8 ≤ 140737488355328 := by omega
  have y4 : ∀ u ∈ [Value.int .i64 x], u.oneCell' = true := by intro u hu; simp at hu; subst hu; rfl
  clear h hh
  go_enter Try.func8, Try.ntmps8
  go_upto_region 1 with (first
    | (at_builtin
       go_loud (refine wpList_append_lies _ rfl _ _ _ rfl (g0 + 1) 3 i3 _ 1 8 Try.underlying22 hi3 hz3 hsz3 hbt3 rfl y1 a n (numsV .i64 xs) rfl (H0.out.own.alloc _) ⟨_, 0, none⟩ 1 1 [.int .i64 x] rfl rfl (one_news (by simp)) y4 y1 y2 y3 (by simp; omega) _ rfl ?_)
       intro g cap w1 hown1 hgrow1 hat1 hlt1
       have hb1 := (hgrow1.block g0 (by simp; omega) H0.out.off).trans ((World.grownBy_alloc w (.cells #[.int .i64 x] 3) none).block g0 hlt (by simp))
       rw [H0.out.box] at hb1
       have q1 : w1.cell? ⟨g0, 0, none⟩ = some a := by rw [cell_of_row w1 g0 0 _ _ _ hb1]; rfl
       have f1 := frozen_of_row w1 g0 0 _ _ hb1))
  have hB2 : HB g0 w0 (w1.setCell ⟨g0, 0, none⟩ (.slice (some ⟨g, 0, none⟩) (n + 1) cap)) 28 3 F7 (.slice (some ⟨g, 0, none⟩) (n + 1) cap) (n + 1) (numsV .i64 (xs ++ [x])) := by
    rw [numsV_snoc]
    exact HB.put ((H0.out.below.alloc (Nat.le_of_lt hlt) _).grown hgrow1 (by simp only [World.alloc, Array.size_push]; omega) (fun k hk => by have := (H0.out.own.lt k hk).1; omega)) hb1 hown1
  generalize w1.setCell ⟨g0, 0, none⟩ (.slice (some ⟨g, 0, none⟩) (n + 1) cap) = w2 at hB2 ⊢
  have HB2 := Lib.hid hB2
  have HU := Lib.hid (Up.new HH.out x)
  rw [hl] at HU
  have r0 := hB2.c0
  have g1 := hB2.near
  clear hB2 hown1 hgrow1 hat1 hlt1 hb1 q0 q1 f0 f1 hlt
  go_upto_region 2 with (fail)
  go_loopw [4] (fun i wr => ∃ (k : Nat) (ys : List Int), i = .int .i64 k ∧ ys.length = n + 1 ∧ HB g0 w0 wr 28 3 F7 (.slice (some ⟨g, 0, none⟩) (n + 1) cap) (n + 1) (numsV .i64 ys) ∧ Up ys k ∧ ys.Perm (xs ++ [x])) (fun i _ => (intOf i).toNat)
  case atStart => exact ⟨n, xs ++ [x], by go_num, by simp [hl], HB2.out, HU.out, List.Perm.refl _⟩
  case round =>
    obtain ⟨k, ys, rfl, hyl, hB, hup, hp⟩ := hrel
    have hkl := hup.lt
    by_cases h0 : 0 < k
    · have H := Lib.hid hB
      have HUP := Lib.hid hup
      have HP := Lib.hid hp
      have c0 := hB.c0
      have c1 := hB.c1
      have f0 := hB.f 0
      have ca := hB.cell k (by omega)
      have cb := hB.cell ((k - 1) / 2) (by omega)
      have fa := hB.frozen k
      have fb := hB.frozen ((k - 1) / 2)
      have nr := hB.near
      have wlt := hB.lt
      clear hB hup hp
      obtain ⟨u, hu⟩ : ∃ u, u = (k - 1) / 2 := ⟨_, rfl⟩
      have hdiv := half_nat k h0
      obtain ⟨p, hpv⟩ : ∃ p, p = ys.getD k 0 := ⟨_, rfl⟩
      obtain ⟨q, hqv⟩ : ∃ q, q = ys.getD ((k - 1) / 2) 0 := ⟨_, rfl⟩
      rw [← hpv] at ca
      rw [← hqv] at cb
      rw [← hu] at cb fb hdiv
      have hul : u < k := by omega
      have HQ := Lib.hid (And.intro hpv (And.intro hqv hu))
      clear hpv hqv hu
      have HC := Lib.hid (compare_any q p)
      by_cases hle : q ≤ p
      · have hc0 : decide (cmp q p ≤ 0) = true := by unfold cmp; split <;> simp; split <;> omega
        go_wp2_with fail
        go_quiet ((go_at_call 7; exact Calls.quiet_of_same (HC.out _)))
        go_wp2_with fail
        go_returns
        exact ⟨rfl, _, ys, H.out.drewN _, HUP.out.stop (.inr (by rw [← HQ.out.1, ← HQ.out.2.1]; exact hle)), HP.out⟩
      · have hc0 : decide (cmp q p ≤ 0) = false := by unfold cmp; simp; omega
        go_wp2_with fail
        go_quiet ((go_at_call 7; exact Calls.quiet_of_same (HC.out _)))
        have H3 := Lib.hid (H.out.drewN nq)
        generalize wr.drewN nq = w3 at H3 ⊢
        have c0 := H3.out.c0
        have f0 := H3.out.f 0
        have ca := H3.out.cell k (by omega)
        have cb := H3.out.cell u (by omega)
        have fa := H3.out.frozen k
        have fb := H3.out.frozen u
        have nr := H3.out.near
        rw [← HQ.out.1] at ca
        rw [HQ.out.2.2, ← HQ.out.2.1, ← HQ.out.2.2] at cb
        have nb : ¬ g = g0 := by omega
        have i1 : (0 : Int) ≤ (k : Int) := by omega
        have i2 : (k : Int) < (n : Int) + 1 := by omega
        have i3 : (0 : Int) ≤ (u : Int) := by omega
        have i4 : (u : Int) < (n : Int) + 1 := by omega
        have i5 : (k : Int) ≤ (n : Int) := by omega
        have i6 : (u : Int) ≤ (n : Int) := by omega
        have i7 : u < n + 1 := by omega
        have i8 : k < n + 1 := by omega
        go_wp2_with fail
        go_region
        go_wp2_with fail
        go_roundw
        case rel =>
          refine ⟨u, swap ys u k, by go_num, by rw [length_swap]; exact hyl, ?_, ?_, (swap_perm ys u k (by omega) (by omega)).trans HP.out⟩
          · have h3 := (H3.out.set u p).set k q
            have e : (ys.set u p).set k q = swap ys u k := by rw [swap, ← HQ.out.1, HQ.out.2.2, ← HQ.out.2.1]
            rw [e] at h3
            exact h3.drew
          · have h3 := HUP.out.swap h0 (by rw [← HQ.out.1, ← HQ.out.2.1]; omega)
            rw [← HQ.out.2.2] at h3
            exact h3
        case measure => simp [intOf]; omega
    · obtain rfl : k = 0 := by omega
      go_wp2_with fail
      go_returns
      exact ⟨rfl, _, ys, hB, hup.stop (.inl rfl), hp⟩
end Go.Proofs.Ytodcengadecboaa
