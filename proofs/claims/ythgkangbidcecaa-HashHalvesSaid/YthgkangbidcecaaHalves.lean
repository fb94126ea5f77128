/- HashHalves returns true for all steps and any key. -/
import Derived.Test.YthgkangbidcecaaTwo
import Derived.Test.YthgkangbidcecaaHPlain
import Derived.Test.YthgkangbidcecaaIn
import Derived.Deep.Cut
import Derived.Deep.CutRange
import Derived.Deep.CutBlock
import Derived.Deep.DrawnRows
namespace Go.Proofs.Ythgkangbidcecaa
open Go.RowKit

attribute [local go_sem ↓] Go.wp_at_zero Go.wp_at_succ

def numsV (q : IntKind) (l : List Int) : List Value := l.map (Value.int q)
theorem info26 : (Try.prog.info? 26).map (fun i => (i.zero, i.size, i.bytes)) = some (some (.int .u64 0), 1, 8) := by kernel_rfl
theorem numsV_snoc (q : IntKind) (l : List Int) (t : Int) : numsV q (l ++ [t]) = numsV q l ++ [.int q t] := by simp [numsV]

theorem own_num {w : World} {base c n : Nat} {e : TypeId} {q : IntKind} {A : Option Addr} {xs : List Int} (h : w.ownsRow base e 1 (.slice A n c) n (numsV q xs)) : Arr w w.heap.size 1 A n (NumC q xs) := fun hn => by
  have hl : xs.length = n := by have := h.1; simpa [numsV] using this
  obtain ⟨b, off, rfl, hlt, hc⟩ := (Arr.of_own h) hn
  refine ⟨b, off, rfl, hlt, fun k j hk hj => ?_⟩
  rw [hc k j hk hj]
  simp [numsV, NumC, hl, hk]
theorem HX.boxed {w0 w : World} {t e : TypeId} {x0 x1 x2 a b : Value} {na nb : Nat} {la bs : List Value} (h : HX w0.heap.size w0 w t e x0 x1 x2 a na la b nb bs) : Boxed w0 x0 x1 x2 w := ⟨h.below, h.lt, h.c0, h.c1, h.c2⟩
theorem HX.hash {w0 w : World} {t e : TypeId} {x0 x1 x2 : Value} {A1 A2 : Option Addr} {n c1 c2 : Nat} {K V : List Int} (h : HX w0.heap.size w0 w t e x0 x1 x2 (.slice A1 n c1) n (numsV .u64 K) (.slice A2 n c2) n (numsV .u64 V)) (hn : n ≤ 1000) : HashIn w none A1 A2 0 n n [] K V :=
  ⟨rfl, by have := h.ownA.1; simpa [numsV] using this, by have := h.ownB.1; simpa [numsV] using this, by omega, by omega, by omega, fun i => by simp, fun h => absurd h (by omega), own_num h.ownA, own_num h.ownB⟩
theorem any_step (K : List Int) (key : Int) (k : Nat) (hk : k < K.length) : (K.take (k + 1)).any (· == key) = ((K.take k).any (· == key) || K.getD k 0 == key) := by
  rw [List.take_add_one, List.any_append]
  simp [hk]

set_option maxRecDepth 100000 in
set_option maxHeartbeats 8000000 in
theorem law_halves (A0 : Option Addr) (n0 c0 : Nat) (S : List Int) (key : Int) (w : World) (hS : S.length = n0) (hn0 : n0 ≤ 140737488355328) (hc0 : n0 ≤ c0) (hu : Under 65536 S) (h0 : Arr w w.heap.size 1 A0 n0 (NumC .u16 S)) :
    Calls Try.prog 5 #[.slice A0 n0 c0, .int .u64 key] w fun e w' => e = .returned (.bool true) ∧ Below w.heap.size w w' := by
  obtain ⟨i26, hi26, hz26, hsz26, hbt26⟩ := info_parts info26
  have H0 := Lib.hid h0
  have HU := Lib.hid hu
  clear h0 hu
  go_enter Try.func5, Try.ntmps5
  go_upto_if 18 with (fail)
  go_cut [0] from 16 (fun v wx => ∃ n c, v = .slice A0 n c ∧ n ≤ n0 ∧ n ≤ 1000 ∧ wx = w)
  case first =>
    by_cases h : 1000 < n0
    · have hd : decide (1000 ≤ c0) = true := by simp; omega
      go_wp2_with fail
      go_meet
      exact ⟨1000, _, rfl, by omega, by omega, rfl⟩
    · go_wp2_with fail
      go_meet
      exact ⟨n0, c0, rfl, by omega, by omega, rfl⟩
  case rest =>
    obtain ⟨n, c, rfl, hn, hn1, rfl⟩ := hcut
    obtain ⟨w, rfl⟩ : ∃ w : World, w = wc := ⟨_, rfl⟩
    have hx0 : HX w.heap.size w (w.alloc (.cells #[.slice none 0 0, .slice none 0 0, .slice none 0 0] 25)) 25 26 (.slice none 0 0) (.slice none 0 0) (.slice none 0 0) (.slice none 0 0) 0 [] (.slice none 0 0) 0 [] :=
      ⟨(Below.refl _ _).alloc (Nat.le_refl _) _, heap_alloc_new w _, World.ownsRow_nil _ _ _ _, World.ownsRow_nil _ _ _ _, fun g h => by cases h⟩
    have HX0 := Lib.hid hx0
    clear hx0
    go_wp2_with fail
    go_loopw [6, 24] (fun x i wr => ∃ (k : Nat) (vK vV : Value), k ≤ n ∧ i = .int .i64 k ∧ x = .int .u64 (sumTo S k) ∧ (∃ A c, vK = .slice A k c) ∧ (∃ A c, vV = .slice A k c) ∧ HX w.heap.size w wr 25 26 (.slice none 0 0) vK vV vK k (numsV .u64 (keysTo S k)) vV k (numsV .u64 (valsTo k))) (fun _ i _ => n - (intOf i).toNat)
    case atStart => exact ⟨0, .slice none 0 0, .slice none 0 0, by omega, rfl, rfl, ⟨_, _, rfl⟩, ⟨_, _, rfl⟩, HX0.out⟩
    case round =>
      obtain ⟨k, vK, vV, hk, rfl, rfl, hfK, hfV, hx⟩ := hrel
      have HFK := Lib.hid hfK
      have HFV := Lib.hid hfV
      clear hfK hfV
      have hsb := sumTo_bd HU.out k
      have HX1 := Lib.hid hx
      have hlt0 := hx.lt
      have q0 := hx.c0
      have q1 := hx.c1
      have q2 := hx.c2
      obtain ⟨sk, hsk⟩ : ∃ sk, sk = sumTo S k := ⟨_, rfl⟩
      rw [← hsk] at hsb ⊢
      have HSK := Lib.hid hsk
      clear hsk hx
      by_cases hlt : k < n
      · obtain ⟨b, o, rfl, hbl, hc⟩ := (H0.out.below HX1.out.below).one (k := k) (by omega)
        unfold NumC at hc
        obtain ⟨x, hx⟩ : ∃ x, x = S.getD k 0 := ⟨_, rfl⟩
        have hxb := HU.out k
        rw [← hx] at hc hxb
        have HXX := Lib.hid hx
        clear hx
        have z1 : IntKind.u64.wrap x = x := IntWalk.u64_in _ (by omega)
        have z2 : IntKind.u64.wrap (x + 1) = x + 1 := IntWalk.u64_in _ (by omega)
        have z3 : IntKind.u64.wrap (sk + (x + 1)) = sk + (x + 1) := IntWalk.u64_in _ (by omega)
        have z4 : IntKind.u64.wrap (k : Int) = (k : Int) := IntWalk.u64_in _ (by omega)
        have z5 : IntKind.u64.wrap ((k : Int) + 7) = (k : Int) + 7 := IntWalk.u64_in _ (by omega)
        go_upto_block 1 with (fail)
        go_cut [6, 7, 8] from 26 to 47 (fun v i2 x2 wx => v = .int .u64 (sk + (x + 1)) ∧ i2 = .int .i64 k ∧ x2 = .int .u16 x ∧ ∃ g2 cap2 g3 cap3 : Nat, HX w.heap.size w wx 25 26 (.slice none 0 0) (.slice (some ⟨g2, 0, none⟩) (k + 1) cap2) (.slice (some ⟨g3, 0, none⟩) (k + 1) cap3) (.slice (some ⟨g2, 0, none⟩) (k + 1) cap2) (k + 1) (numsV .u64 (keysTo S k) ++ [.int .u64 (sk + (x + 1))]) (.slice (some ⟨g3, 0, none⟩) (k + 1) cap3) (k + 1) (numsV .u64 (valsTo k) ++ [.int .u64 ((k : Int) + 7)]))
        case rest =>
          obtain ⟨rfl, rfl, rfl, g2, cap2, g3, cap3, hx3⟩ := hcut
          go_wp2_with fail
          go_roundw
          case rel =>
            have hs1 : sumTo S (k + 1) = sk + (x + 1) := by rw [sumTo, ← HXX.out, ← HSK.out]
            refine ⟨k + 1, .slice (some ⟨g2, 0, none⟩) (k + 1) cap2, .slice (some ⟨g3, 0, none⟩) (k + 1) cap3, by omega, by go_num, by rw [hs1], ⟨_, _, rfl⟩, ⟨_, _, rfl⟩, ?_⟩
            rw [keysTo_succ, valsTo_succ, numsV_snoc, numsV_snoc, hs1]
            exact hx3
          case measure => simp [intOf]; omega
        case first =>
          rename_i hJ hK
          go_wp2_with fail
          have y1 : (0 : Nat) < 1 := by omega
          have y2 : k + 1 ≤ maxLen := by unfold maxLen; omega
          have y3 : (k + 1) * 8 ≤ 140737488355328 := by omega
          have y4 : ∀ u ∈ [Value.int .u64 (sk + (x + 1))], u.oneCell' = true := by intro u hu; simp at hu; subst hu; rfl
          have y5 : ∀ u ∈ [Value.int .u64 ((k : Int) + 7)], u.oneCell' = true := by intro u hu; simp at hu; subst hu; rfl
          go_region_law (first
            | (refine step_append_lies _ rfl (.tmp 35) (.tmp 37) 23 rfl (w.heap.size + 1) 26 i26 _ 1 8 Try.underlying23 hi26 hz26 hsz26 hbt26 rfl y1 vK k (numsV .u64 (keysTo S k)) (by rfl) ?_ ⟨_, 0, none⟩ 1 1 [.int .u64 (sk + (x + 1))] (by rfl) rfl (one_news ?_) y4 y1 y2 y3 ?_ _ rfl ?_
               · repeat first | exact HX1.out.ownA | refine World.ownsRow.drew ?_ | refine World.ownsRow.alloc ?_ _
               · first | (simp; done)
               · simp <;> omega
               intro g2 cap2 w2 hown2 hgrow2 hat2 hlt2
               have hx2 : HX w.heap.size w w2 25 26 (.slice none 0 0) vK vV (.slice (some ⟨g2, 0, none⟩) (k + 1) cap2) (k + 1) (numsV .u64 (keysTo S k) ++ [.int .u64 (sk + (x + 1))]) vV k (numsV .u64 (valsTo k)) := HX.app1 (a := vK) (na := k) (la := numsV .u64 (keysTo S k)) (g := g2) (by repeat first | exact HX1.out | refine HX.drew ?_ | refine HX.alloc ?_ _) hgrow2 hown2 rfl hat2 rfl
               have q1 := hx2.c1
               have q2 := hx2.c2
               have f1 := hx2.f 1
               have f2 := hx2.f 2
               have l2 := hx2.lt
               have m1 := World.new_ne w2 _ q1
               have m2 := World.new_ne w2 _ q2)
            | (refine step_append_lies _ rfl (.tmp 40) (.tmp 44) 23 rfl (w.heap.size + 1) 26 i26 _ 1 8 Try.underlying23 hi26 hz26 hsz26 hbt26 rfl y1 vV k (numsV .u64 (valsTo k)) (by rfl) ?_ ⟨_, 0, none⟩ 1 1 [.int .u64 ((k : Int) + 7)] (by rfl) rfl (one_news ?_) y5 y1 y2 y3 ?_ _ rfl ?_
               · repeat first | exact hx2.ownB | refine World.ownsRow.drew ?_ | refine World.ownsRow.alloc ?_ _
               · first | (simp; done) | (rw [hgrow2.cell_far _ (by simp <;> omega) (far_new HX1.out.ownA (by simp <;> omega))]; simp; done)
               · have := hx2.lt
                 simp <;> omega
               intro g3 cap3 w3 hown3 hgrow3 hat3 hlt3
               have hx3 : HX w.heap.size w w3 25 26 (.slice none 0 0) vK vV (.slice (some ⟨g2, 0, none⟩) (k + 1) cap2) (k + 1) (numsV .u64 (keysTo S k) ++ [.int .u64 (sk + (x + 1))]) (.slice (some ⟨g3, 0, none⟩) (k + 1) cap3) (k + 1) (numsV .u64 (valsTo k) ++ [.int .u64 ((k : Int) + 7)]) := HX.app2 (b := vV) (nb := k) (bs := numsV .u64 (valsTo k)) (g := g3) (by repeat first | exact hx2 | refine HX.drew ?_ | refine HX.alloc ?_ _) hgrow3 hown3 rfl hat3 rfl
               have q1 := hx3.c1
               have q2 := hx3.c2
               have f1 := hx3.f 1
               have f2 := hx3.f 2
               have l3 := hx3.lt))
          all_goals
            refine hK _ _ (Met.intro (hJ _ _ ?_))
            repeat apply Exists.intro
            exact ⟨⟨rfl, rfl, rfl, g2, cap2, g3, cap3, by first | exact HX.store2 (HX.store1 hx3 _) _ | exact HX.store1 (HX.store2 hx3 _) _⟩, rfl⟩
      · obtain rfl : k = n := by omega
        obtain ⟨AK, cK, rfl⟩ := HFK.out
        obtain ⟨AV, cV, rfl⟩ := HFV.out
        have hB0 := HX1.out.boxed
        have HI0 := Lib.hid (HX1.out.hash hn1)
        have HK := Lib.hid (keysTo_rising HU.out k)
        obtain ⟨K, hK⟩ : ∃ K, K = keysTo S k := ⟨_, rfl⟩
        obtain ⟨V, hV⟩ : ∃ V, V = valsTo k := ⟨_, rfl⟩
        rw [← hK] at HI0 HK
        rw [← hV] at HI0
        have hKl : K.length = k := by rw [hK, length_keysTo]
        have hVl : V.length = k := by rw [hV, length_valsTo]
        have HVg := Lib.hid (fun i (hi : i < k) => (by rw [hV]; exact valsTo_get k i hi : V.getD i 0 = (i : Int) + 7))
        clear hK hV HX1 HSK
        go_wp2_with fail
        refine (HI0.out.right 0 cK cV).mono ?_
        rw [right_rising HK.out (by omega) (by omega)]
        rintro e w1 ⟨rfl, hb1⟩
        have hB1 := hB0.keep hb1
        have HI1 := Lib.hid (HI0.out.keep hb1)
        have r0 := hB1.q0; have r1 := hB1.q1; have r2 := hB1.q2
        clear HI0 q0 q1 q2
        go_wp2_with fail
        go_loopw [9, 55] (fun b i wr => ∃ j : Nat, j ≤ k ∧ i = .int .i64 j ∧ b = .bool ((K.take j).any (· == key)) ∧ Below w1.heap.size w1 wr) (fun _ i _ => k - (intOf i).toNat)
        case atStart => exact ⟨0, by omega, rfl, by simp, Below.refl _ _⟩
        case round =>
          obtain ⟨j, hj, rfl, rfl, hb⟩ := hrel
          have hB2 := hB1.keep hb
          have HI2 := Lib.hid (HI1.out.keep hb)
          have s0 := hB2.q0; have s1 := hB2.q1; have s2 := hB2.q2
          have hB2l := hB2.lt
          obtain ⟨bq, hbq⟩ : ∃ bq, bq = (K.take j).any (· == key) := ⟨_, rfl⟩
          rw [← hbq]
          have HBQ := Lib.hid hbq
          clear hbq
          obtain ⟨w2, rfl⟩ : ∃ w2 : World, w2 = wr := ⟨_, rfl⟩
          by_cases hlt : j < k
          · obtain ⟨b, o, rfl, hbl, hc⟩ := HI2.out.h1.one hlt
            unfold NumC at hc
            have hg := get_key (mix := mix) HK.out (by omega : V.length = K.length) j (by omega)
            rw [HVg.out j hlt] at hg
            have hst := any_step K key j (by omega)
            obtain ⟨x, hx⟩ : ∃ x, x = K.getD j 0 := ⟨_, rfl⟩
            rw [← hx] at hc hg hst
            have HG := Lib.hid hg
            have HST := Lib.hid hst
            clear hx hg hst
            have z4 : IntKind.u64.wrap (j : Int) = (j : Int) := IntWalk.u64_in _ (by omega)
            have z5 : IntKind.u64.wrap ((j : Int) + 7) = (j : Int) + 7 := IntWalk.u64_in _ (by omega)
            go_wp2_with fail
            refine (HI2.out.get 0 cK cV x).mono ?_
            rw [HG.out]
            rintro e w3 ⟨rfl, hb3⟩
            have hB3 := hB2.keep hb3
            have HB3 := Lib.hid (hb.trans (hb3.mono hb.size))
            have t0 := hB3.q0; have t1 := hB3.q1; have t2 := hB3.q2
            clear HI2 s0 s1 s2
            have ne7 : ((j : Int) + 7 != (j : Int) + 7) = false := by simp
            cases bq with
            | true =>
              go_wp2_with fail
              go_roundw
              case rel => exact ⟨j + 1, by omega, by go_num, by rw [HST.out, ← HBQ.out]; simp, HB3.out⟩
              case measure => simp [intOf]; omega
            | false =>
              by_cases hxk : x = key
              · have hbe : (x == key) = true := by simpa using hxk
                have HBE := Lib.hid hbe
                clear hxk
                go_wp2_with fail
                go_roundw
                case rel => exact ⟨j + 1, by omega, by go_num, by rw [HST.out, ← HBQ.out, HBE.out]; simp, HB3.out⟩
                case measure => simp [intOf]; omega
              · have hbe : (x == key) = false := by simpa using hxk
                have HBE := Lib.hid hbe
                clear hxk
                go_wp2_with fail
                go_roundw
                case rel => exact ⟨j + 1, by omega, by go_num, by rw [HST.out, ← HBQ.out, HBE.out]; simp, HB3.out⟩
                case measure => simp [intOf]; omega
          · obtain rfl : j = k := by omega
            go_wp2_with fail
            refine (HI2.out.get 0 cK cV key).mono ?_
            have hin := get_in (mix := mix) HK.out (by omega : V.length = K.length) key
            rw [hin, show (K.any (· == key)) = bq by rw [HBQ.out, List.take_of_length_le (by omega)]]
            rintro e w3 ⟨rfl, hb3⟩
            have HB3 := Lib.hid (hB2.keep hb3)
            have hbb : (bq == bq) = true := by simp
            go_wp2_with fail
            go_ret
            exact ⟨by first | rfl | simp, HB3.out.below⟩
end Go.Proofs.Ythgkangbidcecaa
