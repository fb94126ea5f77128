/- HXSmall, HXRA of this seat, in one text. -/
import Derived.Test.YtfjgfabochiflaaHPlainTc
import Derived.Test.YtfjgfabochiflaaHMTTc
import Derived.Test.YtfjgfabochiflaaHEngTc
import Derived.Test.YtfjgfabochiflaaHSmTc
import Derived.OwnWalk
import Derived.Deep.RegionHeld3
/- Small functions over merges and ids: the contracts. -/
namespace Go.Proofs.Ytfjgfabochiflaa.H14.R13
open Go.RowKit


theorem rank_any (A : Option Addr) (n c : Nat) (l : List (Int × Int)) (a b : Int) (w : World) (hl : l.length = n) (hn : n ≤ 140737488355328) (h1 : Arr w w.heap.size 2 A n (PairC l)) :
    Calls Try.prog 118 #[.slice A n c, .int .i64 a, .int .i64 b] w fun e w' => e = .returned (.int .i64 (rankI l a b)) ∧ Below w.heap.size w w' := by
  have H1 := Lib.hid h1
  clear h1
  go_enter Try.func118, Try.ntmps118
  go_wp2
  go_loopw [11] (fun i wr => ∃ k : Nat, k ≤ n ∧ i = .int .i64 k ∧ (∀ j, j < k → l.getD j (0, 0) ≠ (a, b)) ∧ Below w.heap.size w wr) (fun i _ => n - (intOf i).toNat)
  case atStart => exact ⟨0, Nat.zero_le _, rfl, fun j hj => absurd hj (by omega), Below.refl _ _⟩
  case round =>
    obtain ⟨k, hk, rfl, hno, hb⟩ := hrel
    have HN := Lib.hid hno
    clear hno
    by_cases hlt : k < n
    · obtain ⟨b1, o1, rfl, _, hc0, hc1⟩ := (H1.out.below hb).two hlt
      simp only [PairC, reduceIte, Nat.succ_ne_zero] at hc0 hc1
      obtain ⟨x, hx⟩ : ∃ x, x = (l.getD k (0, 0)).1 := ⟨_, rfl⟩
      obtain ⟨y, hy⟩ : ∃ y, y = (l.getD k (0, 0)).2 := ⟨_, rfl⟩
      rw [← hx] at hc0
      rw [← hy] at hc1
      have HX := Lib.hid hx
      have HY := Lib.hid hy
      clear hx hy
      by_cases hxa : x = a
      · have hbe : (x == a) = true := by simpa using hxa
        have HXA := Lib.hid hxa
        clear hxa
        by_cases hyb : y = b
        · have hbe2 : (y == b) = true := by simpa using hyb
          have HYB := Lib.hid hyb
          clear hyb
          go_wp2
          go_ret
          refine ⟨ret_int ?_, hb.alloc hb.size _⟩
          have hr : rank l a b = some k := rankTo_some.2 ⟨by omega, Prod.ext (HX.out.symm.trans HXA.out) (HY.out.symm.trans HYB.out), HN.out⟩
          unfold rankI
          rw [hr]
        · have hbe2 : (y == b) = false := by simpa using hyb
          have HYB := Lib.hid hyb
          clear hyb
          go_wp2
          go_roundw
          case rel => exact ⟨k + 1, by omega, by go_num, fun j hj => by
                        by_cases h : j < k
                        · exact HN.out j h
                        · obtain rfl : j = k := by omega
                          intro e; exact HYB.out (by rw [HY.out, e]), hb.alloc hb.size _⟩
          case measure => simp [intOf]; omega
      · have hbe : (x == a) = false := by simpa using hxa
        have HXA := Lib.hid hxa
        clear hxa
        go_wp2
        go_roundw
        case rel => exact ⟨k + 1, by omega, by go_num, fun j hj => by
                      by_cases h : j < k
                      · exact HN.out j h
                      · obtain rfl : j = k := by omega
                        intro e; exact HXA.out (by rw [HX.out, e]), hb.alloc hb.size _⟩
        case measure => simp [intOf]; omega
    · go_wp2
      go_ret
      refine ⟨ret_int ?_, hb⟩
      have hr : rank l a b = none := rankTo_none.2 fun j hj => HN.out j (by omega)
      unfold rankI
      rw [hr]

end Go.Proofs.Ytfjgfabochiflaa.H14.R13
/- The reference's Apply: the ids, merged. -/
namespace Go.Proofs.Ytfjgfabochiflaa.H14.R13
open Go.RowKit

def intsV (l : List Int) : List Value := l.map (Value.int .i64)
theorem info3 : (Try.prog.info? 3).map (fun i => (i.zero, i.size, i.bytes)) = some (some (.int .i64 0), 1, 8) := by kernel_rfl
theorem intsV_get (out : List Int) (i : Nat) (h : i < out.length) : (intsV out)[i]? = some (.int .i64 (out.getD i 0)) := by simp [intsV, h]
theorem intsV_snoc (l : List Int) (t : Int) : intsV (l ++ [t]) = intsV l ++ [.int .i64 t] := by simp [intsV]
theorem getD_take (l : List Int) (k : Nat) (h : k < l.length) : l.take (k + 1) = l.take k ++ [l.getD k 0] := by
  rw [List.take_succ_eq_append_getElem h]; simp [h]

set_option maxRecDepth 100000 in
set_option maxHeartbeats 4000000 in
theorem rapply_any (A1 A2 : Option Addr) (n1 n2 c1 c2 : Nat) (l : List (Int × Int)) (ids : List Int) (w : World) (hl : l.length = n1) (hi : ids.length = n2) (hn1 : n1 ≤ 140737488355328) (hn2 : n2 ≤ 1099511627776)
    (h1 : Arr w w.heap.size 2 A1 n1 (PairC l)) (h2 : Arr w w.heap.size 1 A2 n2 (IntC ids)) :
    Calls Try.prog 85 #[.slice A1 n1 c1, .slice A2 n2 c2] w fun e w' => ∃ v, e = .returned v ∧ w'.ownsRow w.heap.size 3 1 v (mergeAll l ids).length (intsV (mergeAll l ids)) ∧ Below w.heap.size w w' := by
  obtain ⟨i3, hi3, hz3, hs3, hb3⟩ := info_parts info3
  have H1 := Lib.hid h1
  have H2 := Lib.hid h2
  clear h1 h2
  go_enter Try.func85, Try.ntmps85
  go_wp2_with fail
  go_loopw [5, 17] (fun v i wr => ∃ k : Nat, k ≤ n2 ∧ i = .int .i64 k ∧ wr.ownsRow w.heap.size 3 1 v k (intsV (ids.take k)) ∧ Below w.heap.size w wr) (fun _ i _ => n2 - (intOf i).toNat)
  case atStart => exact ⟨0, by omega, rfl, World.ownsRow_made w #[] 0 (Nat.le_refl _) (by simp [maxLen]) rfl, (Below.refl _ _).alloc (Nat.le_refl _) _⟩
  case round =>
    obtain ⟨k, hk, rfl, hown, hbel⟩ := hrel
    have hsz := hbel.size
    by_cases hlt : k < n2
    · obtain ⟨b, o, rfl, _, hc⟩ := (H2.out.below hbel).one hlt
      unfold IntC at hc
      obtain ⟨x, hx⟩ : ∃ x, x = ids.getD k 0 := ⟨_, rfl⟩
      rw [← hx] at hc
      have HX := Lib.hid hx
      clear hx
      go_wp2_with (first
        | (at_builtin; refine wpList_app1 w _ rfl (.tmp 21) (.tmp 23) 32 rfl w.heap.size 3 i3 _ 8 Try.underlying32 hi3 hz3 hs3 hb3 rfl _ k (intsV (ids.take k)) rfl (hown.alloc _) (hbel.alloc hsz _) (.int .i64 x) _ rfl (by go_simp) rfl (by omega) (by unfold maxLen; omega) (by have := hsz; simp; omega) ?_; intro v1 w1 hown1 hb1 hg1))
      go_roundw
      case rel => exact ⟨k + 1, by omega, by go_num, by rw [getD_take _ _ (by omega), intsV_snoc, ← HX.out]; exact hown1, hb1⟩
      case measure => simp [intOf]; omega
    · have hown0 : wr.ownsRow w.heap.size 3 1 u5 ids.length (intsV ids) := by
        obtain rfl : k = n2 := by omega
        rw [List.take_of_length_le (by omega), ← hi] at hown
        exact hown
      clear hown
      go_wp2_with fail
      go_loopw [5] (fun v wr => ∃ (out : List Int) (f : Nat), out.length ≤ f ∧ f ≤ n2 ∧ mergeF l f out = mergeAll l ids ∧ wr.ownsRow w.heap.size 3 1 v out.length (intsV out) ∧ Below w.heap.size w wr) (fun v _ => sliceLen v)
      case atStart => exact ⟨ids, ids.length, Nat.le_refl _, by omega, rfl, hown0, hbel⟩
      case round =>
        obtain ⟨out, f, hf, hfn, hmf, hown, hbel⟩ := hrel
        obtain ⟨A, c, rfl⟩ := own_form hown
        have HMF := Lib.hid hmf
        have hsz := hbel.size
        obtain ⟨m, hm⟩ : ∃ m, m = out.length := ⟨_, rfl⟩
        rw [← hm] at hown hf ⊢
        have HM := Lib.hid hm
        clear hmf hm hown0
        obtain ⟨w2, rfl⟩ : ∃ w2 : World, w2 = wr := ⟨_, rfl⟩
        go_wp2_with fail
        go_loopw [8, 9, 10] (fun b t i w3 => ∃ k : Nat, k ≤ m - 1 ∧ b = .int .i64 (encB (scanTo l out k)) ∧ t = .int .i64 (encT (scanTo l out k)) ∧ i = .int .i64 k ∧ Below w2.heap.size w2 w3) (fun _ _ i _ => m - (intOf i).toNat)
        case atStart => exact ⟨0, by omega, rfl, rfl, rfl, Below.refl _ _⟩
        case round =>
          obtain ⟨k, hk, rfl, rfl, rfl, hbw⟩ := hrel
          have hown3 := own_keep hown hbw (Nat.le_refl _)
          have hsw := hbw.size
          obtain ⟨bb, hbb⟩ : ∃ bb, bb = encB (scanTo l out k) := ⟨_, rfl⟩
          obtain ⟨tt, htt⟩ : ∃ tt, tt = encT (scanTo l out k) := ⟨_, rfl⟩
          rw [← hbb, ← htt]
          have HBB := Lib.hid hbb
          have HTT := Lib.hid htt
          by_cases hlt : k + 1 < m
          · obtain ⟨b, o, rfl, hbl, hc0⟩ := (Arr.of_own hown3).one (k := k) (by omega)
            obtain ⟨b', o', he, hbl', hc1⟩ := (Arr.of_own hown3).one (k := k + 1) (by omega)
            obtain ⟨rfl, rfl⟩ : b = b' ∧ o = o' := by simpa using he
            clear he
            have hg0 : (intsV out).getD k undef = .int .i64 (out.getD k 0) := by rw [List.getD, intsV_get _ _ (by rw [← HM.out]; omega)]; rfl
            have hg1 : (intsV out).getD (k + 1) undef = .int .i64 (out.getD (k + 1) 0) := by rw [List.getD, intsV_get _ _ (by rw [← HM.out]; omega)]; rfl
            rw [hg0] at hc0
            rw [hg1] at hc1
            obtain ⟨x, hx⟩ : ∃ x, x = out.getD k 0 := ⟨_, rfl⟩
            obtain ⟨y, hy⟩ : ∃ y, y = out.getD (k + 1) 0 := ⟨_, rfl⟩
            rw [← hx] at hc0
            rw [← hy] at hc1
            obtain ⟨kv, hkv⟩ : ∃ kv, kv = rankI l x y := ⟨_, rfl⟩
            have HC := Lib.hid fun (W : World) (hB : Below wr.heap.size wr W) => rank_any A1 n1 c1 l x y W hl hn1 ((H1.out.below (hbel.trans (hbw.mono hsz |>.trans (hB.mono (Nat.le_trans hsz hsw))))).more (Nat.le_trans hsz (Nat.le_trans hsw hB.size)))
            rw [← hkv] at HC
            have hlo := encB_lo (scanTo l out k)
            rw [← hbb] at hlo
            have hkb : -1 ≤ kv ∧ kv < 140737488355328 := by
              have := rankI_bd l x y
              rw [← hkv] at this; omega
            have hstep : (kv < 0 ∨ (0 ≤ bb ∧ bb ≤ kv)) → scanTo l out (k + 1) = scanTo l out k := fun h => scan_keep (by rw [← hx, ← hy, ← hkv, ← hbb]; exact h)
            have hnew : 0 ≤ kv → (bb < 0 ∨ kv < bb) → encB (scanTo l out (k + 1)) = kv ∧ encT (scanTo l out (k + 1)) = k := fun h h2 => by
              have := scan_new (l := l) (out := out) (i := k) (by rw [← hx, ← hy, ← hkv]; exact h) (by rw [← hx, ← hy, ← hkv, ← hbb]; exact h2)
              rw [← hx, ← hy, ← hkv] at this; exact this
            have HST := Lib.hid hstep
            have HNW := Lib.hid hnew
            clear hg0 hg1 hx hy hkv hstep hnew hbb htt
            go_wp2_with fail
            have z1 : (0 : Int) ≤ (k : Int) := by omega
            have z2 : (k : Int) < (m : Int) := by omega
            have z3 : (0 : Int) ≤ (k : Int) + 1 := by omega
            have z4 : (k : Int) + 1 < (m : Int) := by omega
            have z5 : IntKind.i64.wrap ((k : Int) + 1) = (k : Int) + 1 := IntWalk.i64_in _ (by omega)
            have z6 : ((k : Int) + 1).toNat = k + 1 := by omega
            go_region_held3 (fun w' => Below wr.heap.size wr w' ∧ w'.cell? ⟨b, o + k, none⟩ = some (.int .i64 x) ∧ w'.cell? ⟨b, o + (k + 1), none⟩ = some (.int .i64 y))
              (first
                | assumption
                | exact ⟨hB9, (hb9.cell (p := ⟨b, o + k, none⟩) (World.block_lt_of_cell? _ _ (by assumption))).trans (by assumption), (hb9.cell (p := ⟨b, o + (k + 1), none⟩) (World.block_lt_of_cell? _ _ (by assumption))).trans (by assumption)⟩
                | exact ⟨(Below.refl _ _).drew, hc0, hc1⟩)
              (first
                | (go_at_call 118; go_split_ands; refine (HC.out _ (by assumption)).mono ?_; rintro e w9 ⟨rfl, hb9⟩; have hB9 := Below.trans (by assumption : Below wr.heap.size wr _) (hb9.mono (Below.size (by assumption : Below wr.heap.size wr _)))))
            clear z1 z2 z3 z4 z5 z6
            go_split_ands
            have hBe := (by assumption : Below wr.heap.size wr _)
            have hB3' := hbw.trans (hBe.mono hsw)
            clear hbw hBe hc0 hc1
            have hcs : kv < 0 ∨ (0 ≤ kv ∧ bb < 0) ∨ (0 ≤ kv ∧ 0 ≤ bb ∧ kv < bb) ∨ (0 ≤ kv ∧ 0 ≤ bb ∧ bb ≤ kv) := by omega
            rcases hcs with h | ⟨h, h'⟩ | ⟨h, h', h''⟩ | ⟨h, h', h''⟩
            · go_wp2
              go_roundw
              case rel => exact ⟨k + 1, by omega, by rw [HST.out (.inl h), HBB.out], by rw [HST.out (.inl h), HTT.out], by go_num, hB3'⟩
              case measure => simp [intOf]; omega
            · go_wp2
              go_roundw
              case rel => exact ⟨k + 1, by omega, by rw [(HNW.out h (.inl h')).1], by rw [(HNW.out h (.inl h')).2], by go_num, hB3'⟩
              case measure => simp [intOf]; omega
            · go_wp2
              go_roundw
              case rel => exact ⟨k + 1, by omega, by rw [(HNW.out h (.inr h'')).1], by rw [(HNW.out h (.inr h'')).2], by go_num, hB3'⟩
              case measure => simp [intOf]; omega
            · go_wp2
              go_roundw
              case rel => exact ⟨k + 1, by omega, by rw [HST.out (.inr ⟨h', h''⟩), HBB.out], by rw [HST.out (.inr ⟨h', h''⟩), HTT.out], by go_num, hB3'⟩
              case measure => simp [intOf]; omega
          · have hkm : k = m - 1 := by omega
            have hscan : scanTo l out k = scan l out := by rw [scan, ← HM.out, hkm]
            have hB := hbel.trans (hbw.mono hsz)
            clear hbb htt hkm
            cases hs : scan l out with
            | none =>
              have htn : tt = -1 := by rw [HTT.out, hscan, hs]; rfl
              subst htn
              have hfin : mergeAll l ids = out := by rw [← HMF.out, mergeF_stop hs]
              have HF := Lib.hid hfin
              clear hfin hs hscan
              go_wp2_with fail
              go_ret
              refine ⟨_, rfl, ?_, hB⟩
              rw [HF.out, ← HM.out]
              exact hown3
            | some p =>
              obtain ⟨bn, tn⟩ := p
              have htn : tt = (tn : Int) := by rw [HTT.out, hscan, hs]; rfl
              have hbn : bb = (bn : Int) := by rw [HBB.out, hscan, hs]; rfl
              subst htn hbn
              obtain ⟨ht1, hb1, -⟩ := scanTo_lt hs
              rw [← HM.out] at ht1
              obtain ⟨f, rfl⟩ : ∃ f', f = f' + 1 := ⟨f - 1, by omega⟩
              have hlm := length_merged (out := out) (b := bn) (i := tn) (by rw [← HM.out]; omega)
              have HML := Lib.hid hlm
              have HSX := Lib.hid hs
              clear hs hlm hscan
              go_wp2_with fail
              obtain ⟨w5, rfl⟩ : ∃ w5 : World, w5 = wr := ⟨_, rfl⟩
              go_loopw [12, 63] (fun v i w6 => ∃ (j q : Nat), j ≤ m ∧ i = .int .i64 j ∧ q = (nextTo out bn tn j).length ∧ w6.ownsRow w5.heap.size 3 1 v q (intsV (nextTo out bn tn j)) ∧ Below w5.heap.size w5 w6) (fun _ i _ => m - (intOf i).toNat)
              case atStart => exact ⟨0, 0, by omega, rfl, rfl, World.ownsRow_made w5 #[] 0 (Nat.le_refl _) (by simp [maxLen]) rfl, (Below.refl _ _).alloc (Nat.le_refl _) _⟩
              case round =>
                obtain ⟨j, q, hj, rfl, hq, hownN, hbN⟩ := hrel
                have hownO := own_keep hown3 hbN (Nat.le_refl _)
                have hsN := hbN.size
                have hqj : q ≤ j := by rw [hq]; exact length_nextTo out bn tn j
                have HQ := Lib.hid hq
                clear hq
                by_cases hjm : j < m
                · have hcs : j = tn ∨ (j ≠ tn ∧ j = tn + 1) ∨ (j ≠ tn ∧ j ≠ tn + 1) := by omega
                  rcases hcs with h | ⟨h, h'⟩ | ⟨h, h'⟩
                  · have hbe : ((j : Int) == (tn : Int)) = true := by rw [beq_iff_eq]; omega
                    have hnx : Hid (nextTo out bn tn (j + 1) = nextTo out bn tn j ++ [256 + (bn : Int)]) := by
                      show nextTo out bn tn (j + 1) = _
                      rw [nextTo, if_pos h]
                    clear h
                    go_wp2_with (first
                      | (at_builtin; refine wpList_app1 w5 _ rfl (.tmp 69) (.tmp 72) 32 rfl w5.heap.size 3 i3 _ 8 Try.underlying32 hi3 hz3 hs3 hb3 rfl _ q (intsV (nextTo out bn tn j)) rfl (hownN.alloc _) (hbN.alloc hsN _) (.int .i64 (256 + (bn : Int))) _ rfl (by go_simp) rfl (by omega) (by unfold maxLen; omega) (by have := hsN; simp; omega) ?_; intro v1 w1 hown1 hb1 hg1))
                    go_roundw
                    case rel => exact ⟨j + 1, q + 1, by omega, by go_num, by rw [hnx.out, List.length_append, HQ.out]; rfl, by rw [hnx.out, intsV_snoc]; exact hown1, hb1⟩
                    case measure => simp [intOf]; omega
                  · have hbe : ((j : Int) == (tn : Int)) = false := by rw [beq_eq_false_iff_ne]; omega
                    have hbe2 : ((j : Int) != (tn : Int) + 1) = false := by rw [bne_eq_false_iff_eq]; omega
                    have hnx : Hid (nextTo out bn tn (j + 1) = nextTo out bn tn j) := by
                      show nextTo out bn tn (j + 1) = _
                      rw [nextTo, if_neg h, if_pos h']
                    clear h h'
                    go_wp2_with fail
                    go_roundw
                    case rel => exact ⟨j + 1, q, by omega, by go_num, by rw [hnx.out]; exact HQ.out, by rw [hnx.out]; exact hownN, hbN⟩
                    case measure => simp [intOf]; omega
                  · have hbe : ((j : Int) == (tn : Int)) = false := by rw [beq_eq_false_iff_ne]; omega
                    have hbe2 : ((j : Int) != (tn : Int) + 1) = true := by rw [bne_iff_ne]; omega
                    have hnx : Hid (nextTo out bn tn (j + 1) = nextTo out bn tn j ++ [out.getD j 0]) := by
                      show nextTo out bn tn (j + 1) = _
                      rw [nextTo, if_neg h, if_neg h']
                    clear h h'
                    obtain ⟨b, o, rfl, hbl, hc0⟩ := (Arr.of_own hownO).one hjm
                    have hg0 : (intsV out).getD j undef = .int .i64 (out.getD j 0) := by rw [List.getD, intsV_get _ _ (by rw [← HM.out]; omega)]; rfl
                    rw [hg0] at hc0
                    obtain ⟨x, hx⟩ : ∃ x, x = out.getD j 0 := ⟨_, rfl⟩
                    rw [← hx] at hc0 hnx
                    clear hg0 hx
                    go_wp2_with (first
                      | (at_builtin; refine wpList_app1 w5 _ rfl (.tmp 78) (.tmp 83) 32 rfl w5.heap.size 3 i3 _ 8 Try.underlying32 hi3 hz3 hs3 hb3 rfl _ q (intsV (nextTo out bn tn j)) rfl (hownN.alloc _) (hbN.alloc hsN _) (.int .i64 x) _ rfl (by go_simp) rfl (by omega) (by unfold maxLen; omega) (by have := hsN; simp; omega) ?_; intro v1 w1 hown1 hb1 hg1))
                    go_roundw
                    case rel => exact ⟨j + 1, q + 1, by omega, by go_num, by rw [hnx.out, List.length_append, HQ.out]; rfl, by rw [hnx.out, intsV_snoc]; exact hown1, hb1⟩
                    case measure => simp [intOf]; omega
                · have hjm' : j = out.length := by rw [← HM.out]; omega
                  have hall : nextTo out bn tn j = merged out bn tn := by rw [hjm', nextTo_all _ _ _ (by rw [← HM.out]; omega)]
                  rw [hall] at hownN
                  have hq2 : q = (merged out bn tn).length := by rw [HQ.out, hall]
                  have HQ2 := Lib.hid hq2
                  have hql : q = m - 1 := by rw [hq2, HML.out, ← HM.out]
                  have HQL := Lib.hid hql
                  clear hq2 hql hall hjm'
                  obtain ⟨A', c', rfl⟩ := own_form hownN
                  go_wp2_with fail
                  go_roundw
                  case rel => exact ⟨merged out bn tn, f, by have := HQ2.out; have := HQL.out; omega, by omega, by rw [← HMF.out, mergeF_step HSX.out], by rw [← HQ2.out]; exact own_base hownN (Nat.le_trans hsz hsw), hB.trans (hbN.mono (Nat.le_trans hsz hsw))⟩
                  case measure =>
                    have := HQL.out
                    simp [sliceLen]; omega
end Go.Proofs.Ytfjgfabochiflaa.H14.R13
