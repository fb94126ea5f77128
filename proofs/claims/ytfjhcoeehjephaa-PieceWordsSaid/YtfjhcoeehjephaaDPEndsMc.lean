/- The iterator of the pieces' ends. -/
import Derived.RangeFuncBox
import Derived.RangeFuncLeaves
import Derived.Shelf.Abstract
import Derived.WalkKit
import Derived.OwnWalkIn
import Derived.TacticsInMore
import Derived.LoopNIn
import Derived.LoopIn
import Derived.Maps.AppendAt
import Derived.Sort.QuietIn
import Derived.Test.YtfjhcoeehjephaaDPPlainMc
namespace Go.Proofs.Ytfjhcoeehjephaa.D8
open Go.RowKit Go.Shelf
attribute [local go_sem] Oper.semAt_some

theorem grownBy_drewN (w : World) (n : Nat) : w.grownBy (w.drewN n) none := ⟨rfl, rfl, rfl, Nat.le_refl _, fun _ _ _ => rfl⟩
/-- all blocks below B but one lie as they lay -/
def ButOut (ob B : Nat) (W W' : World) : Prop := ∀ b, b < B → b ≠ ob → W'.heap[b]? = W.heap[b]?

set_option maxRecDepth 100000 in
set_option maxHeartbeats 8000000 in
theorem ends1_in (n : Nat) (hn : 1 ≤ n) (l p2 p3 ob B b1 o1 b2 o2 n1 n2 c1 c2 : Nat) (D : Dfa) (hr : RightD D) (hl1 : D.next.length = n1) (hl2 : D.acc.length = n2) (hclt : ∀ b, b < 256 → D.cls b < 256) (RA : Nat → Option Addr) (rc : Nat → Nat) (s : ByteArray) (hs : s.size ≤ 1000000) (J Jx : List Int → World → Prop) (W : World)
    (hJ : AbidesFrom W.heap.size J)
    (hY : ∀ pre x W1, J pre W1 → pre.length < (pieces D s 0).length → YieldAt Fence.wide (n - 1) Try.prog l #[.int .i64 x] W1 fun e W' =>
      (e = .returned (.bool true) ∧ J (pre ++ [x]) W' ∧ ButOut ob B W1 W') ∨ (e = .returned (.bool false) ∧ Jx (pre ++ [x]) W'))
    (hQ : ∀ W', ButOut ob B W W' → Facts W' p2 b1 o1 b2 o2 n1 n2 c1 c2 D RA rc ∧ W'.cell? ⟨p3, 0, none⟩ = some (.string s)) (h0 : J [] W) :
    CallsIn Fence.wide n Try.prog 86 #[.func (.yield l) #[] #[], .pointer (some ⟨p3, 0, none⟩), .pointer (some ⟨p2, 0, none⟩)] W fun e W' => (∃ v, e = .returned v) ∧
      ((∃ ys, ys = pieces D s 0 ∧ J ys W') ∨ (∃ pre, pre <+: pieces D s 0 ∧ Jx pre W')) := by
  have HQ := Lib.hid hQ
  have HR := Lib.hid hr
  have HCLT := Lib.hid hclt
  have hal := hr.alen
  have hlo := hr.lo
  have hhi := hr.hi
  clear hQ hr hclt
  refine callsIn_of_wp Try.func86 rfl trivial ?_ rfl
  simp only [Try.ntmps86, List.size_toArray, List.length_cons, List.length_nil, Nat.reduceAdd, Nat.reduceSub, Array.replicate_succ, Array.replicate_zero, List.push_toArray, List.append_toArray, List.nil_append, List.cons_append]
  gi_wp2
  gi_loopw [4] (fun a wr => ∃ (pre : List Int) (k : Nat), a = .int .i64 k ∧ k ≤ s.size ∧ pre ++ pieces D s k = pieces D s 0 ∧ J pre wr ∧ ButOut ob B W wr) (fun a _ => s.size - (intOf a).toNat)
  case atStart => exact ⟨[], 0, rfl, by omega, by simp, h0, fun _ _ _ => rfl⟩
  case round =>
    obtain ⟨pre, k, rfl, hk, hall, hJs, hbo⟩ := hrel
    obtain ⟨w3, rfl⟩ : ∃ w3 : World, w3 = wr := ⟨_, rfl⟩
    have HJS := Lib.hid hJs
    have HBO := Lib.hid hbo
    have HALL := Lib.hid hall
    have HF := Lib.hid (HQ.out w3 hbo)
    have hps := HF.out.2
    clear hJs hbo hall
    by_cases hlt : k < s.size
    · have PB := Lib.hid (pieceEnd_bounds D s k hlt)
      gi_wp2
      gi_loopw [5, 6, 7] (fun to sv i wr => ∃ (t2 st i2 mq : Nat), to = .int .i64 t2 ∧ sv = .int .i64 st ∧ i = .int .i64 i2 ∧ st < n1 ∧ i2 ≤ s.size ∧ walkTo D (s.data.toList.drop i2) st i2 t2 = pieceEnd D s k ∧ wr = w3.drewN mq) (fun _ _ i _ => s.size - (intOf i).toNat)
      case atStart => exact ⟨k + 1, 0, k, 0, by go_num, rfl, rfl, by omega, by omega, rfl, rfl⟩
      case round =>
        obtain ⟨t2, st, i2, mq, rfl, rfl, rfl, hst, hi2, hwk, rfl⟩ := hrel
        have HW := Lib.hid hwk
        clear hwk
        by_cases hli : i2 < s.size
        · obtain ⟨cc, tt, hdr, hdr2, hidx⟩ := index_byte s i2 hli
          obtain ⟨hcm, hx0, hx1⟩ := state_next HR.out (st := st) (by omega) cc
          have hcb := HCLT.out cc.toNat cc.toNat_lt
          have hstep : (if nextD D st cc < 0 then t2 else walkTo D (s.data.toList.drop (i2 + 1)) (nextD D st cc).toNat (i2 + 1) (if D.acc.getD (nextD D st cc).toNat false = true then i2 + 1 else t2)) = pieceEnd D s k := by
            have h9 := HW.out
            rw [hdr, walkTo] at h9
            rw [hdr2]; exact h9
          have HSTEP := Lib.hid hstep
          have hccb := cc.toNat_lt
          obtain ⟨cn, hcn⟩ : ∃ cn, cn = cc.toNat := ⟨_, rfl⟩
          rw [← hcn] at hidx hcm hcb hccb
          obtain ⟨cj, hcj⟩ : ∃ cj, cj = D.cls cn := ⟨_, rfl⟩
          have q1 := HF.out.1.q1
          have q2 := HF.out.1.q2
          have r1 := HF.out.1.cl cn hccb
          have r2 := HF.out.1.row st hst
          obtain ⟨b3, o3, hRA, r3⟩ := HF.out.1.el st hst (D.cls cn) hcm
          rw [hRA] at r2
          have hnx : (D.next.getD st []).getD (D.cls cn) 0 = nextD D st cc := by rw [hcn]; rfl
          rw [hnx] at r3
          rw [← hcj] at r1 r3 hcm hcb
          obtain ⟨x, hx⟩ : ∃ x, x = nextD D st cc := ⟨_, rfl⟩
          rw [← hx] at r3 HSTEP hx0 hx1
          obtain ⟨mm, hmm⟩ : ∃ mm, mm = D.many := ⟨_, rfl⟩
          rw [← hmm] at r2 hcm
          have hm2 : mm ≤ 256 := by rw [hmm]; exact HR.out.mhi
          have hm3 : (cj : Int) < (mm : Int) := by omega
          have hm4 : (cj : Int) < 256 := by omega
          have hm5 : (cn : Int) < 256 := by omega
          have hsn : (st : Int) < (n1 : Int) := by omega
          clear hdr hdr2 hstep hcn hcj hnx hx hmm hRA
          rcases (by omega : x = -1 ∨ 0 ≤ x) with hneg | hpos
          · have e3 : decide (x < 0) = true := by simp [hneg]
            have HRR := Lib.hid (show t2 = pieceEnd D s k by rw [← HSTEP.out, if_pos (by omega)])
            clear hneg
            gi_wp2
            gi_quiet (fail)
            have hJd : J pre (w3.drewN (mq + nq)) := hJ pre w3 _ none HJS.out (grownBy_drewN _ _) (fun r e => by cases e)
            have hp9 := PB.out
            rw [← HRR.out] at hp9
            obtain ⟨fn, tmps, assign, body, hy, hRd⟩ := hY pre (t2 : Int) (w3.drewN (mq + nq)) hJd (by rw [← HALL.out, List.length_append, pieces_step D s k hlt]; simp)
            gi_wp2
            refine hRd.mono ?_
            rintro e W3 (⟨rfl, hJ3, hk3⟩ | ⟨rfl, hJx3⟩)
            · gi_wp2
              go_roundw
              case rel => exact ⟨pre ++ [(t2 : Int)], t2, rfl, by omega, by rw [← HALL.out, pieces_step D s k hlt, ← HRR.out, List.append_assoc]; rfl, hJ3, fun b h1 h2 => (hk3 b h1 h2).trans (HBO.out b h1 h2)⟩
              case measure => simp [intOf]; omega
            · gi_wp2
              refine bodyPost_ret (results_none rfl _ _ _) rfl ?_
              exact ⟨⟨_, rfl⟩, .inr ⟨pre ++ [(t2 : Int)], ⟨pieces D s t2, by rw [← HALL.out, pieces_step D s k hlt, ← HRR.out, List.append_assoc]; rfl⟩, hJx3⟩⟩
          · obtain ⟨nx, rfl⟩ := Int.eq_ofNat_of_zero_le hpos
            have e3 : decide ((nx : Int) < 0) = false := by simp
            have hnxl : (nx : Int) < (n2 : Int) := by omega
            have hac := HF.out.1.acc nx (by omega)
            have HST := Lib.hid (show walkTo D (s.data.toList.drop (i2 + 1)) nx (i2 + 1) (if D.acc.getD nx false = true then i2 + 1 else t2) = pieceEnd D s k by
              have h9 := HSTEP.out
              rw [if_neg (by omega)] at h9
              exact h9)
            cases hab : D.acc.getD nx false with
            | true =>
              rw [hab] at hac HST
              clear hab
              gi_wp2
              gi_quiet (fail)
              gi_wp2
              go_roundw
              case rel => exact ⟨i2 + 1, nx, i2 + 1, mq + nq, by go_num, rfl, by go_num, by omega, by omega, HST.out, by first | rfl | trivial⟩
              case measure => simp [intOf]; omega
            | false =>
              rw [hab] at hac HST
              clear hab
              gi_wp2
              gi_quiet (fail)
              gi_wp2
              go_roundw
              case rel => exact ⟨t2, nx, i2 + 1, mq + nq, rfl, rfl, by go_num, by omega, by omega, HST.out, by first | rfl | trivial⟩
              case measure => simp [intOf]; omega
        · obtain rfl : i2 = s.size := by omega
          have HRR := Lib.hid (show t2 = pieceEnd D s k by
            have h9 := HW.out
            rw [List.drop_eq_nil_of_le (by rw [size_data]; omega)] at h9
            exact h9)
          have hJd : J pre (w3.drewN mq) := hJ pre w3 _ none HJS.out (grownBy_drewN _ mq) (fun r e => by cases e)
          have hp9 := PB.out
          rw [← HRR.out] at hp9
          obtain ⟨fn, tmps, assign, body, hy, hRd⟩ := hY pre (t2 : Int) (w3.drewN mq) hJd (by rw [← HALL.out, List.length_append, pieces_step D s k hlt]; simp)
          gi_wp2
          refine hRd.mono ?_
          rintro e W3 (⟨rfl, hJ3, hk3⟩ | ⟨rfl, hJx3⟩)
          · gi_wp2
            go_roundw
            case rel => exact ⟨pre ++ [(t2 : Int)], t2, rfl, by omega, by rw [← HALL.out, pieces_step D s k hlt, ← HRR.out, List.append_assoc]; rfl, hJ3, fun b h1 h2 => (hk3 b h1 h2).trans (HBO.out b h1 h2)⟩
            case measure => simp [intOf]; omega
          · gi_wp2
            refine bodyPost_ret (results_none rfl _ _ _) rfl ?_
            exact ⟨⟨_, rfl⟩, .inr ⟨pre ++ [(t2 : Int)], ⟨pieces D s t2, by rw [← HALL.out, pieces_step D s k hlt, ← HRR.out, List.append_assoc]; rfl⟩, hJx3⟩⟩
    · obtain rfl : k = s.size := by omega
      gi_wp2
      go_end0
      exact ⟨⟨_, rfl⟩, .inl ⟨pre, by rw [← HALL.out, pieces_end D s s.size (Nat.le_refl _), List.append_nil], HJS.out⟩⟩
end Go.Proofs.Ytfjhcoeehjephaa.D8
