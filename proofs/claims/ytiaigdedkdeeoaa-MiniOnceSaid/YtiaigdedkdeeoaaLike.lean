/- The reference's Like, of two that are alike. -/
import Derived.Test.YtiaigdedkdeeoaaMiLst
namespace Go.Proofs.Ytiaigdedkdeeoaa
open Go.RowKit
attribute [local go_sem ↓] load_22

theorem cells5 : Try.prog.cellsOf 5 = 1 := by kernel_rfl
def clsV (f : Nat → Nat) : List Value := (List.range 256).map (fun b => .int .u8 ((f b : Nat) : Int))
theorem clsV_len (f : Nat → Nat) : (clsV f).length = 256 := by rw [clsV, List.length_map, List.length_range]
theorem clsV_get (f : Nat → Nat) {b : Nat} (h : b < 256) : (clsV f)[b]? = some (.int .u8 ((f b : Nat) : Int)) := by
  rw [clsV, List.getElem?_map, List.getElem?_range h]; rfl
/-- the classes, read whole -/
theorem cls_load {W : World} {g : Nat} {ds : Array Value} {A1 A2 : Option Addr} {n1 n2 c1 c2 : Nat} {cls : Nat → Nat} (hb : Blk W g 26 ds.toList) (h : Cells ds A1 A2 n1 n2 c1 c2 cls) : (loadB 22 (.pointer (some ⟨g, 0, none⟩))).run Try.prog W = .ok (.agg (clsV cls).toArray) W :=
  loadB_run 22 (fun j v hv => by
    have hj : j < 256 := by rw [← clsV_len cls]; exact (List.getElem?_eq_some_iff.1 hv).1
    rw [clsV_get cls hj] at hv
    rw [Nat.zero_add, hb.cell, Array.getElem?_toList, h.cl j hj]; exact hv) (by simp) (by rw [clsV_len]; rfl)
/-- an array of bytes is itself -/
theorem eq22 (f : Nat → Nat) (W : World) : (Op.equalIn 10000 22 (.agg (clsV f).toArray) (.agg (clsV f).toArray)).run Try.prog W = .ok true W := by
  obtain ⟨i5, hi5, _⟩ := info_parts info5
  rw [run_equalIn_array W 9999 _ _ Try.underlying22 hi5, cells5]
  have key : ∀ is : List Nat, (∀ i ∈ is, i < 256) → (Op.eqItems 9999 5 1 (clsV f).toArray (clsV f).toArray is).run Try.prog W = .ok true W := fun is => by
    induction is with
    | nil => intro _; simp [Op.eqItems]
    | cons i is ih =>
      intro hi
      have hg := clsV_get f (hi i (by simp))
      have hp : (part 5 (clsV f).toArray (i * 1)).run Try.prog W = .ok (.int .u8 ((f i : Nat) : Int)) W := run_part_plain W (by kernel_rfl) (by simpa using hg)
      simp only [Op.eqItems, Sem.run_bind, hp, Result.andThen_ok, run_equalIn_int W 9998 5 .u8 .u8 _ _ Try.underlying5]
      simpa using ih (fun j hj => hi j (by simp [hj]))
  exact key _ (fun i hi => by simpa using hi)
set_option maxRecDepth 100000 in
set_option maxHeartbeats 8000000 in
theorem like_same (ds ds' : Array Value) (A1 A2 B1 B2 : Option Addr) (n m c1 c2 e1 e2 : Nat) (D : Dfa) (RA RB : Nat → Option Addr) (rc re : Nat → Nat) (w : World) (h : DfaIn w ds A1 A2 n m c1 c2 D RA rc) (k : DfaIn w ds' B1 B2 n m e1 e2 D RB re) :
    Calls Try.prog 9 #[.agg ds, .agg ds'] w fun e w' => e = .returned (.bool true) ∧ Below w.heap.size w w' := by
  have hn := h.next.le
  have hm := h.ale
  have hr := h.next.small
  have b1 := (blk_alloc w 26 ds).alloc (.cells ds' 26)
  have b2 := blk_alloc (w.alloc (.cells ds 26)) 26 ds'
  rw [World.size_alloc] at b2
  have hbl : Below w.heap.size w ((w.alloc (.cells ds 26)).alloc (.cells ds' 26)) := ((Below.refl _ _).alloc (Nat.le_refl _) _).alloc (by simp) _
  have hl1 := cls_load b1 h.cells
  have hl2 := cls_load b2 k.cells
  have heq := eq22 D.cls
  obtain ⟨cv, hcv⟩ : ∃ cv, cv = (clsV D.cls).toArray := ⟨_, rfl⟩
  rw [← hcv] at hl1 hl2 heq
  have q1 := b1.cell 256
  have q2 := b1.cell 257
  have p1 := b2.cell 256
  have p2 := b2.cell 257
  rw [Array.getElem?_toList, h.cells.nx] at q1
  rw [Array.getElem?_toList, h.cells.ac] at q2
  rw [Array.getElem?_toList, k.cells.nx] at p1
  rw [Array.getElem?_toList, k.cells.ac] at p2
  have H := Lib.hid (And.intro h (And.intro k (And.intro hbl hr)))
  clear h k hbl b1 b2 hcv hr
  go_enter Try.func9, Try.ntmps9
  go_upto_region 1 with (fail)
  generalize (w.alloc (.cells ds 26)).alloc (.cells ds' 26) = w1 at H hl1 hl2 q1 q2 p1 p2 ⊢
  go_wp2_with fail
  clear hl1 hl2 heq
  go_loopw [34] (fun i wr => ∃ (k : Nat) (mq : Nat), k ≤ n ∧ i = .int .i64 k ∧ wr = w1.drewN mq) (fun i _ => n - (intOf i).toNat)
  case atStart => exact ⟨0, 0, by omega, rfl, rfl⟩
  case round =>
    obtain ⟨k, mq, hk, rfl, rfl⟩ := hrel
    by_cases hlt : k < n
    · have dt : decide ((k : Int) < (n : Int)) = true := by simp; omega
      obtain ⟨b1, o1, x1, hb1, hc1⟩ := H.out.1.next.arr.one hlt
      obtain ⟨b2, o2, x2, hb2, hc2⟩ := H.out.2.1.next.arr.one hlt
      subst x1
      subst x2
      unfold RowC at hc1 hc2
      replace hc1 := (H.out.2.2.1.cell (p := ⟨b1, o1 + k, none⟩) hb1).trans hc1
      replace hc2 := (H.out.2.2.1.cell (p := ⟨b2, o2 + k, none⟩) hb2).trans hc2
      have hrk := H.out.2.2.2 k hlt
      have HR1 := Lib.hid (H.out.1.next.row k hlt)
      have HR2 := Lib.hid (H.out.2.1.next.row k hlt)
      obtain ⟨r, hr⟩ : ∃ r, r = D.next.getD k [] := ⟨_, rfl⟩
      rw [← hr] at HR1 HR2 hc1 hc2 hrk
      obtain ⟨rl, hrl⟩ : ∃ rl, rl = r.length := ⟨_, rfl⟩
      rw [← hrl] at HR1 HR2 hc1 hc2 hrk
      obtain ⟨AR, hAR⟩ : ∃ AR, AR = RA k := ⟨_, rfl⟩
      obtain ⟨BR, hBR⟩ : ∃ BR, BR = RB k := ⟨_, rfl⟩
      rw [← hAR] at HR1 hc1
      rw [← hBR] at HR2 hc2
      have bb : ((rl : Int) == (rl : Int)) = true := by simp
      clear hr hrl hAR hBR hb1 hb2
      go_wp2_with fail
      go_quiet (fail)
      go_wp2_with fail
      (try rw [World.drewN_drewN])
      clear dt bb
      obtain ⟨mm, hmm⟩ : ∃ mm, mm = mq + nq := ⟨_, rfl⟩
      rw [← hmm]
      clear hmm
      go_loopw [56] (fun i wr => ∃ (t : Nat) (mz : Nat), t ≤ rl ∧ i = .int .i64 t ∧ wr = w1.drewN mz) (fun i _ => rl - (intOf i).toNat)
      case atStart => exact ⟨0, mm, by omega, rfl, rfl⟩
      case round =>
        obtain ⟨t, mz, ht, rfl, rfl⟩ := hrel
        by_cases htl : t < rl
        · obtain ⟨b3, o3, x3, hb3, hc3⟩ := HR1.out.one htl
          obtain ⟨b4, o4, x4, hb4, hc4⟩ := HR2.out.one htl
          have HX3 := Lib.hid x3
          have HX4 := Lib.hid x4
          subst x3
          subst x4
          unfold NumC at hc3 hc4
          replace hc3 := (H.out.2.2.1.cell (p := ⟨b3, o3 + t, none⟩) hb3).trans hc3
          replace hc4 := (H.out.2.2.1.cell (p := ⟨b4, o4 + t, none⟩) hb4).trans hc4
          obtain ⟨x, hx⟩ : ∃ x, x = r.getD t 0 := ⟨_, rfl⟩
          rw [← hx] at hc3 hc4
          have bb : (x == x) = true := by simp
          clear hx hb3 hb4
          go_wp2_with fail
          go_quiet (fail)
          go_wp2_with fail
          go_roundw
          case rel => exact ⟨t + 1, mz + nq, by omega, by go_num, by first | rfl | trivial⟩
          case measure => simp [intOf]; omega
        · have hte : t = rl := by omega
          go_wp2_with fail
          go_roundw
          case rel => exact ⟨k + 1, mz, by omega, by go_num, by first | rfl | trivial⟩
          case measure => simp [intOf]; omega
    · have hke : k = n := by omega
      go_wp2_with fail
      go_loopw [81] (fun i wr => ∃ (t : Nat) (mz : Nat), t ≤ m ∧ i = .int .i64 t ∧ wr = w1.drewN mz) (fun i _ => m - (intOf i).toNat)
      case atStart => exact ⟨0, mq, by omega, rfl, rfl⟩
      case round =>
        obtain ⟨t, mz, ht, rfl, rfl⟩ := hrel
        by_cases htl : t < m
        · obtain ⟨b3, o3, x3, hb3, hc3⟩ := H.out.1.aarr.one htl
          obtain ⟨b4, o4, x4, hb4, hc4⟩ := H.out.2.1.aarr.one htl
          subst x3
          subst x4
          unfold BoolC at hc3 hc4
          replace hc3 := (H.out.2.2.1.cell (p := ⟨b3, o3 + t, none⟩) hb3).trans hc3
          replace hc4 := (H.out.2.2.1.cell (p := ⟨b4, o4 + t, none⟩) hb4).trans hc4
          obtain ⟨x, hx⟩ : ∃ x, x = D.acc.getD t false := ⟨_, rfl⟩
          rw [← hx] at hc3 hc4
          have bb : (x == x) = true := by cases x <;> rfl
          clear hx hb3 hb4
          go_wp2_with fail
          go_quiet (fail)
          go_wp2_with fail
          go_roundw
          case rel => exact ⟨t + 1, mz + nq, by omega, by go_num, by first | rfl | trivial⟩
          case measure => simp [intOf]; omega
        · have hte : t = m := by omega
          go_wp2_with fail
          go_returns
          exact ⟨by first | rfl | simp, below_drewN H.out.2.2.1 _⟩
end Go.Proofs.Ytiaigdedkdeeoaa
