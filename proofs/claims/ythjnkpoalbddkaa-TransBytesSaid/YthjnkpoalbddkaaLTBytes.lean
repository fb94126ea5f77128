/- TransBytes, with its machine and text laid open. -/
import Derived.Test.YthjnkpoalbddkaaLTGrows
import Derived.Test.YthjnkpoalbddkaaTBytes
import Derived.Lib.ConvBytes
import Derived.Laws.IdiomStrings
namespace Go.Proofs.Ythjnkpoalbddkaa
open Go.RowKit
attribute [local go_sem ↓] load_box store_box

/-- the store of an array into a new box -/
theorem store_new (m : Mach) (c : Nat) (W : World) : ∃ W', (storeBox (.pointer (some ⟨W.heap.size, 0, none⟩)) (.agg (tab m c).toArray)).run Try.prog (W.alloc (.cells Try.zeroCells51 51)) = .ok () W' ∧ Below W.heap.size W W' ∧ Blk W' W.heap.size 51 (tab m c) := by
  have hz : Try.zeroCells51 = (tab m 0).toArray := zeros_tab m
  have hb : Blk (W.alloc (.cells Try.zeroCells51 51)) W.heap.size 51 (tab m 0) := by rw [hz]; exact Blk.new _ _ _
  refine ⟨_, store51 hb (tab_len m 0) _ (by simp [tab_len]) (tab_one m c), below_setRow ((Below.refl _ _).alloc (Nat.le_refl _) _) (Nat.le_refl _) _, ?_⟩
  exact hb.row _

theorem cells5 : Try.prog.cellsOf 5 = 1 := by kernel_rfl
/-- an array of bytes is itself -/
theorem eq51 (m : Mach) (c : Nat) (W : World) : (Op.equalIn 10000 51 (.agg (tab m c).toArray) (.agg (tab m c).toArray)).run Try.prog W = .ok true W := by
  obtain ⟨i5, hi5, _⟩ := info_parts info5
  rw [run_equalIn_array W 9999 _ _ Try.underlying51 hi5, cells5]
  have key : ∀ is : List Nat, (∀ i ∈ is, i < 256) → (Op.eqItems 9999 5 1 (tab m c).toArray (tab m c).toArray is).run Try.prog W = .ok true W := fun is => by
    induction is with
    | nil => intro _; simp [Op.eqItems]
    | cons i is ih =>
      intro hi
      have hg := tab_get m c (hi i (by simp))
      have hp : (part 5 (tab m c).toArray (i * 1)).run Try.prog W = .ok (.int .u8 (if i < c then ((byteOf m i).toNat : Int) else 0)) W := run_part_plain W (by kernel_rfl) (by simpa using hg)
      simp only [Op.eqItems, Sem.run_bind, hp, Result.andThen_ok, run_equalIn_int W 9998 5 .u8 .u8 _ _ Try.underlying5]
      simpa using ih (fun j hj => hi j (by simp [hj]))
  exact key _ (fun i hi => by simpa using hi)
/-- a text's bytes, the first so many mapped -/
def bt (m : Mach) (s : ByteArray) (k j : Nat) : Nat := if j < k then (byteOf m (s.data.toList.getD j 0).toNat).toNat else (s.data.toList.getD j 0).toNat
def BR (m : Mach) (W : World) (g : Nat) (s : ByteArray) (k : Nat) : Prop := ∀ j, j < s.size → W.cell? ⟨g, j, none⟩ = some (.int .u8 (bt m s k j : Int)) ∧ W.frozen? ⟨g, j, none⟩ = false
theorem br_new (m : Mach) (W : World) (s : ByteArray) : ∃ W' c, (convert 9 54 (.string s)).run Try.prog W = .ok (.slice (some ⟨W.heap.size, 0, none⟩) s.size c) W' ∧ Below W.heap.size W W' ∧ BR m W' W.heap.size s 0 ∧ W.heap.size < W'.heap.size := by
  refine ⟨Lib.bytesWorld W 5 s, _, Lib.run_convert_string_bytes W 9 54 5 s Try.underlying9 Try.underlying54 Try.underlying5, ?_, fun j hj => ⟨?_, ?_⟩, by rw [Lib.bytesWorld_size]; omega⟩
  · refine ⟨?_, ?_, ?_, by rw [Lib.bytesWorld_size]; omega, fun k hk => Lib.bytesWorld_at_old W 5 s k hk⟩ <;> simp [Lib.bytesWorld, World.freeze, World.alloc, World.drew, -World.alloc_eq, -World.drew_eq]
  · rw [Lib.bytesWorld_cell W 5 s j hj]; rfl
  · unfold World.frozen?
    simp only [Lib.bytesWorld_at_new]
    have : j < (Lib.bytesCells W 5 s).size := by
      have h1 : s.data.size = s.size := rfl
      simp [Lib.bytesCells]; omega
    simp; omega
theorem BR.set {m : Mach} {W : World} {g : Nat} {s : ByteArray} {k : Nat} (h : BR m W g s k) (x : Int) (hx : x = ((byteOf m (s.data.toList.getD k 0).toNat).toNat : Int)) : BR m (W.setCell ⟨g, k, none⟩ (.int .u8 x)) g s (k + 1) := fun j hj => by
  obtain ⟨h1, h2⟩ := h j hj
  refine ⟨?_, (World.frozen?_setCell _ _ _ _).trans h2⟩
  by_cases e : j = k
  · subst e
    rw [World.cell?_setCell_same' _ _ _ (by rw [h1]; rfl)]
    unfold bt
    rw [if_pos (by omega), hx]
  · rw [World.cell?_setCell_other _ _ _ _ (fun e9 => e (by cases e9; rfl)), h1]
    unfold bt
    have : (j < k) ↔ (j < k + 1) := by omega
    simp only [this]

set_option maxRecDepth 100000 in
set_option maxHeartbeats 8000000 in
theorem law_tbytes (A0 A1 A2 A3 : Option Addr) (n0 n1 n2 n3 c0 c1 c2 c3 : Nat) (m : Mach) (RA : Nat → Option Addr) (rc : Nat → Nat) (PA : Nat → Option Addr) (pc : Nat → Nat) (s : ByteArray) (w : World) (h : MachIn w A0 A1 A2 A3 n0 n1 n2 n3 m RA rc PA pc) :
    Calls Try.prog 9 #[.agg #[.slice A0 n0 c0, .slice A1 n1 c1, .slice A2 n2 c2, .slice A3 n3 c3], .string s] w fun e w' => e = .returned (.bool true) ∧ Below w.heap.size w w' := by
  have L1 := Lib.hid (LawW.start c0 c1 c2 c3 h)
  obtain ⟨br, hbr⟩ : ∃ br, br = rightM m := ⟨_, rfl⟩
  have HBR := Lib.hid hbr
  clear hbr h
  go_enter Try.func9, Try.ntmps9
  go_wp2_with fail
  generalize w.alloc (.cells #[.slice A0 n0 c0, .slice A1 n1 c1, .slice A2 n2 c2, .slice A3 n3 c3] 42) = w1 at L1 ⊢
  have q0 := L1.out.q0
  have q1 := L1.out.q1
  have q2 := L1.out.q2
  have q3 := L1.out.q3
  cases br with
  | false =>
    go_wp2_with fail
    refine (tbytes_no A0 A1 A2 A3 n0 n1 n2 n3 c0 c1 c2 c3 m RA rc PA pc _ L1.out.mach HBR.out.symm).mono ?_
    rintro e w2 ⟨rfl, hb2⟩
    have L2 := Lib.hid (L1.out.go hb2)
    obtain ⟨w3, hst, hb3, hblk3⟩ := store_new m 0 w2
    have L3 := Lib.hid (L2.out.go hb3)
    clear hb2 hb3 hblk3
    have q0 := L3.out.q0
    have q1 := L3.out.q1
    have q2 := L3.out.q2
    have q3 := L3.out.q3
    go_wp2_with fail
    refine (rtright_any A0 A1 A2 A3 n0 n1 n2 n3 c0 c1 c2 c3 m RA rc PA pc _ L3.out.mach).mono ?_
    rw [← HBR.out]
    rintro e w4 ⟨rfl, hb4⟩
    have L4 := Lib.hid (L3.out.go hb4)
    clear hb4
    go_wp2_with fail
    go_returns
    exact ⟨by first | rfl | simp, L4.out.bel⟩
  | true =>
    have hr : RightM m := by
      apply Classical.byContradiction
      intro h9
      have := HBR.out
      rw [rightM_no h9] at this
      cases this
    have HR := Lib.hid hr
    have HTB := Lib.hid (fun W hW => tbytes_ok A0 A1 A2 A3 n0 n1 n2 n3 c0 c1 c2 c3 m RA rc PA pc W hW hr)
    have HRB := Lib.hid (fun W hW => rbytes_ok A0 A1 A2 A3 n0 n1 n2 n3 c0 c1 c2 c3 m RA rc PA pc W hW hr)
    obtain ⟨bq, hbq⟩ : ∃ bq, bq = okB m := ⟨_, rfl⟩
    rw [← hbq] at HTB HRB
    have HBQ := Lib.hid hbq
    clear hbq hr
    cases bq with
    | false =>
      go_wp2_with fail
      refine (HTB.out _ L1.out.mach).mono ?_
      rintro e w2 ⟨rfl, hb2⟩
      have L2 := Lib.hid (L1.out.go hb2)
      obtain ⟨w3, hst, hb3, hblk3⟩ := store_new m 0 w2
      have L3 := Lib.hid (L2.out.go hb3)
      clear hb2 hb3 hblk3
      have q0 := L3.out.q0
      have q1 := L3.out.q1
      have q2 := L3.out.q2
      have q3 := L3.out.q3
      go_wp2_with fail
      refine (rtright_any A0 A1 A2 A3 n0 n1 n2 n3 c0 c1 c2 c3 m RA rc PA pc _ L3.out.mach).mono ?_
      rw [← HBR.out]
      rintro e w4 ⟨rfl, hb4⟩
      have L4 := Lib.hid (L3.out.go hb4)
      clear hb4
      have q0 := L4.out.q0
      have q1 := L4.out.q1
      have q2 := L4.out.q2
      have q3 := L4.out.q3
      go_wp2_with fail
      refine (HRB.out _ L4.out.mach).mono ?_
      rintro e w5 ⟨rfl, hb5⟩
      have L5 := Lib.hid (L4.out.go hb5)
      clear hst
      obtain ⟨w6, hst, hb6, hblk6⟩ := store_new m 0 w5
      have L6 := Lib.hid (L5.out.go hb6)
      clear hb5 hb6 hblk6
      go_wp2_with fail
      go_returns
      exact ⟨by first | rfl | simp, L6.out.bel⟩
    | true =>
      have hbo : BytesOk m := by
        apply Classical.byContradiction
        intro h9
        have := HBQ.out
        rw [okB_no h9] at this
        cases this
      have HBO := Lib.hid hbo
      rw [if_pos rfl] at HTB HRB
      have HSH := Lib.hid (fun W => tshort_any s 500 (by omega) W)
      have hcs := cutS_le s 500
      obtain ⟨s', hs'⟩ : ∃ s', s' = cutS s 500 := ⟨_, rfl⟩
      rw [← hs'] at hcs HSH
      have HRU := Lib.hid (fun W hW => trun_any A0 A1 A2 A3 n0 n1 n2 n3 c0 c1 c2 c3 m RA rc PA pc s' W hW HR.out (by omega))
      rw [bytes_run hbo (by rw [size_data]; omega)] at HRU
      clear hbo hs'
      go_wp2_with fail
      refine (HTB.out _ L1.out.mach).mono ?_
      rintro e w2 ⟨rfl, hb2⟩
      have L2 := Lib.hid (L1.out.go hb2)
      obtain ⟨w3, hst, hb3, hblk3⟩ := store_new m 256 w2
      have L3 := Lib.hid (L2.out.go hb3)
      have HG3 := Lib.hid hblk3
      obtain ⟨g5, hg5⟩ : ∃ g5, g5 = w2.heap.size := ⟨_, rfl⟩
      have HGL := Lib.hid (show w.heap.size < g5 by rw [hg5]; exact L2.out.lt)
      rw [← hg5] at HG3
      have HG5 := Lib.hid hg5
      clear hb2 hb3 hblk3 hg5
      have q0 := L3.out.q0
      have q1 := L3.out.q1
      have q2 := L3.out.q2
      have q3 := L3.out.q3
      go_wp2_with fail
      refine (rtright_any A0 A1 A2 A3 n0 n1 n2 n3 c0 c1 c2 c3 m RA rc PA pc _ L3.out.mach).mono ?_
      rw [← HBR.out]
      rintro e w4 ⟨rfl, hb4⟩
      have L4 := Lib.hid (L3.out.go hb4)
      have HG4 := Lib.hid (HG3.out.below hb4 HG3.out.lt)
      clear hb4 HG3
      have q0 := L4.out.q0
      have q1 := L4.out.q1
      have q2 := L4.out.q2
      have q3 := L4.out.q3
      go_wp2_with fail
      refine (HRB.out _ L4.out.mach).mono ?_
      rintro e w5 ⟨rfl, hb5⟩
      have L5 := Lib.hid (L4.out.go hb5)
      clear hst
      obtain ⟨w6, hst, hb6, hblk6⟩ := store_new m 256 w5
      have L6 := Lib.hid (L5.out.go hb6)
      have HG6 := Lib.hid ((HG4.out.below hb5 HG4.out.lt).below hb6 (HG4.out.below hb5 HG4.out.lt).lt)
      have hld1 := load51 (cs := (tab m 256).toArray) HG6.out (by simp [tab_len])
      have hld2 := load51 (cs := (tab m 256).toArray) hblk6 (by simp [tab_len])
      rw [HG5.out] at hld1
      clear hb5 hb6 HG4 hblk6
      have heq := eq51 m 256
      obtain ⟨xs, hxs⟩ : ∃ xs, xs = (tab m 256).toArray := ⟨_, rfl⟩
      rw [← hxs] at hld1 hld2 hst heq ⊢
      clear hxs
      have q0 := L6.out.q0
      have q1 := L6.out.q1
      have q2 := L6.out.q2
      have q3 := L6.out.q3
      go_wp2_with fail
      refine (HSH.out _).mono ?_
      rintro e w7 ⟨rfl, rfl⟩
      go_wp2_with fail
      refine (HRU.out _ L6.out.mach).mono ?_
      rintro e w7 ⟨rfl, hb7⟩
      have L7 := Lib.hid (L6.out.go hb7)
      have HG7 := Lib.hid (HG6.out.below hb7 HG6.out.lt)
      obtain ⟨w8, c8, hcv, hb8, hbr, hlt8⟩ := br_new m w7 s'
      have HG8 := Lib.hid (HG7.out.below hb8 HG7.out.lt)
      have HB8 := Lib.hid hb8
      have HBR8 := Lib.hid hbr
      have HLT8 := Lib.hid hlt8
      clear hb7 hb8 hbr hlt8 hst hld1 hld2 heq q0 q1 q2 q3 HG6
      go_wp2_with fail
      obtain ⟨g8, hg8⟩ : ∃ g8, g8 = w7.heap.size := ⟨_, rfl⟩
      rw [← hg8] at HBR8 HLT8 ⊢
      have HE8 := Lib.hid hg8
      clear hcv hg8
      rw [← HG5.out]
      go_loopw [53] (fun x wr => ∃ k : Nat, k ≤ s'.size ∧ x = .int .i64 k ∧ Below w7.heap.size w7 wr ∧ g8 < wr.heap.size ∧ BR m wr g8 s' k) (fun x _ => s'.size - (intOf x).toNat)
      case atStart => exact ⟨0, by omega, rfl, HB8.out, HLT8.out, HBR8.out⟩
      case round =>
        clear HB8 HLT8 HBR8 HG8
        obtain ⟨k, hk, rfl, hbe, hlt, hbr⟩ := hrel
        obtain ⟨w9, rfl⟩ : ∃ w9 : World, w9 = wr := ⟨_, rfl⟩
        have HBE := Lib.hid hbe
        have HBR9 := Lib.hid hbr
        have HG9 := Lib.hid (HG7.out.below hbe HG7.out.lt)
        have HLT9 := Lib.hid hlt
        clear hbe hbr hlt
        by_cases hlk : k < s'.size
        · obtain ⟨hc1, hf1⟩ := HBR9.out k hlk
          rw [show bt m s' k k = (s'.data.toList.getD k 0).toNat by unfold bt; rw [if_neg (by omega)]] at hc1
          obtain ⟨x, hx⟩ : ∃ x, x = (s'.data.toList.getD k 0).toNat := ⟨_, rfl⟩
          have hxl : x < 256 := by rw [hx]; exact (s'.data.toList.getD k 0).toNat_lt
          rw [← hx] at hc1
          have hc2 := HG9.out.cell x
          rw [tab_get m 256 hxl, if_pos hxl] at hc2
          obtain ⟨y, hy⟩ : ∃ y, y = (byteOf m x).toNat := ⟨_, rfl⟩
          have hyl : y < 256 := by rw [hy]; exact (byteOf m x).toNat_lt
          rw [← hy] at hc2
          have HS := Lib.hid (HBR9.out.set (y : Int) (by rw [hy, hx]))
          have hxi : (x : Int) < 256 := by omega
          have hki : (k : Int) < (s'.size : Int) := by omega
          clear hx hy
          go_wp2_with fail
          go_roundw
          case rel => exact ⟨k + 1, by omega, by go_num, HBE.out.setCell (p := ⟨g8, k, none⟩) (by rw [HE8.out]; exact Nat.le_refl _) _, by simpa using HLT9.out, HS.out⟩
          case measure => simp [intOf]; omega
        · obtain rfl : k = s'.size := by omega
          have hcb := run_convert_bytes_back (P := Try.prog) w9 54 9 5 ⟨g8, 0, none⟩ c8 (s'.data.toList.map (fun c => byteOf m c.toNat)) Try.underlying54 Try.underlying5 Try.underlying9 (fun j hj => by
            have hj' : j < s'.size := by rw [List.length_map, size_data] at hj; exact hj
            have := (HBR9.out j hj').1
            rw [add_plain', Nat.zero_add, this]
            have hj2 : j < s'.data.toList.length := by rw [size_data]; exact hj'
            unfold bt
            rw [if_pos hj']
            have hj3 : j < s'.data.size := hj'
            simp
            rw [Array.getElem?_eq_getElem hj3]
            rfl)
          rw [List.length_map, size_data] at hcb
          obtain ⟨ot, hot⟩ : ∃ ot : ByteArray, ot = ⟨(s'.data.toList.map (fun c => byteOf m c.toNat)).toArray⟩ := ⟨_, rfl⟩
          rw [← hot] at hcb ⊢
          have heq := eqB_true (rfl : ot = ot)
          clear hot
          go_wp2_with fail
          go_returns
          exact ⟨by first | rfl | simp, L7.out.bel.trans (HBE.out.mono L7.out.bel.size)⟩
end Go.Proofs.Ythjnkpoalbddkaa
