/- The reference's from: sets; any tree. -/
import Derived.Test.YtfjhcoeehjephaaFr1Mc
import Derived.Deep.RegionHeld3
namespace Go.Proofs.Ytfjhcoeehjephaa
open Go.RowKit
attribute [local go_sem ↓] Go.wp_at_zero Go.wp_at_succ

theorem set_skip {s : ByteArray} {t : Tr} {X O : Nat → Bool} {i : Nat} (h : ∀ j, O j = true ↔ ∃ i', i' < i ∧ X i' = true ∧ setL s t i' j) (hn : X i = false ∨ hasB t.s0 t.s1 t.s2 t.s3 (byteAt s i) = false) (j : Nat) :
    O j = true ↔ ∃ i', i' < i + 1 ∧ X i' = true ∧ setL s t i' j := by
  rw [h j]
  constructor
  · rintro ⟨i', h1, h2⟩; exact ⟨i', by omega, h2⟩
  · rintro ⟨i', h1, h2, h3⟩
    by_cases e : i' = i
    · subst e
      rcases hn with h9 | h9
      · rw [h9] at h2; cases h2
      · have := h3.2.1
        rw [h9] at this; cases this
    · exact ⟨i', by omega, h2, h3⟩
theorem set_put {s : ByteArray} {t : Tr} {X O : Nat → Bool} {i : Nat} (h : ∀ j, O j = true ↔ ∃ i', i' < i ∧ X i' = true ∧ setL s t i' j) (hi : i < s.size) (hx : X i = true) (hh : hasB t.s0 t.s1 t.s2 t.s3 (byteAt s i) = true) (j : Nat) :
    updB O (i + 1) true j = true ↔ ∃ i', i' < i + 1 ∧ X i' = true ∧ setL s t i' j := by
  unfold updB
  by_cases e : j = i + 1
  · rw [if_pos e]
    exact ⟨fun _ => ⟨i, by omega, hx, hi, hh, e⟩, fun _ => rfl⟩
  · rw [if_neg e, h j]
    constructor
    · rintro ⟨i', h1, h2⟩; exact ⟨i', by omega, h2⟩
    · rintro ⟨i', h1, h2, h3⟩
      by_cases e2 : i' = i
      · subst e2; exact absurd h3.2.2 e
      · exact ⟨i', by omega, h2, h3⟩

set_option maxRecDepth 100000 in
set_option maxHeartbeats 16000000 in
theorem from_set (t : Tr) (hk : t.kind = 1) : FromAt t := by
  intro s L X A c TA n tc W hs hL hX hp ht hsh hwf
  have e1 : (t.kind == 1) = true := by simp [hk]
  have hfb := FB.start (t := t) (TA := TA) (n := n) (tc := tc) hp
  obtain ⟨W2, hW2⟩ : ∃ W2, W2 = (W.alloc (tbox t TA n tc)).alloc (.cells (Array.replicate L (.int .i64 0)) 3) := ⟨_, rfl⟩
  rw [← hW2] at hfb
  have b0 := hfb.box.cell 0
  simp at b0
  have hle := ht
  have hlg := lang_set (s := s) hk
  obtain ⟨u0, u1, u2, u3⟩ : U64w t.s0 ∧ U64w t.s1 ∧ U64w t.s2 ∧ U64w t.s3 := by cases hwf with | mk h0 h1 h2 h3 _ => exact ⟨h0, h1, h2, h3⟩
  have HU := Lib.hid (fun (c : Nat) (hc : c < 256) (w : World) => rhas_any t.s0 t.s1 t.s2 t.s3 u0 u1 u2 u3 c hc w)
  have HL := Lib.hid (And.intro hL (And.intro hX hs))
  have HLG := Lib.hid hlg
  have HFB := Lib.hid hfb
  have HW2 := Lib.hid hW2
  have hL2 : L ≤ 1001 := by omega
  have hmk := make_one 120 3 (.int .i64 0) 8 Try.underlying120 info3 (by rfl) L (by omega) (by omega)
  clear hk hL hX hp ht hsh hwf hfb hlg u0 u1 u2 u3 hle
  go_enter Try.func73, Try.ntmps73
  go_upto_region 2 with (fail)
  rw [← HW2.out]
  clear HW2 hW2 hmk
  go_upto_region 5 with (fail)
  clear b0
  go_loopw [8] (fun iv wr => ∃ (i : Nat) (O : Nat → Bool), i ≤ s.size ∧ iv = .int .i64 (i : Int) ∧ (∀ j, O j = true ↔ ∃ i', i' < i ∧ X i' = true ∧ setL s t i' j) ∧ Blk wr (W.heap.size + 1) 3 (rowV O L) ∧ Below (W.heap.size + 1) W2 wr) (fun iv _ => s.size - (intOf iv).toNat)
  case atStart => exact ⟨0, fun _ => false, by omega, rfl, fun j => by simp, HFB.out.out, Below.refl _ _⟩
  case round =>
    obtain ⟨i, O, his, rfl, hO, hbk, hbe⟩ := hrel
    obtain ⟨w5, rfl⟩ : ∃ w5 : World, w5 = wr := ⟨_, rfl⟩
    have HQ := Lib.hid (And.intro hO (And.intro hbk hbe))
    by_cases hlt : i < s.size
    · have hiL : i < L := by have := HL.out.1; omega
      obtain ⟨ga, oa, rfl, hga, hca⟩ := (HFB.out.inp.below (hbe.mono (Nat.le_succ _))) (by have := HL.out.1; omega)
      have c0 := hca i 0 (by have := HL.out.1; omega) (by omega)
      simp only [Nat.mul_one, Nat.add_zero] at c0
      have hbx := HFB.out.box.below hbe (by omega)
      have b1 := hbx.cell 1
      have b2 := hbx.cell 2
      have b3 := hbx.cell 3
      have b4 := hbx.cell 4
      simp at b1 b2 b3 b4
      have hidx := index_at s i hlt
      obtain ⟨xi, hxi⟩ : ∃ xi, xi = X i := ⟨_, rfl⟩
      rw [← hxi] at c0
      have HX := Lib.hid hxi
      have HBX := Lib.hid hbx
      clear hca hxi hbx
      cases xi
      · rw [bi_false] at c0
        clear hO hbk hbe
        go_upto_region 7 with (fail)
        go_quiet (fail)
        go_wp2_with fail
        go_roundw
        case rel => exact ⟨i + 1, O, by omega, by go_num, fun j => set_skip HQ.out.1 (.inl HX.out.symm) j, HQ.out.2.1.drewN _, below_drewN HQ.out.2.2 _⟩
        case measure => simp [intOf]; omega
      · rw [bi_true] at c0
        clear hO hbk hbe
        obtain ⟨hb, hhb⟩ : ∃ hb, hb = hasB t.s0 t.s1 t.s2 t.s3 (byteAt s i) := ⟨_, rfl⟩
        have HHAS := Lib.hid (HU.out (byteAt s i) (byteAt_lt s i))
        rw [← hhb] at HHAS
        have HHB := Lib.hid hhb
        clear hhb
        go_upto_region 7 with (fail)
        go_region_held3 (fun W' => W'.cell? ⟨ga, oa + i, none⟩ = some (.int .i64 1) ∧ W'.cell? ⟨W.heap.size, 1, none⟩ = some (.int .u64 t.s0) ∧ W'.cell? ⟨W.heap.size, 2, none⟩ = some (.int .u64 t.s1) ∧ W'.cell? ⟨W.heap.size, 3, none⟩ = some (.int .u64 t.s2) ∧ W'.cell? ⟨W.heap.size, 4, none⟩ = some (.int .u64 t.s3))
          (first
            | assumption
            | exact ⟨c0, b1, b2, b3, b4⟩
            | (go_split_ands; exact ⟨cell_al (by assumption) _, cell_al (by assumption) _, cell_al (by assumption) _, cell_al (by assumption) _, cell_al (by assumption) _⟩))
          (first
            | (go_at_call 42; refine (HHAS.out _).mono ?_; rintro e w9 ⟨rfl, rfl⟩))
        have h7 := HQ.out.2.1.alloc (.cells #[.int .u64 t.s0, .int .u64 t.s1, .int .u64 t.s2, .int .u64 t.s3] 46)
        have h8 := HQ.out.2.2.alloc (Nat.le_of_lt HQ.out.2.1.lt) (.cells #[.int .u64 t.s0, .int .u64 t.s1, .int .u64 t.s2, .int .u64 t.s3] 46)
        have HR := Lib.hid (show Blk ((w5.alloc (.cells #[.int .u64 t.s0, .int .u64 t.s1, .int .u64 t.s2, .int .u64 t.s3] 46)).drew) (W.heap.size + 1) 3 (rowV O L) ∧ Below (W.heap.size + 1) W2 ((w5.alloc (.cells #[.int .u64 t.s0, .int .u64 t.s1, .int .u64 t.s2, .int .u64 t.s3] 46)).drew) from ⟨h7, h8.drew⟩)
        clear h7 h8 c0 b1 b2 b3 b4
        go_split_ands
        generalize (w5.alloc (.cells #[.int .u64 t.s0, .int .u64 t.s1, .int .u64 t.s2, .int .u64 t.s3] 46)).drew = w7 at HR ⊢
        cases hb
        · go_wp2_with fail
          go_roundw
          case rel => exact ⟨i + 1, O, by omega, by go_num, fun j => set_skip HQ.out.1 (.inr HHB.out.symm) j, HR.out.1, HR.out.2⟩
          case measure => simp [intOf]; omega
        · have c1 := HR.out.1.cell (i + 1)
          rw [rowV_get _ (by have := HL.out.1; omega)] at c1
          have c2 := HR.out.1.frozen (i + 1)
          have hil : i + 1 < L := by have := HL.out.1; omega
          go_wp2_with fail
          go_roundw
          case rel => exact ⟨i + 1, updB O (i + 1) true, by omega, by go_num, fun j => set_put HQ.out.1 hlt HX.out.symm HHB.out.symm j, HR.out.1.put (i + 1) true, below_setCell_same HR.out.2 (Nat.le_refl _) _⟩
          case measure => simp [intOf]; omega
    · obtain rfl : i = s.size := by omega
      clear hO hbk hbe
      go_wp2_with fail
      go_returns
      refine ⟨_, O, rfl, by omega, HQ.out.2.1, ?_, HFB.out.bel.trans (HQ.out.2.2.mono (Nat.le_succ _))⟩
      rw [HLG.out]
      intro j
      rw [HQ.out.1 j]
      constructor
      · rintro ⟨i', _, h2, h3⟩; exact ⟨i', h2, h3⟩
      · rintro ⟨i', h2, h3⟩; exact ⟨i', h3.1, h2, h3⟩

/-- what the reference's from says of any tree -/
theorem from_any (t : Tr) : FromAt t := by
  induction t using Tr.ind with
  | h t ih =>
    intro s L X A c TA n tc W hs hL hX hp ht hsh
    have hok := hsh.ok
    have hk : t.kind = 1 ∨ t.kind = 2 ∨ t.kind = 3 ∨ t.kind = 4 := by
      unfold OkT at hok
      omega
    rcases hk with hk | hk | hk | hk
    · exact from_set t hk s L X A c TA n tc W hs hL hX hp ht hsh
    · exact from_cat t hk ih s L X A c TA n tc W hs hL hX hp ht hsh
    · exact from_alt t hk ih s L X A c TA n tc W hs hL hX hp ht hsh
    · exact from_rep t hk (repd_any t hk ih) s L X A c TA n tc W hs hL hX hp ht hsh
end Go.Proofs.Ytfjhcoeehjephaa
