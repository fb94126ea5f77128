/- Fr4, REn of this seat, in one text. -/
import Derived.Test.YtfjhcoeehjephaaFr1Me
import Derived.Deep.RegionHeld3
import Derived.Test.YtfjhcoeehjephaaFreeMe
/- The reference's from: sets; any tree. -/
namespace Go.Proofs.Ytfjhcoeehjephaa
open Go.RowKit
attribute [local go_sem ↓] Go.wp_at_zero Go.wp_at_succ

theorem set_skip {s : ByteArray} {t : Tr} {X O : Nat → Bool} {i : Nat} (h : ∀ j, O j = true ↔ ∃ i', i' < i ∧ X i' = true ∧ setL s t i' j) (hn : X i = false ∨ hasB t.s0 t.s1 t.s2 t.s3 (byteAt s i) = false) (j : Nat) :
    O j = true ↔ ∃ i', i' < i + 1 ∧ X i' = true ∧ setL s t i' j := by
  rw [h j]
  constructor
  · rintro ⟨i', h1, h2⟩; exact ⟨i', by omega, h2⟩
  · rintro ⟨i', h1, h2, h3⟩
    by_cases e : i' = i
    · subst e
      rcases hn with h9 | h9
      · rw [h9] at h2; cases h2
      · have := h3.2.1
        rw [h9] at this; cases this
    · exact ⟨i', by omega, h2, h3⟩
theorem set_put {s : ByteArray} {t : Tr} {X O : Nat → Bool} {i : Nat} (h : ∀ j, O j = true ↔ ∃ i', i' < i ∧ X i' = true ∧ setL s t i' j) (hi : i < s.size) (hx : X i = true) (hh : hasB t.s0 t.s1 t.s2 t.s3 (byteAt s i) = true) (j : Nat) :
    updB O (i + 1) true j = true ↔ ∃ i', i' < i + 1 ∧ X i' = true ∧ setL s t i' j := by
  unfold updB
  by_cases e : j = i + 1
  · rw [if_pos e]
    exact ⟨fun _ => ⟨i, by omega, hx, hi, hh, e⟩, fun _ => rfl⟩
  · rw [if_neg e, h j]
    constructor
    · rintro ⟨i', h1, h2⟩; exact ⟨i', by omega, h2⟩
    · rintro ⟨i', h1, h2, h3⟩
      by_cases e2 : i' = i
      · subst e2; exact absurd h3.2.2 e
      · exact ⟨i', by omega, h2, h3⟩

set_option maxRecDepth 100000 in
set_option maxHeartbeats 16000000 in
theorem from_set (t : Tr) (hk : t.kind = 1) : FromAt t := by
  intro s L X A c TA n tc W hs hL hX hp ht hsh hwf
  have e1 : (t.kind == 1) = true := by simp [hk]
  have hfb := FB.start (t := t) (TA := TA) (n := n) (tc := tc) hp
  obtain ⟨W2, hW2⟩ : ∃ W2, W2 = (W.alloc (tbox t TA n tc)).alloc (.cells (Array.replicate L (.int .i64 0)) 3) := ⟨_, rfl⟩
  rw [← hW2] at hfb
  have b0 := hfb.box.cell 0
  simp at b0
  have hle := ht
  have hlg := lang_set (s := s) hk
  obtain ⟨u0, u1, u2, u3⟩ : U64w t.s0 ∧ U64w t.s1 ∧ U64w t.s2 ∧ U64w t.s3 := by cases hwf with | mk h0 h1 h2 h3 _ => exact ⟨h0, h1, h2, h3⟩
  have HU := Lib.hid (fun (c : Nat) (hc : c < 256) (w : World) => rhas_any t.s0 t.s1 t.s2 t.s3 u0 u1 u2 u3 c hc w)
  have HL := Lib.hid (And.intro hL (And.intro hX hs))
  have HLG := Lib.hid hlg
  have HFB := Lib.hid hfb
  have HW2 := Lib.hid hW2
  have hL2 : L ≤ 1001 := by omega
  have hmk := make_one 120 3 (.int .i64 0) 8 Try.underlying120 info3 (by rfl) L (by omega) (by omega)
  clear hk hL hX hp ht hsh hwf hfb hlg u0 u1 u2 u3 hle
  go_enter Try.func73, Try.ntmps73
  go_upto_region 2 with (fail)
  rw [← HW2.out]
  clear HW2 hW2 hmk
  go_upto_region 5 with (fail)
  clear b0
  go_loopw [8] (fun iv wr => ∃ (i : Nat) (O : Nat → Bool), i ≤ s.size ∧ iv = .int .i64 (i : Int) ∧ (∀ j, O j = true ↔ ∃ i', i' < i ∧ X i' = true ∧ setL s t i' j) ∧ Blk wr (W.heap.size + 1) 3 (rowV O L) ∧ Below (W.heap.size + 1) W2 wr) (fun iv _ => s.size - (intOf iv).toNat)
  case atStart => exact ⟨0, fun _ => false, by omega, rfl, fun j => by simp, HFB.out.out, Below.refl _ _⟩
  case round =>
    obtain ⟨i, O, his, rfl, hO, hbk, hbe⟩ := hrel
    obtain ⟨w5, rfl⟩ : ∃ w5 : World, w5 = wr := ⟨_, rfl⟩
    have HQ := Lib.hid (And.intro hO (And.intro hbk hbe))
    by_cases hlt : i < s.size
    · have hiL : i < L := by have := HL.out.1; omega
      obtain ⟨ga, oa, rfl, hga, hca⟩ := (HFB.out.inp.below (hbe.mono (Nat.le_succ _))) (by have := HL.out.1; omega)
      have c0 := hca i 0 (by have := HL.out.1; omega) (by omega)
      simp only [Nat.mul_one, Nat.add_zero] at c0
      have hbx := HFB.out.box.below hbe (by omega)
      have b1 := hbx.cell 1
      have b2 := hbx.cell 2
      have b3 := hbx.cell 3
      have b4 := hbx.cell 4
      simp at b1 b2 b3 b4
      have hidx := index_at s i hlt
      obtain ⟨xi, hxi⟩ : ∃ xi, xi = X i := ⟨_, rfl⟩
      rw [← hxi] at c0
      have HX := Lib.hid hxi
      have HBX := Lib.hid hbx
      clear hca hxi hbx
      cases xi
      · rw [bi_false] at c0
        clear hO hbk hbe
        go_upto_region 7 with (fail)
        go_quiet (fail)
        go_wp2_with fail
        go_roundw
        case rel => exact ⟨i + 1, O, by omega, by go_num, fun j => set_skip HQ.out.1 (.inl HX.out.symm) j, HQ.out.2.1.drewN _, below_drewN HQ.out.2.2 _⟩
        case measure => simp [intOf]; omega
      · rw [bi_true] at c0
        clear hO hbk hbe
        obtain ⟨hb, hhb⟩ : ∃ hb, hb = hasB t.s0 t.s1 t.s2 t.s3 (byteAt s i) := ⟨_, rfl⟩
        have HHAS := Lib.hid (HU.out (byteAt s i) (byteAt_lt s i))
        rw [← hhb] at HHAS
        have HHB := Lib.hid hhb
        clear hhb
        go_upto_region 7 with (fail)
        go_region_held3 (fun W' => W'.cell? ⟨ga, oa + i, none⟩ = some (.int .i64 1) ∧ W'.cell? ⟨W.heap.size, 1, none⟩ = some (.int .u64 t.s0) ∧ W'.cell? ⟨W.heap.size, 2, none⟩ = some (.int .u64 t.s1) ∧ W'.cell? ⟨W.heap.size, 3, none⟩ = some (.int .u64 t.s2) ∧ W'.cell? ⟨W.heap.size, 4, none⟩ = some (.int .u64 t.s3))
          (first
            | assumption
            | exact ⟨c0, b1, b2, b3, b4⟩
            | (go_split_ands; exact ⟨cell_al (by assumption) _, cell_al (by assumption) _, cell_al (by assumption) _, cell_al (by assumption) _, cell_al (by assumption) _⟩))
          (first
            | (go_at_call 42; refine (HHAS.out _).mono ?_; rintro e w9 ⟨rfl, rfl⟩))
        have h7 := HQ.out.2.1.alloc (.cells #[.int .u64 t.s0, .int .u64 t.s1, .int .u64 t.s2, .int .u64 t.s3] 46)
        have h8 := HQ.out.2.2.alloc (Nat.le_of_lt HQ.out.2.1.lt) (.cells #[.int .u64 t.s0, .int .u64 t.s1, .int .u64 t.s2, .int .u64 t.s3] 46)
        have HR := Lib.hid (show Blk ((w5.alloc (.cells #[.int .u64 t.s0, .int .u64 t.s1, .int .u64 t.s2, .int .u64 t.s3] 46)).drew) (W.heap.size + 1) 3 (rowV O L) ∧ Below (W.heap.size + 1) W2 ((w5.alloc (.cells #[.int .u64 t.s0, .int .u64 t.s1, .int .u64 t.s2, .int .u64 t.s3] 46)).drew) from ⟨h7, h8.drew⟩)
        clear h7 h8 c0 b1 b2 b3 b4
        go_split_ands
        generalize (w5.alloc (.cells #[.int .u64 t.s0, .int .u64 t.s1, .int .u64 t.s2, .int .u64 t.s3] 46)).drew = w7 at HR ⊢
        cases hb
        · go_wp2_with fail
          go_roundw
          case rel => exact ⟨i + 1, O, by omega, by go_num, fun j => set_skip HQ.out.1 (.inr HHB.out.symm) j, HR.out.1, HR.out.2⟩
          case measure => simp [intOf]; omega
        · have c1 := HR.out.1.cell (i + 1)
          rw [rowV_get _ (by have := HL.out.1; omega)] at c1
          have c2 := HR.out.1.frozen (i + 1)
          have hil : i + 1 < L := by have := HL.out.1; omega
          go_wp2_with fail
          go_roundw
          case rel => exact ⟨i + 1, updB O (i + 1) true, by omega, by go_num, fun j => set_put HQ.out.1 hlt HX.out.symm HHB.out.symm j, HR.out.1.put (i + 1) true, below_setCell_same HR.out.2 (Nat.le_refl _) _⟩
          case measure => simp [intOf]; omega
    · obtain rfl : i = s.size := by omega
      clear hO hbk hbe
      go_wp2_with fail
      go_returns
      refine ⟨_, O, rfl, by omega, HQ.out.2.1, ?_, HFB.out.bel.trans (HQ.out.2.2.mono (Nat.le_succ _))⟩
      rw [HLG.out]
      intro j
      rw [HQ.out.1 j]
      constructor
      · rintro ⟨i', _, h2, h3⟩; exact ⟨i', h2, h3⟩
      · rintro ⟨i', h2, h3⟩; exact ⟨i', h3.1, h2, h3⟩

/-- what the reference's from says of any tree -/
theorem from_any (t : Tr) : FromAt t := by
  induction t using Tr.ind with
  | h t ih =>
    intro s L X A c TA n tc W hs hL hX hp ht hsh
    have hok := hsh.ok
    have hk : t.kind = 1 ∨ t.kind = 2 ∨ t.kind = 3 ∨ t.kind = 4 := by
      unfold OkT at hok
      omega
    rcases hk with hk | hk | hk | hk
    · exact from_set t hk s L X A c TA n tc W hs hL hX hp ht hsh
    · exact from_cat t hk ih s L X A c TA n tc W hs hL hX hp ht hsh
    · exact from_alt t hk ih s L X A c TA n tc W hs hL hX hp ht hsh
    · exact from_rep t hk (repd_any t hk ih) s L X A c TA n tc W hs hL hX hp ht hsh
end Go.Proofs.Ytfjhcoeehjephaa
/- The reference's Ends. -/
namespace Go.Proofs.Ytfjhcoeehjephaa
open Go.RowKit
attribute [local go_sem ↓] Go.wp_at_zero Go.wp_at_succ

/-- the places from some on -/
theorem outsTo_from (P : Nat → Bool) (p0 m : Nat) (h : ∀ j, j < p0 → P j = false) : outsTo P 0 (p0 + m) = outsTo (fun k => P (p0 + k)) p0 m := by
  induction m with
  | zero =>
    rw [Nat.add_zero]
    have : ∀ q, q ≤ p0 → outsTo P 0 q = [] := fun q => by
      induction q with
      | zero => intro _; rfl
      | succ q ih =>
        intro hq
        rw [outsTo_next, h q (by omega), if_neg (by decide)]
        exact ih (by omega)
    rw [this p0 (Nat.le_refl _)]
    rfl
  | succ m ih =>
    rw [Nat.add_succ, Nat.succ_eq_add_one, outsTo_next, outsTo_next, ih]
    simp only [Nat.zero_add]
theorem outsTo_congr {P Q : Nat → Bool} (p0 m : Nat) (h : ∀ k, k < m → P k = Q k) : outsTo P p0 m = outsTo Q p0 m := by
  induction m with
  | zero => rfl
  | succ m ih => rw [outsTo_next, outsTo_next, h m (by omega), ih (fun k hk => h k (by omega))]
open Classical in
/-- where a tree may end -/
noncomputable def langB (s : ByteArray) (t : Tr) (p0 k : Nat) : Bool := decide (t.lang s p0 (p0 + k))
noncomputable def endsT (s : ByteArray) (t : Tr) (p0 : Nat) : List Int := outsTo (langB s t p0) p0 (s.size + 1 - p0)
theorem endsT_of {s : ByteArray} {t : Tr} {p0 : Nat} {O : Nat → Bool} (hsh : Shp t) (hp : p0 ≤ s.size) (h : ∀ j, O j = true ↔ t.lang s p0 j) : outsTo O 0 (s.size + 1) = endsT s t p0 := by
  have h2 : s.size + 1 = p0 + (s.size + 1 - p0) := by omega
  rw [h2, outsTo_from O p0 _ (fun j hj => by
    cases h3 : O j
    · rfl
    · have := (lang_fwd s t hsh p0 j ((h j).1 h3)).1
      omega)]
  unfold endsT
  refine outsTo_congr p0 _ (fun k _ => ?_)
  unfold langB
  apply Bool.eq_iff_iff.2
  rw [h (p0 + k)]
  simp
theorem endsT_len (s : ByteArray) (t : Tr) (p0 : Nat) : (endsT s t p0).length ≤ s.size + 1 := by
  unfold endsT
  exact Nat.le_trans (outsTo_len _ _ _) (by omega)

set_option maxRecDepth 100000 in
set_option maxHeartbeats 16000000 in
theorem rends_any (t : Tr) (s : ByteArray) (p0 : Nat) (TA : Option Addr) (n tc : Nat) (W : World) (hs : s.size ≤ 1000) (hp : p0 ≤ s.size) (ht : TrIn W t TA n) (hsh : Shp t) (hwf : TrWf t) :
    Calls Try.prog 49 #[.agg #[.int .i64 t.kind, .int .u64 t.s0, .int .u64 t.s1, .int .u64 t.s2, .int .u64 t.s3, .int .i64 t.lo, .int .i64 t.hi, .slice TA n tc], .string s, .int .i64 (p0 : Int)] W fun e W' =>
      ∃ A c, e = .returned (.slice A (endsT s t p0).length c) ∧ Arr W' W'.heap.size 1 A (endsT s t p0).length (NumC .i64 (endsT s t p0)) ∧ Below W.heap.size W W' := by
  obtain ⟨i3, hi3, hz3, hsz3, hbt3⟩ := info_parts info3
  have hmk : ∀ W, (Instr.makeSlice 120 (.int .i64 ((s.size : Int) + 1)) (.int .i64 ((s.size : Int) + 1))).run Try.prog W = .ok (.slice (some ⟨W.heap.size, 0, none⟩) (s.size + 1) (s.size + 1)) (W.alloc (.cells (Array.replicate (s.size + 1) (.int .i64 0)) 3)) :=
    fun W => by have := make_one 120 3 (.int .i64 0) 8 Try.underlying120 info3 (by rfl) (s.size + 1) (by omega) (by omega) W; simpa using this
  obtain ⟨W2, hW2⟩ : ∃ W2, W2 = (W.alloc (tbox t TA n tc)).alloc (.cells (Array.replicate (s.size + 1) (.int .i64 0)) 3) := ⟨_, rfl⟩
  have hb2 : Below W.heap.size W W2 := by rw [hW2]; exact ((Below.refl _ _).alloc (Nat.le_refl _) _).alloc (by simp) _
  have hbx : Blk W2 W.heap.size 49 [.int .i64 t.kind, .int .u64 t.s0, .int .u64 t.s1, .int .u64 t.s2, .int .u64 t.s3, .int .i64 t.lo, .int .i64 t.hi, .slice TA n tc] := by rw [hW2]; exact (Blk.new W 49 _).alloc _
  have hro : Blk W2 (W.heap.size + 1) 3 (rowV (fun _ => false) (s.size + 1)) := by
    have := blk_made (W.alloc (tbox t TA n tc)) (s.size + 1)
    rw [World.size_alloc] at this
    rw [hW2]; exact this
  have c1 := hro.cell p0
  rw [rowV_get _ (by omega)] at c1
  have c2 := hro.frozen p0
  have hpl : p0 < s.size + 1 := by omega
  obtain ⟨W3, hW3⟩ : ∃ W3, W3 = (W2.setCell ⟨W.heap.size + 1, p0, none⟩ (.int .i64 1)).alloc (.cells #[] 3) := ⟨_, rfl⟩
  have hr3 : Blk W3 (W.heap.size + 1) 3 (rowV (updB (fun _ => false) p0 true) (s.size + 1)) := by rw [hW3]; exact (hro.put p0 true).alloc _
  have hbx3 := (hbx.other (show W.heap.size ≠ W.heap.size + 1 by omega) p0 (.int .i64 1)).alloc (.cells #[] 3)
  have hb3 : Below W.heap.size W W3 := by rw [hW3]; exact (below_setCell_same hb2 (by omega) _).alloc (by have := hbx.lt; simp; omega) _
  have hs3 : W3.heap.size = W.heap.size + 3 := by rw [hW3, hW2]; simp
  have hown : W3.ownsRow (W.heap.size + 2) 3 1 (.slice (some ⟨W.heap.size + 2, 0, none⟩) 0 0) 0 [] := by
    have h9 := World.ownsRow_made (W2.setCell ⟨W.heap.size + 1, p0, none⟩ (.int .i64 1)) #[] 0 (base := W.heap.size + 2) (size := 1) (e := 3) (by rw [hW2]; simp) (by simp [maxLen]) rfl
    rw [hW3]
    have h8 : (W2.setCell ⟨W.heap.size + 1, p0, none⟩ (.int .i64 1)).heap.size = W.heap.size + 2 := by rw [hW2]; simp
    rw [h8] at h9
    exact h9
  rw [← hW3] at hbx3
  have d0 := hbx3.cell 0
  have d1 := hbx3.cell 1
  have d2 := hbx3.cell 2
  have d3 := hbx3.cell 3
  have d4 := hbx3.cell 4
  have d5 := hbx3.cell 5
  have d6 := hbx3.cell 6
  have d7 := hbx3.cell 7
  simp at d0 d1 d2 d3 d4 d5 d6 d7
  have h8 : (W2.setCell ⟨W.heap.size + 1, p0, none⟩ (.int .i64 1)).heap.size = W.heap.size + 2 := by rw [hW2]; simp
  have hsup : Sup (s.size + 1) (updB (fun _ => false) p0 true) := fun j hj => by
    unfold updB at hj
    by_cases e : j = p0
    · omega
    · rw [if_neg e] at hj; cases hj
  have HCALL := Lib.hid (from_any t s (s.size + 1) _ (some ⟨W.heap.size + 1, 0, none⟩) (s.size + 1) TA n tc W3 hs rfl hsup (PIn.of_blk hr3) (ht.keep hb3) hsh hwf)
  have HE := Lib.hid (fun (O : Nat → Bool) h => endsT_of (O := O) hsh hp h)
  have HEL := Lib.hid (endsT_len s t p0)
  have HW2 := Lib.hid hW2
  have HW3 := Lib.hid hW3
  have HB3 := Lib.hid hb3
  have HOWN := Lib.hid hown
  clear ht hsh hwf hW2 hb2 hbx hro hr3 hbx3 hb3 hown hsup hp hW3
  have hsz0 : (0 : Nat) ≤ W3.heap.size := Nat.zero_le _
  go_enter Try.func49, Try.ntmps49
  go_upto_region 2 with (fail)
  rw [← HW2.out]
  clear HW2 hmk
  go_upto_region 4 with (fail)
  rw [← HW3.out]
  clear HW3 c1 c2 h8
  go_upto_region 5 with (go_at_call 73; refine HCALL.out.mono ?_; rintro e w5 ⟨g, O, rfl, hg, hblk, himg, hb5⟩; have H5 := Lib.hid (And.intro hblk (And.intro himg (And.intro hb5 hg))); clear hblk himg hb5 hg)
  clear d0 d1 d2 d3 d4 d5 d6 d7
  have hgb := H5.out.1.lt
  have hg5 := H5.out.2.2.2
  have how5 : w5.ownsRow (W.heap.size + 2) 3 1 (.slice (some ⟨W.heap.size + 2, 0, none⟩) 0 0) 0 [] := own_move HOWN.out (fun b o hb ho _ => (H5.out.2.2.1.block b (HOWN.out.lt b hb).2).trans ho)
  have HO5 := Lib.hid how5
  clear how5
  go_loopw [8, 24] (fun ov iv wr => ∃ k, k ≤ s.size + 1 ∧ iv = .int .i64 (k : Int) ∧ wr.ownsRow (W.heap.size + 2) 3 1 ov (outsTo O 0 k).length (numsV .i64 (outsTo O 0 k)) ∧ Blk wr g 3 (rowV O (s.size + 1)) ∧ Below W.heap.size W wr ∧ ov.ownBlock ≠ some g) (fun _ iv _ => s.size + 1 - (intOf iv).toNat)
  case atStart => exact ⟨0, by omega, rfl, HO5.out, H5.out.1, HB3.out.trans (H5.out.2.2.1.mono HB3.out.size), fun e => by
    have : W.heap.size + 2 = g := by simpa [Value.ownBlock] using e
    omega⟩
  case round =>
    obtain ⟨k, hk, rfl, hown, hbk, hbl, hsep⟩ := hrel
    obtain ⟨w3, rfl⟩ : ∃ w3 : World, w3 = wr := ⟨_, rfl⟩
    obtain ⟨v, rfl⟩ : ∃ v : Value, v = u8 := ⟨_, rfl⟩
    have HQ := Lib.hid (And.intro hown (And.intro hbk (And.intro hbl hsep)))
    by_cases hlt : k < s.size + 1
    · have c0 := hbk.cell k
      rw [rowV_get _ hlt] at c0
      have hnx := outsTo_next O 0 k
      rw [Nat.zero_add] at hnx
      obtain ⟨out, hout⟩ : ∃ out, out = outsTo O 0 k := ⟨_, rfl⟩
      have hol : out.length ≤ 1001 := by have := outsTo_len O 0 k; rw [hout]; omega
      obtain ⟨ok, hok⟩ : ∃ ok, ok = O k := ⟨_, rfl⟩
      rw [← hok] at c0 hnx
      rw [← hout] at hnx
      have ho2 := HQ.out.1
      rw [← hout] at ho2
      have HO2 := Lib.hid ho2
      have HNX := Lib.hid hnx
      have hszl := hbl.size
      clear hown hbk hbl hsep hok hnx ho2
      cases ok
      · rw [bi_false] at c0
        go_wp2_with fail
        go_roundw
        case rel =>
          refine ⟨k + 1, by omega, by go_num, ?_, HQ.out.2.1, HQ.out.2.2.1, HQ.out.2.2.2⟩
          have := HNX.out
          rw [if_neg (by decide)] at this
          rw [this]; exact HO2.out
        case measure => simp [intOf]; omega
      · rw [bi_true] at c0
        have hcn := cell_one_new w3 (.int .i64 (k : Int)) 3
        have hgl := HQ.out.2.1.lt
        go_wp2_with (at_builtin; (refine wpList_append_lies _ rfl _ _ 36 rfl (W.heap.size + 2) 3 i3 (.int .i64 0) 1 8 Try.underlying36 hi3 hz3 hsz3 hbt3 rfl (by decide) v _ _ rfl (HO2.out.alloc _) ⟨w3.heap.size, 0, none⟩ 1 1 [.int .i64 (k : Int)] rfl rfl hcn (by simp [Value.oneCell']) (by omega) (by unfold maxLen; omega) (by omega) (by simp; omega) _ rfl ?_; intro g5 c5 w5 hown5 hgrow5 hat5 _))
        go_roundw
        case rel =>
          refine ⟨k + 1, by omega, by go_num, ?_, (HQ.out.2.1.alloc _).same (hgrow5.block _ (by simp; omega) (fun e => HQ.out.2.2.2 e.symm)), (HQ.out.2.2.1.alloc HQ.out.2.2.1.size _).grown hgrow5 (by simp; omega) (fun b e => by have := (HO2.out.lt b e).1; omega), fun e => ?_⟩
          · have := HNX.out
            rw [if_pos rfl] at this
            rw [this, List.length_append, numsV_snoc]
            subst hout
            exact hown5
          · have e9 : g5 = g := by simpa [Value.ownBlock] using e
            rcases hat5 with hat5 | hat5
            · exact HQ.out.2.2.2 (e9 ▸ hat5)
            · simp at hat5; omega
        case measure => simp [intOf]; omega
    · obtain rfl : k = s.size + 1 := by omega
      have hend := HE.out O (fun j => by
        rw [H5.out.2.1 j]
        constructor
        · rintro ⟨i, h1, h2⟩
          unfold updB at h1
          by_cases e : i = p0
          · rw [← e]; exact h2
          · rw [if_neg e] at h1; cases h1
        · exact fun h => ⟨p0, by unfold updB; rw [if_pos rfl], h⟩)
      rw [hend] at hown
      have HOW := Lib.hid hown
      clear hown hbk hbl hsep hend
      obtain ⟨A, c, rfl⟩ := own_sl HOW.out
      go_wp2_with fail
      go_returns
      exact ⟨A, c, rfl, own_num HOW.out, HQ.out.2.2.1⟩
end Go.Proofs.Ytfjhcoeehjephaa
