/- The reference's Ends. -/
import Derived.Test.YtfjhcoeehjephaaFr4Mc
import Derived.Test.YtfjhcoeehjephaaFreeMc
namespace Go.Proofs.Ytfjhcoeehjephaa
open Go.RowKit
attribute [local go_sem ↓] Go.wp_at_zero Go.wp_at_succ

/-- the places from some on -/
theorem outsTo_from (P : Nat → Bool) (p0 m : Nat) (h : ∀ j, j < p0 → P j = false) : outsTo P 0 (p0 + m) = outsTo (fun k => P (p0 + k)) p0 m := by
  induction m with
  | zero =>
    rw [Nat.add_zero]
    have : ∀ q, q ≤ p0 → outsTo P 0 q = [] := fun q => by
      induction q with
      | zero => intro _; rfl
      | succ q ih =>
        intro hq
        rw [outsTo_next, h q (by omega), if_neg (by decide)]
        exact ih (by omega)
    rw [this p0 (Nat.le_refl _)]
    rfl
  | succ m ih =>
    rw [Nat.add_succ, Nat.succ_eq_add_one, outsTo_next, outsTo_next, ih]
    simp only [Nat.zero_add]
theorem outsTo_congr {P Q : Nat → Bool} (p0 m : Nat) (h : ∀ k, k < m → P k = Q k) : outsTo P p0 m = outsTo Q p0 m := by
  induction m with
  | zero => rfl
  | succ m ih => rw [outsTo_next, outsTo_next, h m (by omega), ih (fun k hk => h k (by omega))]
open Classical in
/-- where a tree may end -/
noncomputable def langB (s : ByteArray) (t : Tr) (p0 k : Nat) : Bool := decide (t.lang s p0 (p0 + k))
noncomputable def endsT (s : ByteArray) (t : Tr) (p0 : Nat) : List Int := outsTo (langB s t p0) p0 (s.size + 1 - p0)
theorem endsT_of {s : ByteArray} {t : Tr} {p0 : Nat} {O : Nat → Bool} (hsh : Shp t) (hp : p0 ≤ s.size) (h : ∀ j, O j = true ↔ t.lang s p0 j) : outsTo O 0 (s.size + 1) = endsT s t p0 := by
  have h2 : s.size + 1 = p0 + (s.size + 1 - p0) := by omega
  rw [h2, outsTo_from O p0 _ (fun j hj => by
    cases h3 : O j
    · rfl
    · have := (lang_fwd s t hsh p0 j ((h j).1 h3)).1
      omega)]
  unfold endsT
  refine outsTo_congr p0 _ (fun k _ => ?_)
  unfold langB
  apply Bool.eq_iff_iff.2
  rw [h (p0 + k)]
  simp
theorem endsT_len (s : ByteArray) (t : Tr) (p0 : Nat) : (endsT s t p0).length ≤ s.size + 1 := by
  unfold endsT
  exact Nat.le_trans (outsTo_len _ _ _) (by omega)

set_option maxRecDepth 100000 in
set_option maxHeartbeats 16000000 in
theorem rends_any (t : Tr) (s : ByteArray) (p0 : Nat) (TA : Option Addr) (n tc : Nat) (W : World) (hs : s.size ≤ 1000) (hp : p0 ≤ s.size) (ht : TrIn W t TA n) (hsh : Shp t) (hwf : TrWf t) :
    Calls Try.prog 49 #[.agg #[.int .i64 t.kind, .int .u64 t.s0, .int .u64 t.s1, .int .u64 t.s2, .int .u64 t.s3, .int .i64 t.lo, .int .i64 t.hi, .slice TA n tc], .string s, .int .i64 (p0 : Int)] W fun e W' =>
      ∃ A c, e = .returned (.slice A (endsT s t p0).length c) ∧ Arr W' W'.heap.size 1 A (endsT s t p0).length (NumC .i64 (endsT s t p0)) ∧ Below W.heap.size W W' := by
  obtain ⟨i3, hi3, hz3, hsz3, hbt3⟩ := info_parts info3
  have hmk : ∀ W, (Instr.makeSlice 120 (.int .i64 ((s.size : Int) + 1)) (.int .i64 ((s.size : Int) + 1))).run Try.prog W = .ok (.slice (some ⟨W.heap.size, 0, none⟩) (s.size + 1) (s.size + 1)) (W.alloc (.cells (Array.replicate (s.size + 1) (.int .i64 0)) 3)) :=
    fun W => by have := make_one 120 3 (.int .i64 0) 8 Try.underlying120 info3 (by rfl) (s.size + 1) (by omega) (by omega) W; simpa using this
  obtain ⟨W2, hW2⟩ : ∃ W2, W2 = (W.alloc (tbox t TA n tc)).alloc (.cells (Array.replicate (s.size + 1) (.int .i64 0)) 3) := ⟨_, rfl⟩
  have hb2 : Below W.heap.size W W2 := by rw [hW2]; exact ((Below.refl _ _).alloc (Nat.le_refl _) _).alloc (by simp) _
  have hbx : Blk W2 W.heap.size 49 [.int .i64 t.kind, .int .u64 t.s0, .int .u64 t.s1, .int .u64 t.s2, .int .u64 t.s3, .int .i64 t.lo, .int .i64 t.hi, .slice TA n tc] := by rw [hW2]; exact (Blk.new W 49 _).alloc _
  have hro : Blk W2 (W.heap.size + 1) 3 (rowV (fun _ => false) (s.size + 1)) := by
    have := blk_made (W.alloc (tbox t TA n tc)) (s.size + 1)
    rw [World.size_alloc] at this
    rw [hW2]; exact this
  have c1 := hro.cell p0
  rw [rowV_get _ (by omega)] at c1
  have c2 := hro.frozen p0
  have hpl : p0 < s.size + 1 := by omega
  obtain ⟨W3, hW3⟩ : ∃ W3, W3 = (W2.setCell ⟨W.heap.size + 1, p0, none⟩ (.int .i64 1)).alloc (.cells #[] 3) := ⟨_, rfl⟩
  have hr3 : Blk W3 (W.heap.size + 1) 3 (rowV (updB (fun _ => false) p0 true) (s.size + 1)) := by rw [hW3]; exact (hro.put p0 true).alloc _
  have hbx3 := (hbx.other (show W.heap.size ≠ W.heap.size + 1 by omega) p0 (.int .i64 1)).alloc (.cells #[] 3)
  have hb3 : Below W.heap.size W W3 := by rw [hW3]; exact (below_setCell_same hb2 (by omega) _).alloc (by have := hbx.lt; simp; omega) _
  have hs3 : W3.heap.size = W.heap.size + 3 := by rw [hW3, hW2]; simp
  have hown : W3.ownsRow (W.heap.size + 2) 3 1 (.slice (some ⟨W.heap.size + 2, 0, none⟩) 0 0) 0 [] := by
    have h9 := World.ownsRow_made (W2.setCell ⟨W.heap.size + 1, p0, none⟩ (.int .i64 1)) #[] 0 (base := W.heap.size + 2) (size := 1) (e := 3) (by rw [hW2]; simp) (by simp [maxLen]) rfl
    rw [hW3]
    have h8 : (W2.setCell ⟨W.heap.size + 1, p0, none⟩ (.int .i64 1)).heap.size = W.heap.size + 2 := by rw [hW2]; simp
    rw [h8] at h9
    exact h9
  rw [← hW3] at hbx3
  have d0 := hbx3.cell 0
  have d1 := hbx3.cell 1
  have d2 := hbx3.cell 2
  have d3 := hbx3.cell 3
  have d4 := hbx3.cell 4
  have d5 := hbx3.cell 5
  have d6 := hbx3.cell 6
  have d7 := hbx3.cell 7
  simp at d0 d1 d2 d3 d4 d5 d6 d7
  have h8 : (W2.setCell ⟨W.heap.size + 1, p0, none⟩ (.int .i64 1)).heap.size = W.heap.size + 2 := by rw [hW2]; simp
  have hsup : Sup (s.size + 1) (updB (fun _ => false) p0 true) := fun j hj => by
    unfold updB at hj
    by_cases e : j = p0
    · omega
    · rw [if_neg e] at hj; cases hj
  have HCALL := Lib.hid (from_any t s (s.size + 1) _ (some ⟨W.heap.size + 1, 0, none⟩) (s.size + 1) TA n tc W3 hs rfl hsup (PIn.of_blk hr3) (ht.keep hb3) hsh hwf)
  have HE := Lib.hid (fun (O : Nat → Bool) h => endsT_of (O := O) hsh hp h)
  have HEL := Lib.hid (endsT_len s t p0)
  have HW2 := Lib.hid hW2
  have HW3 := Lib.hid hW3
  have HB3 := Lib.hid hb3
  have HOWN := Lib.hid hown
  clear ht hsh hwf hW2 hb2 hbx hro hr3 hbx3 hb3 hown hsup hp hW3
  have hsz0 : (0 : Nat) ≤ W3.heap.size := Nat.zero_le _
  go_enter Try.func49, Try.ntmps49
  go_upto_region 2 with (fail)
  rw [← HW2.out]
  clear HW2 hmk
  go_upto_region 4 with (fail)
  rw [← HW3.out]
  clear HW3 c1 c2 h8
  go_upto_region 5 with (go_at_call 73; refine HCALL.out.mono ?_; rintro e w5 ⟨g, O, rfl, hg, hblk, himg, hb5⟩; have H5 := Lib.hid (And.intro hblk (And.intro himg (And.intro hb5 hg))); clear hblk himg hb5 hg)
  clear d0 d1 d2 d3 d4 d5 d6 d7
  have hgb := H5.out.1.lt
  have hg5 := H5.out.2.2.2
  have how5 : w5.ownsRow (W.heap.size + 2) 3 1 (.slice (some ⟨W.heap.size + 2, 0, none⟩) 0 0) 0 [] := own_move HOWN.out (fun b o hb ho _ => (H5.out.2.2.1.block b (HOWN.out.lt b hb).2).trans ho)
  have HO5 := Lib.hid how5
  clear how5
  go_loopw [8, 24] (fun ov iv wr => ∃ k, k ≤ s.size + 1 ∧ iv = .int .i64 (k : Int) ∧ wr.ownsRow (W.heap.size + 2) 3 1 ov (outsTo O 0 k).length (numsV .i64 (outsTo O 0 k)) ∧ Blk wr g 3 (rowV O (s.size + 1)) ∧ Below W.heap.size W wr ∧ ov.ownBlock ≠ some g) (fun _ iv _ => s.size + 1 - (intOf iv).toNat)
  case atStart => exact ⟨0, by omega, rfl, HO5.out, H5.out.1, HB3.out.trans (H5.out.2.2.1.mono HB3.out.size), fun e => by
    have : W.heap.size + 2 = g := by simpa [Value.ownBlock] using e
    omega⟩
  case round =>
    obtain ⟨k, hk, rfl, hown, hbk, hbl, hsep⟩ := hrel
    obtain ⟨w3, rfl⟩ : ∃ w3 : World, w3 = wr := ⟨_, rfl⟩
    obtain ⟨v, rfl⟩ : ∃ v : Value, v = u8 := ⟨_, rfl⟩
    have HQ := Lib.hid (And.intro hown (And.intro hbk (And.intro hbl hsep)))
    by_cases hlt : k < s.size + 1
    · have c0 := hbk.cell k
      rw [rowV_get _ hlt] at c0
      have hnx := outsTo_next O 0 k
      rw [Nat.zero_add] at hnx
      obtain ⟨out, hout⟩ : ∃ out, out = outsTo O 0 k := ⟨_, rfl⟩
      have hol : out.length ≤ 1001 := by have := outsTo_len O 0 k; rw [hout]; omega
      obtain ⟨ok, hok⟩ : ∃ ok, ok = O k := ⟨_, rfl⟩
      rw [← hok] at c0 hnx
      rw [← hout] at hnx
      have ho2 := HQ.out.1
      rw [← hout] at ho2
      have HO2 := Lib.hid ho2
      have HNX := Lib.hid hnx
      have hszl := hbl.size
      clear hown hbk hbl hsep hok hnx ho2
      cases ok
      · rw [bi_false] at c0
        go_wp2_with fail
        go_roundw
        case rel =>
          refine ⟨k + 1, by omega, by go_num, ?_, HQ.out.2.1, HQ.out.2.2.1, HQ.out.2.2.2⟩
          have := HNX.out
          rw [if_neg (by decide)] at this
          rw [this]; exact HO2.out
        case measure => simp [intOf]; omega
      · rw [bi_true] at c0
        have hcn := cell_one_new w3 (.int .i64 (k : Int)) 3
        have hgl := HQ.out.2.1.lt
        go_wp2_with (at_builtin; (refine wpList_append_lies _ rfl _ _ 36 rfl (W.heap.size + 2) 3 i3 (.int .i64 0) 1 8 Try.underlying36 hi3 hz3 hsz3 hbt3 rfl (by decide) v _ _ rfl (HO2.out.alloc _) ⟨w3.heap.size, 0, none⟩ 1 1 [.int .i64 (k : Int)] rfl rfl hcn (by simp [Value.oneCell']) (by omega) (by unfold maxLen; omega) (by omega) (by simp; omega) _ rfl ?_; intro g5 c5 w5 hown5 hgrow5 hat5 _))
        go_roundw
        case rel =>
          refine ⟨k + 1, by omega, by go_num, ?_, (HQ.out.2.1.alloc _).same (hgrow5.block _ (by simp; omega) (fun e => HQ.out.2.2.2 e.symm)), (HQ.out.2.2.1.alloc HQ.out.2.2.1.size _).grown hgrow5 (by simp; omega) (fun b e => by have := (HO2.out.lt b e).1; omega), fun e => ?_⟩
          · have := HNX.out
            rw [if_pos rfl] at this
            rw [this, List.length_append, numsV_snoc]
            subst hout
            exact hown5
          · have e9 : g5 = g := by simpa [Value.ownBlock] using e
            rcases hat5 with hat5 | hat5
            · exact HQ.out.2.2.2 (e9 ▸ hat5)
            · simp at hat5; omega
        case measure => simp [intOf]; omega
    · obtain rfl : k = s.size + 1 := by omega
      have hend := HE.out O (fun j => by
        rw [H5.out.2.1 j]
        constructor
        · rintro ⟨i, h1, h2⟩
          unfold updB at h1
          by_cases e : i = p0
          · rw [← e]; exact h2
          · rw [if_neg e] at h1; cases h1
        · exact fun h => ⟨p0, by unfold updB; rw [if_pos rfl], h⟩)
      rw [hend] at hown
      have HOW := Lib.hid hown
      clear hown hbk hbl hsep hend
      obtain ⟨A, c, rfl⟩ := own_sl HOW.out
      go_wp2_with fail
      go_returns
      exact ⟨A, c, rfl, own_num HOW.out, HQ.out.2.2.1⟩
end Go.Proofs.Ytfjhcoeehjephaa
