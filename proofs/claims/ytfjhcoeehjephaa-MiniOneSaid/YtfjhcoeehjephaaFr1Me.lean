/- Fr1, Fr2, Fr3 of this seat, in one text. -/
import Derived.Test.YtfjhcoeehjephaaFrPlMe
import Derived.Test.YtfjhcoeehjephaaEndsMe
import Derived.Test.YtfjhcoeehjephaaMkMe
/- The reference's repeated. -/
namespace Go.Proofs.Ytfjhcoeehjephaa
open Go.RowKit
attribute [local go_sem ↓] Go.wp_at_zero Go.wp_at_succ

/-- a row of places, read only -/
def PIn (w : World) (A : Option Addr) (L : Nat) (X : Nat → Bool) : Prop := Arr w w.heap.size 1 A L (fun k _ => .int .i64 (bi (X k)))
theorem PIn.keep {w w' : World} {A : Option Addr} {L : Nat} {X : Nat → Bool} (h : PIn w A L X) (hb : Below w.heap.size w w') : PIn w' A L X := (h.below hb).more hb.size
theorem PIn.of_blk {w : World} {g L : Nat} {O : Nat → Bool} (h : Blk w g 3 (rowV O L)) : PIn w (some ⟨g, 0, none⟩) L O := fun _ => ⟨g, 0, rfl, h.lt, fun k j hk hj => by
  obtain rfl : j = 0 := by omega
  rw [show 0 + (k * 1 + 0) = k by omega, h.cell, rowV_get _ hk]⟩
theorem blk_made (w : World) (L : Nat) : Blk (w.alloc (.cells (Array.replicate L (.int .i64 0)) 3)) w.heap.size 3 (rowV (fun _ => false) L) := by
  have := Blk.new w 3 (rowV (fun _ => false) L)
  rw [← rowV_zero] at this
  exact this
theorem below_setCell_same {B : Nat} {w0 W : World} (h : Below B w0 W) {g k : Nat} (hg : B ≤ g) (v : Value) : Below B w0 (W.setCell ⟨g, k, none⟩ v) := h.setCell (p := ⟨g, k, none⟩) hg v
theorem Blk.put {w : World} {g L : Nat} {O : Nat → Bool} (h : Blk w g 3 (rowV O L)) (k : Nat) (b : Bool) : Blk (w.setCell ⟨g, k, none⟩ (.int .i64 (bi b))) g 3 (rowV (updB O k b) L) := by
  rw [← rowV_set]; exact h.set k _
theorem Blk.other {w : World} {g g' t : Nat} {cur : List Value} (h : Blk w g t cur) (hne : g ≠ g') (k : Nat) (v : Value) : Blk (w.setCell ⟨g', k, none⟩ v) g t cur := h.same (Below.heap_setCell _ _ _ _ hne)

theorem orow_skip {O O1 C : Nat → Bool} {q : Nat} (h : ∀ j, O1 j = true ↔ O j = true ∨ (j < q ∧ C j = true)) (hq : C q = false ∨ O1 q = true) (j : Nat) : O1 j = true ↔ O j = true ∨ (j < q + 1 ∧ C j = true) := by
  by_cases e : j = q
  · subst e
    constructor
    · exact fun h9 => ((h j).1 h9).imp (fun h => h) (fun h => ⟨by omega, h.2⟩)
    · rintro (h9 | ⟨_, h9⟩)
      · exact (h j).2 (.inl h9)
      · rcases hq with h8 | h8
        · rw [h8] at h9; cases h9
        · exact h8
  · rw [h j]
    constructor
    · exact fun h9 => h9.imp (fun h => h) (fun h => ⟨by omega, h.2⟩)
    · exact fun h9 => h9.imp (fun h => h) (fun h => ⟨by omega, h.2⟩)
theorem orow_put {O O1 C : Nat → Bool} {q : Nat} (h : ∀ j, O1 j = true ↔ O j = true ∨ (j < q ∧ C j = true)) (hc : C q = true) (j : Nat) : updB O1 q true j = true ↔ O j = true ∨ (j < q + 1 ∧ C j = true) := by
  unfold updB
  by_cases e : j = q
  · subst e
    rw [if_pos rfl]
    exact ⟨fun _ => .inr ⟨by omega, hc⟩, fun _ => rfl⟩
  · rw [if_neg e, h j]
    constructor
    · exact fun h9 => h9.imp (fun h => h) (fun h => ⟨by omega, h.2⟩)
    · exact fun h9 => h9.imp (fun h => h) (fun h => ⟨by omega, h.2⟩)
theorem nrow_skip {O C : Nat → Bool} {q : Nat} {nb : Bool} (h : nb = true ↔ ∃ j, j < q ∧ C j = true ∧ O j = false) (hq : C q = false ∨ O q = true) : nb = true ↔ ∃ j, j < q + 1 ∧ C j = true ∧ O j = false := by
  rw [h]
  constructor
  · rintro ⟨j, h1, h2, h3⟩; exact ⟨j, by omega, h2, h3⟩
  · rintro ⟨j, h1, h2, h3⟩
    by_cases e : j = q
    · subst e
      rcases hq with h9 | h9
      · rw [h9] at h2; cases h2
      · rw [h9] at h3; cases h3
    · exact ⟨j, by omega, h2, h3⟩
theorem nrow_put {O O1 C : Nat → Bool} {q : Nat} (h : ∀ j, O1 j = true ↔ O j = true ∨ (j < q ∧ C j = true)) (hc : C q = true) (ho : O1 q = false) : true = true ↔ ∃ j, j < q + 1 ∧ C j = true ∧ O j = false := by
  refine ⟨fun _ => ⟨q, by omega, hc, ?_⟩, fun _ => rfl⟩
  cases h9 : O q
  · rfl
  · rw [(h q).2 (.inl h9)] at ho; cases ho

/-- what the reference's from says of a tree -/
def FromAt (t : Tr) : Prop := ∀ (s : ByteArray) (L : Nat) (X : Nat → Bool) (A : Option Addr) (c : Nat) (TA : Option Addr) (n tc : Nat) (W : World),
  s.size ≤ 1000 → L = s.size + 1 → Sup L X → PIn W A L X → TrIn W t TA n → Shp t → TrWf t →
  Calls Try.prog 73 #[.agg #[.int .i64 t.kind, .int .u64 t.s0, .int .u64 t.s1, .int .u64 t.s2, .int .u64 t.s3, .int .i64 t.lo, .int .i64 t.hi, .slice TA n tc], .string s, .slice A L c] W fun e W' =>
    ∃ g O, e = .returned (.slice (some ⟨g, 0, none⟩) L L) ∧ W.heap.size ≤ g ∧ Blk W' g 3 (rowV O L) ∧ Img (t.lang s) X O ∧ Below W.heap.size W W'
def RepdAt (t : Tr) : Prop := ∀ (s : ByteArray) (L : Nat) (X : Nat → Bool) (A : Option Addr) (c : Nat) (TA : Option Addr) (n tc : Nat) (W : World),
  s.size ≤ 1000 → L = s.size + 1 → Sup L X → PIn W A L X → TrIn W t TA n → Shp t → TrWf t →
  Calls Try.prog 87 #[.agg #[.int .i64 t.kind, .int .u64 t.s0, .int .u64 t.s1, .int .u64 t.s2, .int .u64 t.s3, .int .i64 t.lo, .int .i64 t.hi, .slice TA n tc], .string s, .slice A L c] W fun e W' =>
    ∃ g O, e = .returned (.slice (some ⟨g, 0, none⟩) L L) ∧ W.heap.size ≤ g ∧ Blk W' g 3 (rowV O L) ∧ Img (t.lang s) X O ∧ Below W.heap.size W W'

set_option maxRecDepth 100000 in
set_option maxHeartbeats 16000000 in
theorem repd_any (t : Tr) (hk : t.kind = 4) (ih : ∀ k, k ∈ t.kids → FromAt k) : RepdAt t := by
  intro s L X A c TA n tc W hs hL hX hp ht hsh hwf
  have hr := repT_of hsh.ok hk
  obtain ⟨W1, hW1⟩ : ∃ W1, W1 = W.alloc (tbox t TA n tc) := ⟨_, rfl⟩
  have hb1 : Below W.heap.size W W1 := by rw [hW1]; exact (Below.refl _ _).alloc (Nat.le_refl _) _
  have hbx : Blk W1 W.heap.size 49 [.int .i64 t.kind, .int .u64 t.s0, .int .u64 t.s1, .int .u64 t.s2, .int .u64 t.s3, .int .i64 t.lo, .int .i64 t.hi, .slice TA n tc] := by rw [hW1]; exact Blk.new W 49 _
  have hs1 : W1.heap.size = W.heap.size + 1 := by rw [hW1]; simp
  obtain ⟨KA, KN, KC, hkk⟩ := ht.out
  have hlen := hkk.len
  obtain rfl : n = 1 := by have := hr.one; omega
  have hmem : t.kids.getD 0 noTr ∈ t.kids := getD_mem (by omega)
  have IH := ih _ hmem
  have hsk := hsh.kid hmem
  have hwk := hwf.kid hmem
  have hkid := (hkk.kid 0 (by omega)).keep hb1
  obtain ⟨gt, ot, rfl, hgt, p0, p1, p2, p3, p4, p5, p6, p7⟩ := (hkk.keep hb1).eight (k := 0) (by omega)
  simp only [Nat.zero_mul, Nat.add_zero] at p0 p1 p2 p3 p4 p5 p6 p7
  obtain ⟨kid, hkid'⟩ : ∃ kid, kid = t.kids.getD 0 noTr := ⟨_, rfl⟩
  obtain ⟨tms, htms⟩ : ∃ tms, tms = t.times := ⟨_, rfl⟩
  rw [← hkid'] at p0 p1 p2 p3 p4 p5 p6 hkid IH hsk hwk hr
  rw [← htms] at hr
  obtain ⟨ka, hka⟩ : ∃ x, x = KA 0 := ⟨_, rfl⟩
  obtain ⟨kn, hkn⟩ : ∃ x, x = KN 0 := ⟨_, rfl⟩
  obtain ⟨kc, hkc⟩ : ∃ x, x = KC 0 := ⟨_, rfl⟩
  rw [← hka, ← hkn] at hkid
  rw [← hka, ← hkn, ← hkc] at p7
  obtain ⟨a, ha⟩ : ∃ a : Nat, (a : Int) = t.lo := ⟨t.lo.toNat, by have := hr.lo0; omega⟩
  have hl20 := hr.lo20
  have ha20 : a ≤ 20 := by omega
  have hK := lang_fwd s kid hsk
  have hlg := hr.lang s
  obtain ⟨K, hKd⟩ : ∃ K, K = kid.lang s := ⟨_, rfl⟩
  have hIH : ∀ (X : Nat → Bool) (A : Option Addr) (c : Nat) (W : World), Sup L X → PIn W A L X → TrIn W kid ka kn →
      Calls Try.prog 73 #[.agg #[.int .i64 kid.kind, .int .u64 kid.s0, .int .u64 kid.s1, .int .u64 kid.s2, .int .u64 kid.s3, .int .i64 kid.lo, .int .i64 kid.hi, .slice ka kn kc], .string s, .slice A L c] W fun e W' =>
      ∃ g O, e = .returned (.slice (some ⟨g, 0, none⟩) L L) ∧ W.heap.size ≤ g ∧ Blk W' g 3 (rowV O L) ∧ Img K X O ∧ Below W.heap.size W W' := fun X A c W h1 h2 h3 => by rw [hKd]; exact IH s L X A c ka kn kc W hs hL h1 h2 h3 hsk hwk
  rw [← hKd] at hK hlg
  have hpc : ∀ (w' : World), Below W1.heap.size W1 w' → ∀ j v, W1.cell? ⟨gt, ot + j, none⟩ = some v → w'.cell? ⟨gt, ot + j, none⟩ = some v := fun w' hb j v h9 => (hb.cell (p := ⟨gt, ot + j, none⟩) hgt).trans h9
  have HPC := Lib.hid (fun (w' : World) (hb : Below W1.heap.size W1 w') => And.intro (hpc w' hb 0 _ p0) (And.intro (hpc w' hb 1 _ p1) (And.intro (hpc w' hb 2 _ p2) (And.intro (hpc w' hb 3 _ p3) (And.intro (hpc w' hb 4 _ p4) (And.intro (hpc w' hb 5 _ p5) (And.intro (hpc w' hb 6 _ p6) (hpc w' hb 7 _ p7))))))))
  have HBX := Lib.hid (fun (w' : World) (hb : Below W1.heap.size W1 w') (j : Nat) => (hbx.below hb hbx.lt).cell j)
  have HKID := Lib.hid (fun (w' : World) (hb : Below W1.heap.size W1 w') => hkid.keep hb)
  have HIH := Lib.hid hIH
  have HL := Lib.hid (And.intro hL (And.intro hX (And.intro hK (And.intro ha hr))))
  have HLG := Lib.hid hlg
  have HP := Lib.hid (hp.keep hb1)
  have HB1 := Lib.hid hb1
  have HW1 := Lib.hid hW1
  have hL2 : L ≤ 1001 := by omega
  have HMK := Lib.hid (make_one 120 3 (.int .i64 0) 8 Try.underlying120 info3 (by rfl) L (by omega) (by omega))
  clear hs hL hX hp ht hsh hwf hr hb1 hbx hkk hlen hmem IH hsk hwk hkid p0 p1 p2 p3 p4 p5 p6 p7 hkid' htms hka hkn hkc ha hl20 hK hlg hIH hpc hgt hk ih hKd
  go_enter Try.func87, Try.ntmps87
  go_upto_region 1 with (fail)
  rw [← HW1.out]
  clear HW1 hW1
  go_upto_region 2 with (fail)
  go_loopw [2, 7] (fun inv iv wr => ∃ (i : Nat) (Y : Nat → Bool) (A' : Option Addr) (c' : Nat), i ≤ a ∧ iv = .int .i64 (i : Int) ∧ inv = .slice A' L c' ∧ PIn wr A' L Y ∧ Img (powL K i) X Y ∧ Below W1.heap.size W1 wr) (fun _ iv _ => a - (intOf iv).toNat)
  case atStart => exact ⟨0, X, A, c, by omega, rfl, rfl, HP.out, Img.id X, Below.refl _ _⟩
  case round =>
    obtain ⟨i, Y, A', c', hia, rfl, rfl, hpi, him, hbl⟩ := hrel
    obtain ⟨w3, rfl⟩ : ∃ w3 : World, w3 = wr := ⟨_, rfl⟩
    have x2 := HBX.out w3 hbl 5
    have x3 := HBX.out w3 hbl 6
    have x4 := HBX.out w3 hbl 7
    obtain ⟨p0, p1, p2, p3, p4, p5, p6, p7⟩ := HPC.out w3 hbl
    simp at x2 x3 x4 p0
    have HY := Lib.hid (And.intro hpi him)
    have HBL := Lib.hid hbl
    clear hpi him hbl
    by_cases hlt : i < a
    · have d0 : decide ((i : Int) < t.lo) = true := by have := HL.out.2.2.2.1; simp; omega
      go_wp2_with (go_at_call 73; refine (HIH.out Y A' c' w3 (by rw [HL.out.1]; exact HY.out.2.sup (HL.out.2.2.1.pow i) (HL.out.1 ▸ HL.out.2.1)) HY.out.1 (HKID.out w3 HBL.out)).mono ?_; rintro e w4 ⟨g, O, rfl, hg, hblk, himg, hb4⟩; have HO := Lib.hid (And.intro (PIn.of_blk hblk) (HY.out.2.seq himg)); have HB4 := Lib.hid (HBL.out.trans (hb4.mono HBL.out.size)); clear hblk himg hb4)
      go_roundw
      case rel => exact ⟨i + 1, O, _, _, by omega, by go_num, rfl, HO.out.1, HO.out.2, HB4.out⟩
      case measure => simp [intOf]; omega
    · have d0 : decide ((i : Int) < t.lo) = false := by have := HL.out.2.2.2.1; simp; omega
      obtain rfl : i = a := by omega
      have hmk := HMK.out
      go_upto_region 7 with (fail)
      clear hmk p0 p1 p2 p3 p4 p5 p6 p7 x2 x3 x4 d0
      -- the copy
      have hb2 : Below w3.heap.size w3 (w3.alloc (.cells (Array.replicate L (.int .i64 0)) 3)) := (Below.refl _ _).alloc (Nat.le_refl _) _
      have hbk := blk_made w3 L
      obtain ⟨go, hgo⟩ : ∃ go, go = w3.heap.size := ⟨_, rfl⟩
      rw [← hgo] at hbk ⊢
      generalize w3.alloc (.cells (Array.replicate L (.int .i64 0)) 3) = w4 at hb2 hbk ⊢
      have hgo1 : W1.heap.size ≤ go := by rw [hgo]; exact HBL.out.size
      have HCP := Lib.hid (And.intro (HBL.out.trans (hb2.mono HBL.out.size)) (And.intro hbk hgo))
      have HIN := Lib.hid (fun (w' : World) (hb : Below go w4 w') => (show Arr w' go 1 A' L (fun k _ => .int .i64 (bi (Y k))) from by
        have h9 := HY.out.1.below hb2
        rw [← hgo] at h9
        exact h9.below hb))
      clear hb2 hbk hgo
      go_loopw [31] (fun iv wr => ∃ (k : Nat) (O : Nat → Bool), k ≤ L ∧ iv = .int .i64 (k : Int) ∧ (∀ j, O j = true ↔ j < k ∧ Y j = true) ∧ Blk wr go 3 (rowV O L) ∧ Below go w4 wr) (fun iv _ => L - (intOf iv).toNat)
      case atStart => exact ⟨0, fun _ => false, by omega, rfl, fun j => by simp, HCP.out.2.1, Below.refl _ _⟩
      case round =>
        obtain ⟨k, O, hkL, rfl, hO, hbk, hbe⟩ := hrel
        obtain ⟨w5, rfl⟩ : ∃ w5 : World, w5 = wr := ⟨_, rfl⟩
        have HQ := Lib.hid (And.intro hO (And.intro hbk hbe))
        by_cases hlt : k < L
        · obtain ⟨ga, oa, rfl, hga, hca⟩ := HIN.out w5 hbe (by omega)
          have c0 := hca k 0 hlt (by omega)
          simp only [Nat.mul_one, Nat.add_zero] at c0
          have c1 := hbk.cell k
          rw [rowV_get _ hlt] at c1
          have c2 := hbk.frozen k
          clear hca hO hbk hbe
          go_wp2_with fail
          go_roundw
          case rel =>
            refine ⟨k + 1, updB O k (Y k), by omega, by go_num, fun j => ?_, HQ.out.2.1.put k (Y k), below_setCell_same HQ.out.2.2 (Nat.le_refl _) _⟩
            unfold updB
            by_cases e : j = k
            · subst e; simp
            · rw [if_neg e, HQ.out.1 j]
              constructor
              · rintro ⟨h1, h2⟩; exact ⟨by omega, h2⟩
              · rintro ⟨h1, h2⟩; exact ⟨by omega, h2⟩
          case measure => simp [intOf]; omega
        · obtain rfl : k = L := by omega
          have hbw5 : Below W1.heap.size W1 w5 := HCP.out.1.trans (hbe.mono hgo1)
          have x2 := HBX.out w5 hbw5 5
          simp at x2
          have hOY : ∀ j, O j = true ↔ Y j = true := fun j => by
            rw [hO j]
            refine ⟨fun h9 => h9.2, fun h9 => ⟨?_, h9⟩⟩
            have h8 := HY.out.2.sup (HL.out.2.2.1.pow i) (HL.out.1 ▸ HL.out.2.1) j h9
            have := HL.out.1
            omega
          have HST := Lib.hid (show PIn w5 A' k Y ∧ Img (powL K i) X Y ∧ Blk w5 go 3 (rowV O k) ∧ Img (midL K i i) X O ∧ Below W1.heap.size W1 w5 from
            ⟨(HIN.out w5 hbe).more (by have := hbk.lt; omega), HY.out.2, hbk, fun j => by
              rw [hOY j, HY.out.2 j]
              constructor
              · rintro ⟨i', h1, h2⟩; exact ⟨i', h1, (mid_begin K i _ _).1 h2⟩
              · rintro ⟨i', h1, h2⟩; exact ⟨i', h1, (mid_begin K i _ _).2 h2⟩, hbw5⟩)
          clear hO hbk hbe hbw5 hOY HQ
          go_upto_region 12 with (fail)
          clear x2
          go_loopw [2, 10] (fun inv iv wr => ∃ (m : Nat) (Y : Nat → Bool) (A' : Option Addr) (c' : Nat) (O : Nat → Bool), i ≤ m ∧ (0 ≤ t.hi → (m : Int) ≤ t.hi) ∧ m ≤ i + cnt O k ∧ iv = .int .i64 (m : Int) ∧ inv = .slice A' k c' ∧ PIn wr A' k Y ∧ Img (powL K m) X Y ∧ Blk wr go 3 (rowV O k) ∧ Img (midL K i m) X O ∧ Below W1.heap.size W1 wr) (fun _ iv _ => i + k - (intOf iv).toNat)
          case atStart => exact ⟨i, Y, A', c', O, Nat.le_refl _, (fun h9 => by have h8 := HL.out.2.2.2.2.hi; have h7 := HL.out.2.2.2.1; omega), by omega, by first | rfl | rw [HL.out.2.2.2.1], rfl, HST.out.1, HST.out.2.1, HST.out.2.2.1, HST.out.2.2.2.1, HST.out.2.2.2.2⟩
          case round =>
            clear HST HIN HCP HY HBL HP
            obtain ⟨m, Y, A', c', O, him, hmh, hmc, rfl, rfl, hpi, hY, hbk, hO, hbl⟩ := hrel
            obtain ⟨w6, rfl⟩ : ∃ w6 : World, w6 = wr := ⟨_, rfl⟩
            have x3 := HBX.out w6 hbl 6
            have x4 := HBX.out w6 hbl 7
            obtain ⟨p0, p1, p2, p3, p4, p5, p6, p7⟩ := HPC.out w6 hbl
            simp at x3 x4 p0
            have hck := cnt_le O k
            have HQ := Lib.hid (And.intro hpi (And.intro hY (And.intro hbk (And.intro hO hbl))))
            have HMC := Lib.hid (And.intro him (And.intro hmh hmc))
            have hm2 : m ≤ 2000 := by omega
            clear hpi hY hbk hO hbl
            by_cases hgo : t.hi < 0 ∨ (m : Int) < t.hi
            · obtain ⟨dhi, hdhi⟩ : ∃ dhi, decide (t.hi < 0) = dhi := ⟨_, rfl⟩
              have hmore : dhi = false → decide ((m : Int) < t.hi) = true := fun h9 => by
                rw [h9] at hdhi
                simp at hdhi ⊢
                omega
              have HGO := Lib.hid hgo
              clear hgo hmh hmc him
              cases dhi
              · have d1 := hdhi
                have d2 := hmore rfl
                clear hdhi hmore
                go_upto_region 17 with (go_at_call 73; refine (HIH.out Y A' c' w6 (by rw [HL.out.1]; exact HQ.out.2.1.sup (HL.out.2.2.1.pow m) (HL.out.1 ▸ HL.out.2.1)) HQ.out.1 (HKID.out w6 HQ.out.2.2.2.2)).mono ?_; rintro e w7 ⟨gc, C, rfl, hgc, hblk, himg, hb7⟩; have HC := Lib.hid (And.intro hblk (And.intro (HQ.out.2.1.seq himg) (And.intro (HQ.out.2.2.1.below hb7 HQ.out.2.2.1.lt) (HQ.out.2.2.2.2.trans (hb7.mono HQ.out.2.2.2.2.size))))); clear hblk himg hb7)
                have hne : gc ≠ go := by have := HQ.out.2.2.1.lt; omega
                go_loopw [11, 64] (fun nv iv wr => ∃ (q : Nat) (O1 : Nat → Bool) (nb : Bool), q ≤ k ∧ iv = .int .i64 (q : Int) ∧ nv = .bool nb ∧ (∀ j, O1 j = true ↔ O j = true ∨ (j < q ∧ C j = true)) ∧ (nb = true ↔ ∃ j, j < q ∧ C j = true ∧ O j = false) ∧ Blk wr go 3 (rowV O1 k) ∧ Blk wr gc 3 (rowV C k) ∧ Below W1.heap.size W1 wr) (fun _ iv _ => k - (intOf iv).toNat)
                case atStart => exact ⟨0, O, false, by omega, rfl, rfl, fun j => by simp, by simp, HC.out.2.2.1, HC.out.1, HC.out.2.2.2⟩
                case round =>
                  clear x3 x4 p0 p1 p2 p3 p4 p5 p6 p7 d1 d2
                  obtain ⟨q, O1, nb, hqk, rfl, rfl, hO1, hnb, hbo, hbc, hbl⟩ := hrel
                  obtain ⟨w8, rfl⟩ : ∃ w8 : World, w8 = wr := ⟨_, rfl⟩
                  have HR := Lib.hid (And.intro hO1 (And.intro hnb (And.intro hbo (And.intro hbc hbl))))
                  by_cases hlt : q < k
                  · have c0 := hbc.cell q
                    rw [rowV_get _ hlt] at c0
                    have c1 := hbo.cell q
                    rw [rowV_get _ hlt] at c1
                    have c2 := hbo.frozen q
                    obtain ⟨cq, hcq⟩ : ∃ cq, cq = C q := ⟨_, rfl⟩
                    obtain ⟨oq, hoq⟩ : ∃ oq, oq = O1 q := ⟨_, rfl⟩
                    rw [← hcq] at c0
                    rw [← hoq] at c1
                    have HCQ := Lib.hid hcq
                    have HOQ := Lib.hid hoq
                    clear hO1 hnb hbo hbc hbl hcq hoq
                    cases cq
                    · rw [bi_false] at c0
                      go_wp2_with fail
                      go_roundw
                      case rel =>
                        refine ⟨q + 1, O1, nb, by omega, by go_num, rfl, fun j => ?_, ?_, HR.out.2.2.1, HR.out.2.2.2.1, HR.out.2.2.2.2⟩
                        · exact orow_skip HR.out.1 (.inl HCQ.out.symm) j
                        · exact nrow_skip HR.out.2.1 (.inl HCQ.out.symm)
                      case measure => simp [intOf]; omega
                    · rw [bi_true] at c0
                      cases oq
                      · rw [bi_false] at c1
                        go_wp2_with fail
                        go_roundw
                        case rel =>
                          refine ⟨q + 1, updB O1 q true, true, by omega, by go_num, rfl, fun j => ?_, ?_, HR.out.2.2.1.put q true, HR.out.2.2.2.1.other hne _ _, below_setCell_same HR.out.2.2.2.2 hgo1 _⟩
                          · exact orow_put HR.out.1 HCQ.out.symm j
                          · exact nrow_put HR.out.1 HCQ.out.symm HOQ.out.symm
                        case measure => simp [intOf]; omega
                      · rw [bi_true] at c1
                        go_wp2_with fail
                        go_roundw
                        case rel =>
                          refine ⟨q + 1, O1, nb, by omega, by go_num, rfl, fun j => ?_, ?_, HR.out.2.2.1, HR.out.2.2.2.1, HR.out.2.2.2.2⟩
                          · exact orow_skip HR.out.1 (.inr HOQ.out.symm) j
                          · exact nrow_skip HR.out.2.1 (.inr (by
                              rcases (HR.out.1 q).1 HOQ.out.symm with h9 | h9
                              · exact h9
                              · exact absurd h9.1 (by omega)))
                        case measure => simp [intOf]; omega
                  · obtain rfl : q = k := by omega
                    clear hO1 hnb hbo hbc hbl
                    have hsC : Sup q C := by rw [HL.out.1]; exact HC.out.2.1.sup (HL.out.2.2.1.pow (m + 1)) (HL.out.1 ▸ HL.out.2.1)
                    have hOC : ∀ j, O1 j = true ↔ O j = true ∨ C j = true := fun j => (HR.out.1 j).trans ⟨fun h9 => h9.imp (fun h => h) (fun h => h.2), fun h9 => h9.imp (fun h => h) (fun h => ⟨hsC j h, h⟩)⟩
                    cases nb
                    · have HOC := Lib.hid hOC
                      have hno : ∀ j, C j = true → O j = true := fun j hj => by
                        cases hoj : O j
                        · exact absurd (HR.out.2.1.2 ⟨j, hsC j hj, hj, hoj⟩) (by decide)
                        · rfl
                      have HNO := Lib.hid hno
                      clear hOC hno hsC
                      go_wp2_with fail
                      go_returns
                      have := HB1.out.size
                      refine ⟨go, O1, rfl, by omega, HR.out.2.2.1, ?_, HB1.out.trans (HR.out.2.2.2.2.mono HB1.out.size)⟩
                      rw [HLG.out]
                      intro j
                      rw [HOC.out j]
                      have h7 := rep_stops HL.out.2.2.2.1 HMC.out.1 HC.out.2.1 HQ.out.2.2.2.1 HNO.out HGO.out j
                      exact ⟨fun h9 => h7.1 (h9.elim (fun h => h) (HNO.out j)), fun h9 => .inl (h7.2 h9)⟩
                    · obtain ⟨j0, hj1, hj2, hj3⟩ := HR.out.2.1.1 rfl
                      have hcl := cnt_lt (O := O) (O' := O1) (fun j h9 => (hOC j).2 (.inl h9)) hj1 hj3 ((hOC j0).2 (.inr hj2))
                      have hcl2 := cnt_le O1 q
                      have HOC := Lib.hid hOC
                      clear hOC hsC hj1 hj2 hj3
                      go_wp2_with fail
                      go_roundw
                      case rel => exact ⟨m + 1, C, _, _, O1, by have := HMC.out.1; omega, (fun h9 => by have := HGO.out; omega), by have := HMC.out.2.2; omega, by go_num, rfl, PIn.of_blk HR.out.2.2.2.1, HC.out.2.1, HR.out.2.2.1, mid_next HMC.out.1 HC.out.2.1 HQ.out.2.2.2.1 HOC.out, HR.out.2.2.2.2⟩
                      case measure => have := HMC.out.2.2; simp [intOf]; omega
              · have d1 := hdhi
                clear hdhi hmore
                go_upto_region 17 with (go_at_call 73; refine (HIH.out Y A' c' w6 (by rw [HL.out.1]; exact HQ.out.2.1.sup (HL.out.2.2.1.pow m) (HL.out.1 ▸ HL.out.2.1)) HQ.out.1 (HKID.out w6 HQ.out.2.2.2.2)).mono ?_; rintro e w7 ⟨gc, C, rfl, hgc, hblk, himg, hb7⟩; have HC := Lib.hid (And.intro hblk (And.intro (HQ.out.2.1.seq himg) (And.intro (HQ.out.2.2.1.below hb7 HQ.out.2.2.1.lt) (HQ.out.2.2.2.2.trans (hb7.mono HQ.out.2.2.2.2.size))))); clear hblk himg hb7)
                have hne : gc ≠ go := by have := HQ.out.2.2.1.lt; omega
                go_loopw [11, 64] (fun nv iv wr => ∃ (q : Nat) (O1 : Nat → Bool) (nb : Bool), q ≤ k ∧ iv = .int .i64 (q : Int) ∧ nv = .bool nb ∧ (∀ j, O1 j = true ↔ O j = true ∨ (j < q ∧ C j = true)) ∧ (nb = true ↔ ∃ j, j < q ∧ C j = true ∧ O j = false) ∧ Blk wr go 3 (rowV O1 k) ∧ Blk wr gc 3 (rowV C k) ∧ Below W1.heap.size W1 wr) (fun _ iv _ => k - (intOf iv).toNat)
                case atStart => exact ⟨0, O, false, by omega, rfl, rfl, fun j => by simp, by simp, HC.out.2.2.1, HC.out.1, HC.out.2.2.2⟩
                case round =>
                  clear x3 x4 p0 p1 p2 p3 p4 p5 p6 p7 d1
                  obtain ⟨q, O1, nb, hqk, rfl, rfl, hO1, hnb, hbo, hbc, hbl⟩ := hrel
                  obtain ⟨w8, rfl⟩ : ∃ w8 : World, w8 = wr := ⟨_, rfl⟩
                  have HR := Lib.hid (And.intro hO1 (And.intro hnb (And.intro hbo (And.intro hbc hbl))))
                  by_cases hlt : q < k
                  · have c0 := hbc.cell q
                    rw [rowV_get _ hlt] at c0
                    have c1 := hbo.cell q
                    rw [rowV_get _ hlt] at c1
                    have c2 := hbo.frozen q
                    obtain ⟨cq, hcq⟩ : ∃ cq, cq = C q := ⟨_, rfl⟩
                    obtain ⟨oq, hoq⟩ : ∃ oq, oq = O1 q := ⟨_, rfl⟩
                    rw [← hcq] at c0
                    rw [← hoq] at c1
                    have HCQ := Lib.hid hcq
                    have HOQ := Lib.hid hoq
                    clear hO1 hnb hbo hbc hbl hcq hoq
                    cases cq
                    · rw [bi_false] at c0
                      go_wp2_with fail
                      go_roundw
                      case rel =>
                        refine ⟨q + 1, O1, nb, by omega, by go_num, rfl, fun j => ?_, ?_, HR.out.2.2.1, HR.out.2.2.2.1, HR.out.2.2.2.2⟩
                        · exact orow_skip HR.out.1 (.inl HCQ.out.symm) j
                        · exact nrow_skip HR.out.2.1 (.inl HCQ.out.symm)
                      case measure => simp [intOf]; omega
                    · rw [bi_true] at c0
                      cases oq
                      · rw [bi_false] at c1
                        go_wp2_with fail
                        go_roundw
                        case rel =>
                          refine ⟨q + 1, updB O1 q true, true, by omega, by go_num, rfl, fun j => ?_, ?_, HR.out.2.2.1.put q true, HR.out.2.2.2.1.other hne _ _, below_setCell_same HR.out.2.2.2.2 hgo1 _⟩
                          · exact orow_put HR.out.1 HCQ.out.symm j
                          · exact nrow_put HR.out.1 HCQ.out.symm HOQ.out.symm
                        case measure => simp [intOf]; omega
                      · rw [bi_true] at c1
                        go_wp2_with fail
                        go_roundw
                        case rel =>
                          refine ⟨q + 1, O1, nb, by omega, by go_num, rfl, fun j => ?_, ?_, HR.out.2.2.1, HR.out.2.2.2.1, HR.out.2.2.2.2⟩
                          · exact orow_skip HR.out.1 (.inr HOQ.out.symm) j
                          · exact nrow_skip HR.out.2.1 (.inr (by
                              rcases (HR.out.1 q).1 HOQ.out.symm with h9 | h9
                              · exact h9
                              · exact absurd h9.1 (by omega)))
                        case measure => simp [intOf]; omega
                  · obtain rfl : q = k := by omega
                    clear hO1 hnb hbo hbc hbl
                    have hsC : Sup q C := by rw [HL.out.1]; exact HC.out.2.1.sup (HL.out.2.2.1.pow (m + 1)) (HL.out.1 ▸ HL.out.2.1)
                    have hOC : ∀ j, O1 j = true ↔ O j = true ∨ C j = true := fun j => (HR.out.1 j).trans ⟨fun h9 => h9.imp (fun h => h) (fun h => h.2), fun h9 => h9.imp (fun h => h) (fun h => ⟨hsC j h, h⟩)⟩
                    cases nb
                    · have HOC := Lib.hid hOC
                      have hno : ∀ j, C j = true → O j = true := fun j hj => by
                        cases hoj : O j
                        · exact absurd (HR.out.2.1.2 ⟨j, hsC j hj, hj, hoj⟩) (by decide)
                        · rfl
                      have HNO := Lib.hid hno
                      clear hOC hno hsC
                      go_wp2_with fail
                      go_returns
                      have := HB1.out.size
                      refine ⟨go, O1, rfl, by omega, HR.out.2.2.1, ?_, HB1.out.trans (HR.out.2.2.2.2.mono HB1.out.size)⟩
                      rw [HLG.out]
                      intro j
                      rw [HOC.out j]
                      have h7 := rep_stops HL.out.2.2.2.1 HMC.out.1 HC.out.2.1 HQ.out.2.2.2.1 HNO.out HGO.out j
                      exact ⟨fun h9 => h7.1 (h9.elim (fun h => h) (HNO.out j)), fun h9 => .inl (h7.2 h9)⟩
                    · obtain ⟨j0, hj1, hj2, hj3⟩ := HR.out.2.1.1 rfl
                      have hcl := cnt_lt (O := O) (O' := O1) (fun j h9 => (hOC j).2 (.inl h9)) hj1 hj3 ((hOC j0).2 (.inr hj2))
                      have hcl2 := cnt_le O1 q
                      have HOC := Lib.hid hOC
                      clear hOC hsC hj1 hj2 hj3
                      go_wp2_with fail
                      go_roundw
                      case rel => exact ⟨m + 1, C, _, _, O1, by have := HMC.out.1; omega, (fun h9 => by have := HGO.out; omega), by have := HMC.out.2.2; omega, by go_num, rfl, PIn.of_blk HR.out.2.2.2.1, HC.out.2.1, HR.out.2.2.1, mid_next HMC.out.1 HC.out.2.1 HQ.out.2.2.2.1 HOC.out, HR.out.2.2.2.2⟩
                      case measure => have := HMC.out.2.2; simp [intOf]; omega
            · have d1 : decide (t.hi < 0) = false := by simp; omega
              have d2 : decide ((m : Int) < t.hi) = false := by simp; omega
              go_wp2_with fail
              go_returns
              have := HB1.out.size
              exact ⟨go, O, rfl, by omega, HQ.out.2.2.1, by rw [HLG.out]; exact rep_ends HL.out.2.2.2.1 HQ.out.2.2.2.1 (by have := HMC.out.2.1; omega), HB1.out.trans (HQ.out.2.2.2.2.mono HB1.out.size)⟩
end Go.Proofs.Ytfjhcoeehjephaa
/- The reference's from: chains and alternatives. -/
namespace Go.Proofs.Ytfjhcoeehjephaa
open Go.RowKit
attribute [local go_sem ↓] Go.wp_at_zero Go.wp_at_succ

/-- what stands when from begins: the tree's box, the new row -/
structure FB (W : World) (t : Tr) (TA : Option Addr) (n tc L : Nat) (A : Option Addr) (X : Nat → Bool) (W2 : World) : Prop where
  bel : Below W.heap.size W W2
  box : Blk W2 W.heap.size 49 [.int .i64 t.kind, .int .u64 t.s0, .int .u64 t.s1, .int .u64 t.s2, .int .u64 t.s3, .int .i64 t.lo, .int .i64 t.hi, .slice TA n tc]
  out : Blk W2 (W.heap.size + 1) 3 (rowV (fun _ => false) L)
  size : W2.heap.size = W.heap.size + 2
  inp : Arr W2 W.heap.size 1 A L (fun k _ => .int .i64 (bi (X k)))
theorem FB.start {W : World} {t : Tr} {TA : Option Addr} {n tc L : Nat} {A : Option Addr} {X : Nat → Bool} (h : PIn W A L X) :
    FB W t TA n tc L A X ((W.alloc (tbox t TA n tc)).alloc (.cells (Array.replicate L (.int .i64 0)) 3)) := by
  have hb : Below W.heap.size W ((W.alloc (tbox t TA n tc)).alloc (.cells (Array.replicate L (.int .i64 0)) 3)) := ((Below.refl _ _).alloc (Nat.le_refl _) _).alloc (by simp) _
  refine ⟨hb, (Blk.new W 49 _).alloc _, ?_, by simp, h.below hb⟩
  have := blk_made (W.alloc (tbox t TA n tc)) L
  rwa [World.size_alloc] at this

set_option maxRecDepth 100000 in
set_option maxHeartbeats 16000000 in
theorem from_cat (t : Tr) (hk : t.kind = 2) (ih : ∀ k, k ∈ t.kids → FromAt k) : FromAt t := by
  intro s L X A c TA n tc W hs hL hX hp ht hsh hwf
  have e1 : (t.kind == 1) = false := by simp [hk]
  have e2 : (t.kind == 2) = true := by simp [hk]
  have hfb := FB.start (t := t) (TA := TA) (n := n) (tc := tc) hp
  obtain ⟨W2, hW2⟩ : ∃ W2, W2 = (W.alloc (tbox t TA n tc)).alloc (.cells (Array.replicate L (.int .i64 0)) 3) := ⟨_, rfl⟩
  rw [← hW2] at hfb
  have b0 := hfb.box.cell 0
  have b7 := hfb.box.cell 7
  simp at b0 b7
  obtain ⟨KA, KN, KC, hkk⟩ := ht.out
  have hlen := hkk.len
  have hle := hkk.le
  have hlg := lang_cat (s := s) hk
  have HKK := Lib.hid hkk
  have HIH := Lib.hid ih
  have HS := Lib.hid (And.intro hsh hwf)
  have HFW := Lib.hid (lang_fwd s)
  have HL := Lib.hid (And.intro hL (And.intro hX hs))
  have HLG := Lib.hid hlg
  have HFB := Lib.hid hfb
  have HW2 := Lib.hid hW2
  have HLEN := Lib.hid hlen
  have hL2 : L ≤ 1001 := by omega
  have hmk := make_one 120 3 (.int .i64 0) 8 Try.underlying120 info3 (by rfl) L (by omega) (by omega)
  clear hk hs hL hX hp ht hsh hwf hfb hkk hlen hlg ih
  go_enter Try.func73, Try.ntmps73
  go_upto_region 2 with (fail)
  rw [← HW2.out]
  clear HW2 hW2 hmk
  go_upto_region 11 with (fail)
  go_loopw [50] (fun iv wr => ∃ (k : Nat) (O : Nat → Bool), k ≤ L ∧ iv = .int .i64 (k : Int) ∧ (∀ j, O j = true ↔ j < k ∧ X j = true) ∧ Blk wr (W.heap.size + 1) 3 (rowV O L) ∧ Below (W.heap.size + 1) W2 wr) (fun iv _ => L - (intOf iv).toNat)
  case atStart => exact ⟨0, fun _ => false, by omega, rfl, fun j => by simp, HFB.out.out, Below.refl _ _⟩
  case round =>
    obtain ⟨k, O, hkL, rfl, hO, hbk, hbe⟩ := hrel
    obtain ⟨w5, rfl⟩ : ∃ w5 : World, w5 = wr := ⟨_, rfl⟩
    have HQ := Lib.hid (And.intro hO (And.intro hbk hbe))
    by_cases hlt : k < L
    · obtain ⟨ga, oa, rfl, hga, hca⟩ := (HFB.out.inp.below (hbe.mono (Nat.le_succ _))) (by omega)
      have c0 := hca k 0 hlt (by omega)
      simp only [Nat.mul_one, Nat.add_zero] at c0
      have c1 := hbk.cell k
      rw [rowV_get _ hlt] at c1
      have c2 := hbk.frozen k
      clear hca hO hbk hbe
      go_wp2_with fail
      go_roundw
      case rel =>
        refine ⟨k + 1, updB O k (X k), by omega, by go_num, fun j => ?_, HQ.out.2.1.put k (X k), below_setCell_same HQ.out.2.2 (Nat.le_refl _) _⟩
        unfold updB
        by_cases e : j = k
        · subst e; simp
        · rw [if_neg e, HQ.out.1 j]
          constructor
          · rintro ⟨h1, h2⟩; exact ⟨by omega, h2⟩
          · rintro ⟨h1, h2⟩; exact ⟨by omega, h2⟩
      case measure => simp [intOf]; omega
    · obtain rfl : k = L := by omega
      have hOX : ∀ j, O j = true ↔ X j = true := fun j => by
        rw [hO j]
        exact ⟨fun h9 => h9.2, fun h9 => ⟨HL.out.2.1 j h9, h9⟩⟩
      have hbx5 := HFB.out.box.below hbe (by omega)
      have d0 := hbx5.cell 7
      simp at d0
      have HST := Lib.hid (And.intro hbk (And.intro (show Img (catL ((t.kids.take 0).map (Tr.lang s))) X O from fun j => by
        rw [hOX j]
        exact (Img.id X) j) (And.intro (HFB.out.bel.trans (hbe.mono (Nat.le_succ _))) hbx5)))
      have hs5 : W.heap.size + 2 ≤ w5.heap.size := by have := hbe.size; have := HFB.out.size; omega
      clear hO hbk hbe hOX HQ hbx5
      go_upto_region 16 with (fail)
      clear d0
      go_loopw [7, 64] (fun ov iv wr => ∃ (q : Nat) (g : Nat) (O : Nat → Bool), q ≤ n ∧ iv = .int .i64 (q : Int) ∧ ov = .slice (some ⟨g, 0, none⟩) k k ∧ W.heap.size ≤ g ∧ Blk wr g 3 (rowV O k) ∧ Img (catL ((t.kids.take q).map (Tr.lang s))) X O ∧ Below W.heap.size W wr ∧ W.heap.size < wr.heap.size) (fun _ iv _ => n - (intOf iv).toNat)
      case atStart => exact ⟨0, _, O, by omega, rfl, rfl, by omega, HST.out.1, HST.out.2.1, HST.out.2.2.1, by omega⟩
      case round =>
        clear HST HFB b0 b7 hs5
        obtain ⟨q, g, O, hqn, rfl, rfl, hg, hbk, him, hbl, hwl⟩ := hrel
        obtain ⟨w6, rfl⟩ : ∃ w6 : World, w6 = wr := ⟨_, rfl⟩
        have HQ := Lib.hid (And.intro hbk (And.intro him hbl))
        by_cases hlt : q < n
        · obtain ⟨gt, ot, rfl, hgt, p0, p1, p2, p3, p4, p5, p6, p7⟩ := (HKK.out.keep hbl).eight hlt
          have hmem : t.kids.getD q noTr ∈ t.kids := getD_mem (by have := HLEN.out; omega)
          have hkid := (HKK.out.kid q hlt).keep hbl
          have IH := HIH.out _ hmem
          have hsk := HS.out.1.kid hmem
          have hwk := HS.out.2.kid hmem
          have hnx : ∀ Z, Img ((t.kids.getD q noTr).lang s) O Z → Img (catL ((t.kids.take (q + 1)).map (Tr.lang s))) X Z := fun Z hZ => by
            rw [take_next t.kids q noTr (by have := HLEN.out; omega), catK_snoc]
            exact him.seq hZ
          have hsO : Sup k O := by
            have hf : Fwd s (catL ((t.kids.take q).map (Tr.lang s))) := by
              unfold catL
              refine fwd_foldl _ _ (Fwd.id s) (fun K hK => ?_)
              obtain ⟨k, h1, rfl⟩ := List.mem_map.1 hK
              exact HFW.out k (HS.out.1.kid (List.mem_of_mem_take h1))
            rw [HL.out.1]
            exact him.sup hf (HL.out.1 ▸ HL.out.2.1)
          have hkbe : Below w6.heap.size w6 (w6.alloc (kbox (t.kids.getD q noTr) (KA q) (KN q) (KC q))) := (Below.refl _ _).alloc (Nat.le_refl _) _
          have hkid2 := hkid.keep hkbe
          have hpi := (PIn.of_blk hbk).keep hkbe
          obtain ⟨kid, hkid'⟩ : ∃ kid, kid = t.kids.getD q noTr := ⟨_, rfl⟩
          rw [← hkid'] at p0 p1 p2 p3 p4 p5 p6 hkid2 IH hsk hwk hnx hkbe hpi
          have HNX := Lib.hid hnx
          have HKB := Lib.hid hkbe
          have HCALL := Lib.hid (IH s k O (some ⟨g, 0, none⟩) k (KA q) (KN q) (KC q) (w6.alloc (kbox kid (KA q) (KN q) (KC q))) HL.out.2.2 HL.out.1 hsO hpi hkid2 hsk hwk)
          clear hkid hkid' hmem IH hsk hwk hnx hkbe hsO hkid2 hpi hbk him hbl
          go_wp2_with (go_at_call 73; refine HCALL.out.mono ?_; rintro e w7 ⟨g7, O7, rfl, hg7, hblk, himg, hb7⟩; have H7 := Lib.hid (And.intro hblk (And.intro (HNX.out _ himg) (HQ.out.2.2.trans ((HKB.out.trans (hb7.mono HKB.out.size)).mono HQ.out.2.2.size)))); have HG7 := Lib.hid (show W.heap.size ≤ g7 by simp at hg7; omega); have HS7 := Lib.hid (show W.heap.size < w7.heap.size by have := hb7.size; simp at this; omega); clear hblk himg hb7 hg7)
          go_roundw
          case rel => exact ⟨q + 1, g7, O7, by omega, by go_num, rfl, HG7.out, H7.out.1, H7.out.2.1, H7.out.2.2, HS7.out⟩
          case measure => simp [intOf]; omega
        · obtain rfl : q = n := by omega
          clear hbk him hbl
          go_wp2_with fail
          go_returns
          refine ⟨g, O, rfl, hg, HQ.out.1, ?_, HQ.out.2.2⟩
          have := HQ.out.2.1
          rw [List.take_of_length_le (by have := HLEN.out; omega)] at this
          rw [HLG.out]
          exact this
end Go.Proofs.Ytfjhcoeehjephaa
/- The reference's from: alternatives. -/
namespace Go.Proofs.Ytfjhcoeehjephaa
open Go.RowKit
attribute [local go_sem ↓] Go.wp_at_zero Go.wp_at_succ

set_option maxRecDepth 100000 in
set_option maxHeartbeats 16000000 in
theorem from_alt (t : Tr) (hk : t.kind = 3) (ih : ∀ k, k ∈ t.kids → FromAt k) : FromAt t := by
  intro s L X A c TA n tc W hs hL hX hp ht hsh hwf
  have e1 : (t.kind == 1) = false := by simp [hk]
  have e2 : (t.kind == 2) = false := by simp [hk]
  have e3 : (t.kind == 3) = true := by simp [hk]
  have hfb := FB.start (t := t) (TA := TA) (n := n) (tc := tc) hp
  obtain ⟨W2, hW2⟩ : ∃ W2, W2 = (W.alloc (tbox t TA n tc)).alloc (.cells (Array.replicate L (.int .i64 0)) 3) := ⟨_, rfl⟩
  rw [← hW2] at hfb
  have b0 := hfb.box.cell 0
  have b7 := hfb.box.cell 7
  simp at b0 b7
  obtain ⟨KA, KN, KC, hkk⟩ := ht.out
  have hlen := hkk.len
  have hle := hkk.le
  have hlg := lang_alt (s := s) hk
  have HKK := Lib.hid hkk
  have HIH := Lib.hid ih
  have HS := Lib.hid (And.intro hsh hwf)
  have HFW := Lib.hid (lang_fwd s)
  have HL := Lib.hid (And.intro hL (And.intro hX hs))
  have HLG := Lib.hid hlg
  have HFB := Lib.hid hfb
  have HW2 := Lib.hid hW2
  have HLEN := Lib.hid hlen
  have HP := Lib.hid hp
  have hL2 : L ≤ 1001 := by omega
  have hmk := make_one 120 3 (.int .i64 0) 8 Try.underlying120 info3 (by rfl) L (by omega) (by omega)
  clear hk hs hL hX hp ht hsh hwf hfb hkk hlen hlg ih
  go_enter Try.func73, Try.ntmps73
  go_upto_region 2 with (fail)
  rw [← HW2.out]
  clear HW2 hW2 hmk
  go_upto_region 22 with (fail)
  clear b0 b7
  go_loopw [78] (fun iv wr => ∃ (q : Nat) (O : Nat → Bool), q ≤ n ∧ iv = .int .i64 (q : Int) ∧ Blk wr (W.heap.size + 1) 3 (rowV O L) ∧ Img (altL ((t.kids.take q).map (Tr.lang s))) X O ∧ Below W.heap.size W wr) (fun iv _ => n - (intOf iv).toNat)
  case atStart => exact ⟨0, fun _ => false, by omega, rfl, HFB.out.out, fun j => by simp [altL], HFB.out.bel⟩
  case round =>
    clear HFB
    obtain ⟨q, O, hqn, rfl, hbk, him, hbl⟩ := hrel
    obtain ⟨w6, rfl⟩ : ∃ w6 : World, w6 = wr := ⟨_, rfl⟩
    have HQ := Lib.hid (And.intro hbk (And.intro him hbl))
    by_cases hlt : q < n
    · obtain ⟨gt, ot, rfl, hgt, p0, p1, p2, p3, p4, p5, p6, p7⟩ := (HKK.out.keep hbl).eight hlt
      have hmem : t.kids.getD q noTr ∈ t.kids := getD_mem (by have := HLEN.out; omega)
      have hkid := (HKK.out.kid q hlt).keep hbl
      have IH := HIH.out _ hmem
      have hsk := HS.out.1.kid hmem
      have hwk := HS.out.2.kid hmem
      have hnx : ∀ Z O1, Img ((t.kids.getD q noTr).lang s) X Z → (∀ j, O1 j = true ↔ O j = true ∨ Z j = true) → Img (altL ((t.kids.take (q + 1)).map (Tr.lang s))) X O1 := fun Z O1 hZ hO1 j => by
        rw [take_next t.kids q noTr (by have := HLEN.out; omega), hO1 j, him j, hZ j]
        constructor
        · rintro (⟨i, h1, h2⟩ | ⟨i, h1, h2⟩)
          · exact ⟨i, h1, (altK_snoc s _ _ i j).2 (.inl h2)⟩
          · exact ⟨i, h1, (altK_snoc s _ _ i j).2 (.inr h2)⟩
        · rintro ⟨i, h1, h2⟩
          exact ((altK_snoc s _ _ i j).1 h2).imp (fun h => ⟨i, h1, h⟩) (fun h => ⟨i, h1, h⟩)
      have hfk := HFW.out _ hsk
      have hkbe : Below w6.heap.size w6 (w6.alloc (kbox (t.kids.getD q noTr) (KA q) (KN q) (KC q))) := (Below.refl _ _).alloc (Nat.le_refl _) _
      have hkid2 := hkid.keep hkbe
      have hpi := (HP.out.keep hbl).keep hkbe
      obtain ⟨kid, hkid'⟩ : ∃ kid, kid = t.kids.getD q noTr := ⟨_, rfl⟩
      rw [← hkid'] at p0 p1 p2 p3 p4 p5 p6 hkid2 IH hsk hwk hnx hkbe hpi hfk
      have HNX := Lib.hid hnx
      have HKB := Lib.hid hkbe
      have HFK := Lib.hid hfk
      have HCALL := Lib.hid (IH s L X A c (KA q) (KN q) (KC q) (w6.alloc (kbox kid (KA q) (KN q) (KC q))) HL.out.2.2 HL.out.1 HL.out.2.1 hpi hkid2 hsk hwk)
      have hgo := hbk.lt
      clear hkid hkid' hmem IH hsk hwk hnx hkbe hfk hkid2 hpi hbk him hbl
      go_upto_region 26 with (go_at_call 73; refine HCALL.out.mono ?_; rintro e w7 ⟨g7, P, rfl, hg7, hblk, himg, hb7⟩; have H7 := Lib.hid (And.intro hblk (And.intro himg (And.intro (HQ.out.1.below (HKB.out.trans (hb7.mono HKB.out.size)) hgo) (HQ.out.2.2.trans ((HKB.out.trans (hb7.mono HKB.out.size)).mono HQ.out.2.2.size))))); have hne : g7 ≠ W.heap.size + 1 := (by simp at hg7; omega); clear hblk himg hb7 hg7)
      clear p0 p1 p2 p3 p4 p5 p6 p7
      go_loopw [88] (fun iv wr => ∃ (m : Nat) (O1 : Nat → Bool), m ≤ L ∧ iv = .int .i64 (m : Int) ∧ (∀ j, O1 j = true ↔ O j = true ∨ (j < m ∧ P j = true)) ∧ Blk wr (W.heap.size + 1) 3 (rowV O1 L) ∧ Blk wr g7 3 (rowV P L) ∧ Below W.heap.size W wr) (fun iv _ => L - (intOf iv).toNat)
      case atStart => exact ⟨0, O, by omega, rfl, fun j => by simp, H7.out.2.2.1, H7.out.1, H7.out.2.2.2⟩
      case round =>
        obtain ⟨m, O1, hmL, rfl, hO1, hbo, hbp, hbl⟩ := hrel
        obtain ⟨w8, rfl⟩ : ∃ w8 : World, w8 = wr := ⟨_, rfl⟩
        have HR := Lib.hid (And.intro hO1 (And.intro hbo (And.intro hbp hbl)))
        by_cases hlm : m < L
        · have c0 := hbp.cell m
          rw [rowV_get _ hlm] at c0
          have c1 := hbo.cell m
          rw [rowV_get _ hlm] at c1
          have c2 := hbo.frozen m
          obtain ⟨cq, hcq⟩ : ∃ cq, cq = P m := ⟨_, rfl⟩
          rw [← hcq] at c0
          have HCQ := Lib.hid hcq
          clear hO1 hbo hbp hbl hcq
          cases cq
          · rw [bi_false] at c0
            go_wp2_with fail
            go_roundw
            case rel => exact ⟨m + 1, O1, by omega, by go_num, fun j => orow_skip HR.out.1 (.inl HCQ.out.symm) j, HR.out.2.1, HR.out.2.2.1, HR.out.2.2.2⟩
            case measure => simp [intOf]; omega
          · rw [bi_true] at c0
            go_wp2_with fail
            go_roundw
            case rel => exact ⟨m + 1, updB O1 m true, by omega, by go_num, fun j => orow_put HR.out.1 HCQ.out.symm j, HR.out.2.1.put m true, HR.out.2.2.1.other hne _ _, below_setCell_same HR.out.2.2.2 (by omega) _⟩
            case measure => simp [intOf]; omega
        · obtain rfl : m = L := by omega
          clear hO1 hbo hbp hbl
          have hsP : Sup m P := by rw [HL.out.1]; exact H7.out.2.1.sup HFK.out (HL.out.1 ▸ HL.out.2.1)
          have hOP : ∀ j, O1 j = true ↔ O j = true ∨ P j = true := fun j => (HR.out.1 j).trans ⟨fun h9 => h9.imp (fun h => h) (fun h => h.2), fun h9 => h9.imp (fun h => h) (fun h => ⟨hsP j h, h⟩)⟩
          have HNW := Lib.hid (HNX.out P O1 H7.out.2.1 hOP)
          clear hsP hOP
          go_wp2_with fail
          go_roundw
          case rel => exact ⟨q + 1, O1, by omega, by go_num, HR.out.2.1, HNW.out, HR.out.2.2.2⟩
          case measure => simp [intOf]; omega
    · obtain rfl : q = n := by omega
      clear hbk him hbl
      go_wp2_with fail
      go_returns
      refine ⟨_, O, rfl, by omega, HQ.out.1, ?_, HQ.out.2.2⟩
      have := HQ.out.2.1
      rw [List.take_of_length_le (by have := HLEN.out; omega)] at this
      rw [HLG.out]
      exact this

set_option maxRecDepth 100000 in
set_option maxHeartbeats 16000000 in
theorem from_rep (t : Tr) (hk : t.kind = 4) (hrep : RepdAt t) : FromAt t := by
  intro s L X A c TA n tc W hs hL hX hp ht hsh hwf
  have e1 : (t.kind == 1) = false := by simp [hk]
  have e2 : (t.kind == 2) = false := by simp [hk]
  have e3 : (t.kind == 3) = false := by simp [hk]
  have e4 : (t.kind == 4) = true := by simp [hk]
  have hfb := FB.start (t := t) (TA := TA) (n := n) (tc := tc) hp
  obtain ⟨W2, hW2⟩ : ∃ W2, W2 = (W.alloc (tbox t TA n tc)).alloc (.cells (Array.replicate L (.int .i64 0)) 3) := ⟨_, rfl⟩
  rw [← hW2] at hfb
  have b0 := hfb.box.cell 0
  have b1 := hfb.box.cell 1
  have b2 := hfb.box.cell 2
  have b3 := hfb.box.cell 3
  have b4 := hfb.box.cell 4
  have b5 := hfb.box.cell 5
  have b6 := hfb.box.cell 6
  have b7 := hfb.box.cell 7
  simp at b0 b1 b2 b3 b4 b5 b6 b7
  have HC := Lib.hid (hrep s L X A c TA n tc W2 hs hL hX (hp.keep hfb.bel) (ht.keep hfb.bel) hsh hwf)
  have HFB := Lib.hid hfb
  have HW2 := Lib.hid hW2
  have hL2 : L ≤ 1001 := by omega
  have hmk := make_one 120 3 (.int .i64 0) 8 Try.underlying120 info3 (by rfl) L (by omega) (by omega)
  clear hk hs hL hX hp ht hsh hwf hfb hrep
  go_enter Try.func73, Try.ntmps73
  go_upto_region 2 with (fail)
  rw [← HW2.out]
  clear HW2 hW2 hmk
  go_wp2_with (go_at_call 87; refine HC.out.mono ?_; rintro e w7 ⟨g7, O7, rfl, hg7, hblk, himg, hb7⟩; have H7 := Lib.hid (And.intro hblk (And.intro himg hb7)))
  go_returns
  exact ⟨g7, O7, rfl, by have := HFB.out.size; omega, H7.out.1, H7.out.2.1, HFB.out.bel.trans (H7.out.2.2.mono HFB.out.bel.size)⟩
end Go.Proofs.Ytfjhcoeehjephaa
