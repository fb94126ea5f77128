/- The reference's Sets. -/
import Derived.Test.YtfjhcoeehjephaaSx4Md
import Derived.Test.YtfjhcoeehjephaaBuVMd
import Derived.Deep.RegionHeld3
import Derived.Deep.Cut
import Derived.StillTailTactics
namespace Go.Proofs.Ytfjhcoeehjephaa
open Go.RowKit
attribute [local go_sem ↓] Go.wp_at_zero Go.wp_at_succ
attribute [local go_sem ↓] load_box store_box

/-- what Sets holds -/
structure SA (W : World) (cN : List Value) (gc : Nat) (cls : Nat → Nat) (S : Nat) (v : Value) (vs : List Value) (all : List (List Nat)) (w : World) : Prop where
  bel : Below W.heap.size W w
  nb : Blk w W.heap.size 24 cN
  cb : Blk w gc 26 (bytV cls)
  own : w.ownsRow (W.heap.size + 1) 36 1 v all.length vs
  rows : ∀ k, k < all.length → ∃ g, vs.getD k undef = .slice (some ⟨g, 0, none⟩) S S ∧ Blk w g 3 (bitsV (marks S (all.getD k [])))
  lt : W.heap.size < w.heap.size
section
variable {W w w' : World} {cN : List Value} {gc S : Nat} {cls : Nat → Nat} {v : Value} {vs : List Value} {all : List (List Nat)}
theorem SA.go (h : SA W cN gc cls S v vs all w) (hb : Below w.heap.size w w') : SA W cN gc cls S v vs all w' :=
  ⟨h.bel.trans (hb.mono h.bel.size), h.nb.below hb h.nb.lt, h.cb.below hb h.cb.lt, own_keptS h.own hb, fun k hk => by
    obtain ⟨g, h1, h2⟩ := h.rows k hk
    exact ⟨g, h1, h2.below hb h2.lt⟩, Nat.lt_of_lt_of_le h.lt hb.size⟩
theorem SA.push (h : SA W cN gc cls S v vs all w) {g5 c5 g : Nat} {Y : List Nat} (hY : Blk w g 3 (bitsV (marks S Y)))
    (hown : w'.ownsRow (W.heap.size + 1) 36 1 (.slice (some ⟨g5, 0, none⟩) (all.length + 1) c5) (all.length + 1) (vs ++ [.slice (some ⟨g, 0, none⟩) S S])) (hg : w.grownBy w' v.ownBlock) :
    SA W cN gc cls S (.slice (some ⟨g5, 0, none⟩) (all.length + 1) c5) (vs ++ [.slice (some ⟨g, 0, none⟩) S S]) (all ++ [Y]) w' := by
  have hb := But.of_grown hg
  have hvl : vs.length = all.length := by have := h.own.1; omega
  refine ⟨h.bel.grown hg h.bel.size (fun k hk => by have := (h.own.lt k hk).1; omega), hb.blk h.nb (blk_own_ne h.nb h.own (by decide)), hb.blk h.cb (blk_own_ne h.cb h.own (by decide)), by rw [List.length_append, List.length_singleton]; exact hown, fun k hk => ?_, Nat.lt_of_lt_of_le h.lt hg.size⟩
  rw [List.length_append, List.length_singleton] at hk
  by_cases e : k < all.length
  · obtain ⟨g9, h1, h2⟩ := h.rows k e
    rw [getD_appL _ e]
    refine ⟨g9, ?_, hb.blk h2 (blk_own_ne h2 h.own (by decide))⟩
    rw [← h1]
    simp [List.getD_eq_getElem?_getD, List.getElem?_append_left (show k < vs.length by omega)]
  · obtain rfl : k = all.length := by omega
    rw [getD_appN]
    refine ⟨g, ?_, hb.blk hY (blk_own_ne hY h.own (by decide))⟩
    rw [← hvl]
    simp [List.getD_eq_getElem?_getD]
theorem SA.ncells {S0 a z : Int} {A : Option Addr} {n c : Nat} (h : SA W [.int .i64 S0, .int .i64 a, .int .i64 z, .slice A n c] gc cls S v vs all w) : w.cell? ⟨W.heap.size, 0, none⟩ = some (.int .i64 S0) ∧ w.cell? ⟨W.heap.size, 1, none⟩ = some (.int .i64 a) ∧ w.cell? ⟨W.heap.size, 2, none⟩ = some (.int .i64 z) ∧ w.cell? ⟨W.heap.size, 3, none⟩ = some (.slice A n c) :=
  ⟨h.nb.cell 0, h.nb.cell 1, h.nb.cell 2, h.nb.cell 3⟩
end

theorem keep5 {w w' : World} {a1 a2 a3 a4 a5 : Addr} {v1 v2 v3 v4 v5 : Value} (h1 : w.cell? a1 = some v1) (h2 : w.cell? a2 = some v2) (h3 : w.cell? a3 = some v3) (h4 : w.cell? a4 = some v4) (h5 : w.cell? a5 = some v5) (hb : Below w.heap.size w w') :
    w'.cell? a1 = some v1 ∧ w'.cell? a2 = some v2 ∧ w'.cell? a3 = some v3 ∧ w'.cell? a4 = some v4 ∧ w'.cell? a5 = some v5 :=
  ⟨(hb.cell (World.block_lt_of_cell? w a1 h1)).trans h1, (hb.cell (World.block_lt_of_cell? w a2 h2)).trans h2, (hb.cell (World.block_lt_of_cell? w a3 h3)).trans h3, (hb.cell (World.block_lt_of_cell? w a4 h4)).trans h4, (hb.cell (World.block_lt_of_cell? w a5 h5)).trans h5⟩
theorem bits_arr {w : World} {g S : Nat} {M : List Bool} (h : Blk w g 3 (bitsV M)) (hM : M.length = S) : Arr w w.heap.size 1 (some ⟨g, 0, none⟩) S (NumC .i64 (intsM M)) := fun _ => ⟨g, 0, rfl, h.lt, fun k j hk hj => by
  obtain rfl : j = 0 := by omega
  rw [show 0 + (k * 1 + 0) = k by omega, h.cell, bitsV_get (by omega)]
  simp [NumC, intsM, show k < M.length by omega]⟩
theorem mem_take_next {all : List (List Nat)} {Y : List Nat} {q : Nat} (hq : q < all.length) : decide (Y ∈ all.take (q + 1)) = (decide (Y ∈ all.take q) || decide (Y = all.getD q [])) := by
  rw [take_next all q [] hq]
  apply Bool.eq_iff_iff.2
  simp
set_option maxRecDepth 100000 in
set_option maxHeartbeats 16000000 in
theorem sets_any (A : Option Addr) (n c S : Nat) (a z : Int) (E : List Ed) (W : World) (h : NfaIn W A n ⟨(S : Int), a, z, E⟩) (hr : RightN ⟨(S : Int), a, z, E⟩) (hu : ∀ e ∈ E, U64w e.s0 ∧ U64w e.s1 ∧ U64w e.s2 ∧ U64w e.s3) :
    Calls Try.prog 11 #[.agg #[.int .i64 (S : Int), .int .i64 a, .int .i64 z, .slice A n c], .int .i64 401] W fun e w' => ∃ r : Nat, e = .returned (.int .i64 (r : Int)) ∧ SetsSay E S a r ∧ Below W.heap.size W w' := by
  obtain ⟨i46, hi46, hp46⟩ := Option.map_eq_some_iff.1 (show (Try.prog.info? 46).map (fun i => (i.zero.map (fun z => z.cells.size), i.size, i.bytes)) = some (some 4, 4, 32) by kernel_rfl)
  have hz4 : i46.zero.map (fun z => z.cells.size) = some 4 := congrArg Prod.fst hp46
  obtain ⟨z46, hz46, hzc46⟩ := Option.map_eq_some_iff.1 hz4
  have hsz46 : i46.size = 4 := congrArg (fun x => x.2.1) hp46
  have hbt46 : i46.bytes = 32 := congrArg (fun x => x.2.2) hp46
  have hb0 : Below W.heap.size W (W.alloc (.cells #[.int .i64 (S : Int), .int .i64 a, .int .i64 z, .slice A n c] 24)) := (Below.refl _ _).alloc (Nat.le_refl _) _
  have hx0 := Blk.new W 24 [.int .i64 (S : Int), .int .i64 a, .int .i64 z, .slice A n c]
  have hsw : (W.alloc (.cells #[.int .i64 (S : Int), .int .i64 a, .int .i64 z, .slice A n c] 24)).heap.size = W.heap.size + 1 := by simp
  have hS : S ≤ 2000 := by have : (S : Int) ≤ 2000 := hr.hi; omega
  have hEl : E.length ≤ 16000 := hr.few
  have hln : E.length = n := h.len
  have HH := Lib.hid h
  have HR := Lib.hid hr
  have HU := Lib.hid hu
  have HB0 := Lib.hid hb0
  have HX0 := Lib.hid hx0
  have hmade := World.ownsRow_made (W.alloc (.cells #[.int .i64 (S : Int), .int .i64 a, .int .i64 z, .slice A n c] 24)) #[] 0 (base := W.heap.size + 1) (e := 46) (size := 4) (by simp) (by unfold maxLen; omega) (by simp)
  have HMD := Lib.hid hmade
  have hbl := (Below.refl (W.heap.size + 1) (W.alloc (.cells #[.int .i64 (S : Int), .int .i64 a, .int .i64 z, .slice A n c] 24))).alloc (by simp) (.cells #[] 46)
  have HBL := Lib.hid hbl
  have HSW := Lib.hid hsw
  have c3 := (hx0.alloc (.cells #[] 46)).cell 3
  simp only [List.getElem?_cons_zero, List.getElem?_cons_succ] at c3
  have hz26 := zeroV26
  clear h hr hu hb0 hx0 hmade hbl
  go_enter Try.func11, Try.ntmps11
  go_upto_region 3 with (fail)
  obtain ⟨W1, hW1⟩ : ∃ W1, W1 = W.alloc (.cells #[.int .i64 (S : Int), .int .i64 a, .int .i64 z, .slice A n c] 24) := ⟨_, rfl⟩
  rw [← hW1] at HX0 HB0 HMD HBL HSW hsw c3
  rw [hsw] at HMD
  (try rw [← hW1])
  clear hW1 hsw
  generalize W1.alloc (.cells #[] 46) = w2 at HMD HBL c3 ⊢
  clear c3
  go_loopw [5, 22] (fun v iv wr => ∃ k : Nat, iv = .int .i64 (k : Int) ∧ k ≤ n ∧ wr.ownsRow (W.heap.size + 1) 46 4 v (setsOf (E.take k)).length (quadsV (setsOf (E.take k))) ∧ Below (W.heap.size + 1) W1 wr ∧ W.heap.size + 1 ≤ wr.heap.size) (fun _ iv _ => n - (intOf iv).toNat)
  case atStart => exact ⟨0, rfl, by omega, HMD.out, HBL.out, by have := HBL.out.size; rw [HSW.out] at this; exact this⟩
  case round =>
    obtain ⟨k, rfl, hk, hown, hbe, hsz⟩ := hrel
    obtain ⟨w3, rfl⟩ : ∃ w3 : World, w3 = wr := ⟨_, rfl⟩
    obtain ⟨v, rfl⟩ : ∃ v : Value, v = u5 := ⟨_, rfl⟩
    clear HMD HBL
    have HO := Lib.hid hown
    have HBE := Lib.hid hbe
    have hbw := HB0.out.trans (hbe.mono (by omega))
    have HBW := Lib.hid hbw
    clear hown hbe hbw
    by_cases hlt : k < n
    · have d1 : decide ((k : Int) < (n : Int)) = true := by simp; omega
      obtain ⟨b9, o9, rfl, hbl, p0, p1, p2, p3, p4, p5, p6⟩ := (HH.out.arr.below HBW.out).seven hlt
      have hkl : k < E.length := by omega
      have htk := take_next E k noEd hkl
      have hov := setsOf_snoc (E.take k) (E.getD k noEd)
      rw [← htk] at hov
      obtain ⟨e, he⟩ : ∃ e, e = E.getD k noEd := ⟨_, rfl⟩
      simp only at p0 p1 p2 p3 p4 p5 p6
      rw [← he] at p0 p1 p2 p3 p4 p5 p6 hov
      have HOV := Lib.hid hov
      clear he htk hkl hov
      obtain ⟨x, y, f, s0, s1, s2, s3⟩ := e
      simp only at p0 p1 p2 p3 p4 p5 p6
      obtain ⟨lv, hlv⟩ : ∃ l, l = setsOf (E.take k) := ⟨_, rfl⟩
      rw [← hlv] at HO HOV
      have hlvl : lv.length ≤ 16000 := by rw [hlv]; exact Nat.le_trans (setsOf_len _) (by rw [List.length_take]; omega)
      clear hlv
      go_upto_region 5 with (fail)
      have hblk := Blk.new w3 70 [.int .i64 x, .int .i64 y, .bool f, .int .u64 s0, .int .u64 s1, .int .u64 s2, .int .u64 s3]
      have HO4 := Lib.hid (HO.out.alloc (.cells #[.int .i64 x, .int .i64 y, .bool f, .int .u64 s0, .int .u64 s1, .int .u64 s2, .int .u64 s3] 70))
      have HB4 := Lib.hid (HBE.out.alloc hsz (.cells #[.int .i64 x, .int .i64 y, .bool f, .int .u64 s0, .int .u64 s1, .int .u64 s2, .int .u64 s3] 70))
      obtain ⟨eb, heb⟩ : ∃ eb, eb = w3.heap.size := ⟨_, rfl⟩
      rw [← heb] at hblk ⊢
      change Blk (w3.alloc (.cells #[.int .i64 x, .int .i64 y, .bool f, .int .u64 s0, .int .u64 s1, .int .u64 s2, .int .u64 s3] 70)) eb 70 _ at hblk
      clear heb p0 p1 p2 p3 p4 p5 p6 hbl HO HBE HBW hsz
      generalize w3.alloc (.cells #[.int .i64 x, .int .i64 y, .bool f, .int .u64 s0, .int .u64 s1, .int .u64 s2, .int .u64 s3] 70) = w4 at hblk HO4 HB4 ⊢
      have q2 := hblk.cell 2
      have q3 := hblk.cell 3
      have q4 := hblk.cell 4
      have q5 := hblk.cell 5
      have q6 := hblk.cell 6
      simp only [List.getElem?_cons_zero, List.getElem?_cons_succ] at q2 q3 q4 q5 q6
      clear hblk
      have hsz4 : W.heap.size + 1 ≤ w4.heap.size := by have := HB4.out.size; rw [HSW.out] at this; exact this
      cases f with
      | true =>
        go_wp2_with fail
        go_roundw
        case rel => exact ⟨k + 1, by go_num, by omega, by rw [HOV.out, if_pos rfl]; exact HO4.out, HB4.out, hsz4⟩
        case measure => simp [intOf]; omega
      | false =>
        obtain ⟨ms, hms⟩ : ∃ m, m = lv.length := ⟨_, rfl⟩
        obtain ⟨Al, cl, hvl⟩ := own_slice HO4.out
        rw [← hms] at hvl hlvl
        subst hvl
        have HMS := Lib.hid hms
        have hcn : ∀ j u, ([.int .u64 s0, .int .u64 s1, .int .u64 s2, .int .u64 s3] : List Value)[j]? = some u → (w4.alloc (.cells #[.int .u64 s0, .int .u64 s1, .int .u64 s2, .int .u64 s3] 46)).cell? ((⟨w4.heap.size, 0, none⟩ : Addr).add j) = some u := World.news_of_block (cs := #[.int .u64 s0, .int .u64 s1, .int .u64 s2, .int .u64 s3]) (heap_alloc_new _ _)
        have z4 : ∀ u ∈ ([.int .u64 s0, .int .u64 s1, .int .u64 s2, .int .u64 s3] : List Value), u.oneCell' = true := by intro u hu; simp at hu; rcases hu with rfl | rfl | rfl | rfl <;> rfl
        have z2 : ms + 1 ≤ maxLen := by unfold maxLen; omega
        have HZ := Lib.hid (And.intro z2 (And.intro z4 hcn))
        clear hms hcn z4 z2
        go_wp2_with (at_builtin; (refine wpList_append_lies _ rfl _ _ 72 rfl (W.heap.size + 1) 46 i46 z46 4 32 Try.underlying72 hi46 hz46 hsz46 hbt46 hzc46 (by decide) (.slice Al ms cl) ms _ rfl (by have h9 := HO4.out.alloc (.cells #[.int .u64 s0, .int .u64 s1, .int .u64 s2, .int .u64 s3] 46); rw [← HMS.out] at h9; exact h9) ⟨w4.heap.size, 0, none⟩ 1 1 [.int .u64 s0, .int .u64 s1, .int .u64 s2, .int .u64 s3] rfl rfl HZ.out.2.2 HZ.out.2.1 (by omega) HZ.out.1 (by omega) (by simp; omega) _ rfl ?_; intro g7 c7 w7 hown7 hgrow7 hat7 _))
        go_roundw
        case rel =>
          have hb8 := (HB4.out.alloc hsz4 (.cells #[.int .u64 s0, .int .u64 s1, .int .u64 s2, .int .u64 s3] 46)).grown hgrow7 (by simp; omega) (fun k e => ((HO4.out.alloc (.cells #[.int .u64 s0, .int .u64 s1, .int .u64 s2, .int .u64 s3] 46)).lt k e).1)
          refine ⟨k + 1, by go_num, by omega, ?_, hb8, by have := hb8.size; rw [HSW.out] at this; exact this⟩
          rw [HOV.out, if_neg (by simp), List.length_append, quadsV_snoc, ← HMS.out]
          exact hown7
        case measure => simp [intOf]; omega
    · obtain rfl : k = n := by omega
      have d1 : decide ((k : Int) < (k : Int)) = false := by simp
      rw [List.take_of_length_le (by omega)] at HO
      obtain ⟨Al, cl, hvl⟩ := own_slice HO.out
      have hsl := setsOf_len E
      obtain ⟨ns, hns⟩ : ∃ ns, ns = (setsOf E).length := ⟨_, rfl⟩
      have hqs : ∀ q ∈ setsOf E, q.ok := fun q hq => by
        unfold setsOf at hq
        obtain ⟨e, he, rfl⟩ := List.mem_map.1 hq
        exact HU.out e (List.mem_filter.1 he).1
      rw [← hns] at hvl hsl
      subst hvl
      have hcl := rclasses_any Al ns cl (setsOf E) w3 (by omega) hns.symm hqs (own_quads (by have h9 := HO.out; rw [← hns] at h9; exact h9))
      have HCL := Lib.hid hcl
      clear hcl hqs hns hsl
      go_upto_region 9 with (go_at_call 37; refine HCL.out.mono ?_; rintro e w4 ⟨cls, many, hcls, rfl, hb4⟩; have HC := Lib.hid hcls; have HB4 := Lib.hid hb4; have hnew : Blk (w4.alloc (.cells zs26 26)) w4.heap.size 26 (bytV (fun _ => 0)) := Blk.new _ _ _; have hst26 := store26 (f := cls) hnew; have HNEW := Lib.hid hnew; clear hcls hb4 hnew)
      clear HO HCL
      have hcb : Blk ((w4.alloc (.cells zs26 26)).setRow w4.heap.size (bytV cls).toArray) w4.heap.size 26 (bytV cls) := by
        have := HNEW.out.row (bytV cls).toArray; simpa using this
      have hb5 : Below w4.heap.size w4 ((w4.alloc (.cells zs26 26)).setRow w4.heap.size (bytV cls).toArray) := below_setRow ((Below.refl _ _).alloc (Nat.le_refl _) _) (Nat.le_refl _) _
      have hb35 : Below w3.heap.size w3 ((w4.alloc (.cells zs26 26)).setRow w4.heap.size (bytV cls).toArray) := HB4.out.trans (hb5.mono HB4.out.size)
      have hb05 := HBW.out.trans (hb35.mono HBW.out.size)
      have hx5 := ((HX0.out.below HBE.out (by have := HX0.out.lt; rw [HSW.out] at this; exact this)).below hb35 (HX0.out.below HBE.out (by have := HX0.out.lt; rw [HSW.out] at this; exact this)).lt)
      obtain ⟨gc, hgc⟩ : ∃ g, g = w4.heap.size := ⟨_, rfl⟩
      rw [← hgc] at hcb hb05 hx5 ⊢
      clear hst26 hb5 hb35 HNEW
      generalize (w4.alloc (.cells zs26 26)).setRow gc (bytV cls).toArray = w5 at hcb hb05 hx5 ⊢
      clear hgc
      have HCB := Lib.hid hcb
      have HB5 := Lib.hid hb05
      have HX5 := Lib.hid hx5
      have q0 := hx5.cell 0
      have q1 := hx5.cell 1
      have q2 := hx5.cell 2
      have q3 := hx5.cell 3
      simp only [List.getElem?_cons_zero, List.getElem?_cons_succ] at q0 q1 q2 q3
      clear hcb hb05 hx5 HBE HBW HB4
      have hone : Arr (w5.alloc (.cells #[.int .i64 a] 3)) (w5.alloc (.cells #[.int .i64 a] 3)).heap.size 1 (some ⟨w5.heap.size, 0, none⟩) 1 (NumC .i64 [a]) := fun _ => ⟨w5.heap.size, 0, rfl, by simp, fun k9 j9 h1 h2 => by
        obtain rfl : k9 = 0 := by omega
        obtain rfl : j9 = 0 := by omega
        simp [NumC]⟩
      have hfr := rfree_new A k c S a z E (some ⟨w5.heap.size, 0, none⟩) 1 1 [a] _ (HH.out.keep (HB5.out.alloc HB5.out.size (.cells #[.int .i64 a] 3))) HR.out rfl (by omega) hone
      have HFR := Lib.hid hfr
      clear hone hfr
      go_upto_region 10 with (go_at_call 38; refine HFR.out.mono ?_; rintro e w6 ⟨g6, seen, rfl, hbk, hsl, hiff, hb6, hg6⟩; have HF6 := Lib.hid (And.intro hbk (And.intro hsl (And.intro hiff (And.intro hb6 hg6)))); clear hbk hsl hiff hb6 hg6)
      have hE : OkE E S := okE_of HR.out
      have hseen := marks_of hE HF6.out.2.1 HF6.out.2.2.1
      have hb56 : Below w5.heap.size w5 w6 := ((Below.refl w5.heap.size w5).alloc (Nat.le_refl _) _).trans (HF6.out.2.2.2.1.mono (by simp))
      have hsz6 := (HB5.out.trans (hb56.mono HB5.out.size)).size
      have hlt5 : W.heap.size < w5.heap.size := HX5.out.lt
      have hsa : SA W [.int .i64 (S : Int), .int .i64 a, .int .i64 z, .slice A k c] gc cls S (.slice (some ⟨w6.heap.size, 0, none⟩) 1 1) [.slice (some ⟨g6, 0, none⟩) S S] [closN E S [a]] (w6.alloc (.cells #[.slice (some ⟨g6, 0, none⟩) S S] 36)) := by
        refine ⟨(HB5.out.trans (hb56.mono HB5.out.size)).alloc hsz6 _, (HX5.out.below hb56 HX5.out.lt).alloc _, (HCB.out.below hb56 HCB.out.lt).alloc _, ?_, fun q hq => ?_, by rw [World.size_alloc]; omega⟩
        · have := World.ownsRow_lit w6 #[.slice (some ⟨g6, 0, none⟩) S S] 1 (base := W.heap.size + 1) (e := 36) (size := 1) (by have := hb56.size; omega) (by unfold maxLen; omega) (by simp)
          exact this
        · obtain rfl : q = 0 := by simpa using hq
          refine ⟨g6, rfl, ?_⟩
          have h9 := HF6.out.1
          rw [hseen] at h9
          exact h9.alloc _
      have HSA := Lib.hid hsa
      have HE := Lib.hid hE
      clear hE hseen hb56 hsz6 hlt5 hsa q0 q1 q2 q3 HF6 HFR HCB HB5 HX5
      go_upto_region 11 with (fail)
      generalize w6.alloc (.cells #[.slice (some ⟨g6, 0, none⟩) S S] 36) = w7 at HSA ⊢
      have hmh := HC.out.hi
      go_loopw [10, 11] (fun v iv wr => ∃ (i : Nat) (all : List (List Nat)) (vs : List Value), iv = .int .i64 (i : Int) ∧ i ≤ all.length ∧ SA W [.int .i64 (S : Int), .int .i64 a, .int .i64 z, .slice A k c] gc cls S v vs all wr ∧ SM E S a cls i 0 all) (fun _ iv _ => 402 - (intOf iv).toNat)
      case atStart => exact ⟨0, _, _, rfl, by simp, HSA.out, sm_start⟩
      case round =>
        clear HSA
        obtain ⟨i, all, vs, rfl, hi, hsa, hsm⟩ := hrel
        obtain ⟨w8, rfl⟩ : ∃ w8 : World, w8 = wr := ⟨_, rfl⟩
        have hfew := hsm.few
        obtain ⟨al, hal⟩ : ∃ al, al = all.length := ⟨_, rfl⟩
        obtain ⟨Aa, ca, hva⟩ := own_slice hsa.own
        rw [← hal] at hva hi hfew
        subst hva
        have HSA := Lib.hid hsa
        have HSM := Lib.hid hsm
        have HAL := Lib.hid hal
        clear hsa hsm hal
        by_cases hlt : i < al
        · have d2 : decide ((i : Int) < (al : Int)) = true := by simp; omega
          go_upto_region 14 with (fail)
          go_loopw [10, 12] (fun v cv wr => ∃ (cc : Nat) (all : List (List Nat)) (vs : List Value), cv = .int .i64 (cc : Int) ∧ cc ≤ many ∧ SA W [.int .i64 (S : Int), .int .i64 a, .int .i64 z, .slice A k c] gc cls S v vs all wr ∧ SM E S a cls i cc all ∧ i < all.length) (fun _ cv _ => many - (intOf cv).toNat)
          case atStart => exact ⟨0, all, vs, rfl, by omega, HSA.out, HSM.out, by rw [← HAL.out]; exact hlt⟩
          case round =>
            clear HSA HSM HAL hlt hi hfew d2
            obtain ⟨cc, all, vs, rfl, hcc, hsa, hsm, hia⟩ := hrel
            obtain ⟨w9, rfl⟩ : ∃ w9 : World, w9 = wr := ⟨_, rfl⟩
            have hfew := hsm.few
            obtain ⟨al, hal⟩ : ∃ al, al = all.length := ⟨_, rfl⟩
            obtain ⟨Aa, ca, hva⟩ := own_slice hsa.own
            rw [← hal] at hva hfew
            subst hva
            have HSA := Lib.hid hsa
            have HSM := Lib.hid hsm
            have HAL := Lib.hid hal
            have HIA := Lib.hid hia
            clear hsa hsm hal hia
            by_cases hltc : cc < many
            · have d3 : decide ((cc : Int) < (many : Int)) = true := by simp; omega
              obtain ⟨b0, hb0, hcb0⟩ := HC.out.has cc hltc
              have HB0' := Lib.hid hcb0
              clear hcb0
              go_upto_region 17 with (fail)
              go_loopw [13] (fun bv wr => ∃ b : Nat, bv = .int .i64 (b : Int) ∧ b ≤ b0 ∧ wr = w9) (fun bv _ => 256 - (intOf bv).toNat)
              case atStart => exact ⟨0, rfl, by omega, rfl⟩
              case round =>
                obtain ⟨b, rfl, hbb, hwr⟩ := hrel
                subst hwr
                have hb256 : b < 256 := by omega
                have c0 := HSA.out.cb.cell b
                rw [bytV_get _ hb256] at c0
                obtain ⟨x, hx⟩ : ∃ x, x = cls b := ⟨_, rfl⟩
                rw [← hx] at c0
                have hx256 : x < 256 := by have := HC.out.lt b hb256; omega
                by_cases hxc : x = cc
                · have e5 : ((x : Int) != (cc : Int)) = false := by simp; omega
                  have HXC := Lib.hid (show cls b = cc by rw [← hx]; exact hxc)
                  clear hx hxc
                  have har := HSA.out.own
                  rw [← HAL.out] at har
                  have hial : i < al := by rw [HAL.out]; exact HIA.out
                  obtain ⟨ba, oa, rfl, _, s0⟩ := (Arr.of_own har).one hial
                  obtain ⟨gX, hgX, hbX⟩ := HSA.out.rows i HIA.out
                  rw [hgX] at s0
                  have hwb : (b : Int) % 256 = (b : Int) := by omega
                  have hwb2 : IntKind.u8.wrap (b : Int) = (b : Int) := IntWalk.u8_in _ (by omega)
                  have hil : (i : Int) < (al : Int) := by omega
                  have hXR := HSM.out.rs (all.getD i []) (getD_mem HIA.out)
                  have hov := fun w' (hb9 : Below wr.heap.size wr w') => over_any A k c S a z E gX S (marks S (all.getD i [])) b w' (HH.out.keep (HSA.out.bel.trans (hb9.mono HSA.out.bel.size))) HR.out HU.out (marks_len _ _) (hbX.below hb9 hbX.lt) hb256
                  have hYR := fun hm : moveL E (all.getD i []) b ≠ [] => RSet.step hXR hb256 hm
                  have hos := over_step HE.out (all.getD i []) b
                  obtain ⟨X, hX⟩ : ∃ X, X = all.getD i [] := ⟨_, rfl⟩
                  rw [← hX] at hov hYR hos hXR
                  obtain ⟨Y, hY⟩ : ∃ Y, Y = stepN E S X b := ⟨_, rfl⟩
                  rw [← hY] at hos hYR
                  have hYs : ∀ q ∈ Y, q < S := fun q hq => by rw [hY] at hq; exact closN_lt hq
                  have HOV := Lib.hid hov
                  have HY := Lib.hid (And.intro hX (And.intro hY (And.intro hos (And.intro hYR (And.intro hYs hXR)))))
                  obtain ⟨r0, r1, r2, r3⟩ := HSA.out.ncells
                  clear hov hX hY hos hYR hYs hXR hgX hbX har hial
                  go_upto_region 19 with (fail)
                  go_region_held3 (fun W' => Below wr.heap.size wr W' ∧ W'.cell? ⟨W.heap.size, 0, none⟩ = some (.int .i64 (S : Int)) ∧ W'.cell? ⟨W.heap.size, 1, none⟩ = some (.int .i64 a) ∧ W'.cell? ⟨W.heap.size, 2, none⟩ = some (.int .i64 z) ∧ W'.cell? ⟨W.heap.size, 3, none⟩ = some (.slice A k c) ∧ W'.cell? ⟨ba, oa + i, none⟩ = some (.slice (some ⟨gX, 0, none⟩) S S))
                    (first
                      | assumption
                      | exact ⟨(Below.refl _ _).drew, r0, r1, r2, r3, s0⟩
                      | exact ⟨hB10, hC10.1, hC10.2.1, hC10.2.2.1, hC10.2.2.2.1, hC10.2.2.2.2⟩)
                    (first
                      | (go_at_call 39; go_split_ands; refine (HOV.out _ (by assumption)).mono ?_; rintro e w10 ⟨g10, seen, rfl, hbk, hsl, hiff, hb10, hg10⟩; have hB10 : Below wr.heap.size wr w10 := Below.trans (by assumption) (hb10.mono (Below.size (by assumption))); have hC10 := keep5 (by assumption : _ = some (Value.int .i64 (S : Int))) (by assumption : _ = some (Value.int .i64 a)) (by assumption : _ = some (Value.int .i64 z)) (by assumption : _ = some (Value.slice A k c)) (by assumption : _ = some (Value.slice (some ⟨gX, 0, none⟩) S S)) hb10))
                  go_split_ands
                  have hseen := marks_of HE.out hsl hiff
                  rw [HY.out.2.2.1] at hseen
                  rw [hseen] at hbk
                  have HS10 := Lib.hid (HSA.out.go hB10)
                  have HBK := Lib.hid hbk
                  have hem := empty_any g10 S S (marks S Y) w10 (by omega) (marks_len _ _) hbk
                  rw [marks_empty HY.out.2.2.2.2.1] at hem
                  obtain ⟨eb, heb⟩ : ∃ x, x = decide (Y = []) := ⟨_, rfl⟩
                  rw [← heb] at hem
                  have HEM := Lib.hid hem
                  have HEB := Lib.hid heb
                  clear hseen hbk hsl hiff hb10 hg10 hB10 hem heb r0 r1 r2 r3 s0 c0
                  cases eb with
                  | true =>
                    have hY0 : Y = [] := by have := HEB.out.symm; simpa using this
                    have hm0 : moveL E X b = [] := (stepN_nil HE.out).1 (by rw [← HY.out.2.1]; exact hY0)
                    have HM0 := Lib.hid hm0
                    clear hY0 hm0
                    go_wp2_with (go_at_call 40; refine HEM.out.mono ?_; rintro e w11 ⟨rfl, rfl⟩)
                    go_roundw
                    case rel => exact ⟨cc + 1, all, vs, by go_num, by omega, HS10.out, HSM.out.step HC.out hb256 HXC.out (fun hm => by rw [← HY.out.1] at hm; exact absurd HM0.out hm), HIA.out⟩
                    case measure => simp [intOf]; omega
                  | false =>
                    have hm0 : moveL E X b ≠ [] := fun h9 => by
                      have h8 : Y = [] := by rw [HY.out.2.1]; exact (stepN_nil HE.out).2 h9
                      have := HEB.out
                      rw [h8] at this
                      simp at this
                    have HM0 := Lib.hid hm0
                    clear hm0
                    go_upto_region 23 with (go_at_call 40; refine HEM.out.mono ?_; rintro e w11 ⟨rfl, rfl⟩)
                    go_loopw [15, 77] (fun sv qv wr => ∃ (q m : Nat) (sb : Bool), qv = .int .i64 (q : Int) ∧ q ≤ al ∧ sv = .bool sb ∧ sb = decide (Y ∈ all.take q) ∧ wr = w11.drewN m) (fun _ qv _ => al - (intOf qv).toNat)
                    case atStart => exact ⟨0, 0, false, rfl, by omega, rfl, by simp, rfl⟩
                    case round =>
                      obtain ⟨q, m, sb, rfl, hq, rfl, hsb, rfl⟩ := hrel
                      have HSB := Lib.hid hsb
                      clear hsb
                      have HS11 := Lib.hid (HS10.out.go (below_drewN (Below.refl _ _) m))
                      have HBK11 := Lib.hid (HBK.out.below (below_drewN (Below.refl w11.heap.size w11) m) HBK.out.lt)
                      by_cases hltq : q < al
                      · have d6 : decide ((q : Int) < (al : Int)) = true := by simp; omega
                        have hql : q < all.length := by rw [← HAL.out]; exact hltq
                        have har := HS11.out.own
                        rw [← HAL.out] at har
                        obtain ⟨bq, oq, hbq, _, s0⟩ := (Arr.of_own har).one hltq
                        simp only [Option.some.injEq, Addr.mk.injEq, and_true] at hbq
                        obtain ⟨rfl, rfl⟩ := hbq
                        obtain ⟨gq, hgq, hbkq⟩ := HS11.out.rows q hql
                        rw [hgq] at s0
                        have hnx := mem_take_next (all := all) (Y := Y) hql
                        have hZs := HSM.out.rs (all.getD q []) (getD_mem hql)
                        have hia := ints_any (some ⟨g10, 0, none⟩) (some ⟨gq, 0, none⟩) S S S (intsM (marks S Y)) (intsM (marks S (all.getD q []))) (w11.drewN m) (by rw [intsM_len, marks_len]) (by rw [intsM_len, marks_len]) (by omega) (bits_arr HBK11.out (marks_len _ _)) (bits_arr hbkq (marks_len _ _))
                        have hYr := HY.out.2.2.2.1 HM0.out
                        have heq : decide (intsM (marks S Y) = intsM (marks S (all.getD q []))) = decide (Y = all.getD q []) := by
                          apply Bool.eq_iff_iff.2
                          rw [decide_eq_true_eq, decide_eq_true_eq]
                          exact ⟨fun h9 => marks_inj hYr.sorted hZs.sorted (intsM_inj h9), fun h9 => by rw [← h9]⟩
                        rw [heq] at hia
                        rw [← HSB.out] at hnx
                        obtain ⟨r9, hr9⟩ : ∃ r, r = decide (Y = all.getD q []) := ⟨_, rfl⟩
                        rw [← hr9] at hia hnx
                        have HIA9 := Lib.hid hia
                        have HNX := Lib.hid hnx
                        clear har hgq hbkq hnx hZs hia hYr heq hr9 hql
                        cases sb with
                        | true =>
                          go_wp2_with fail
                          go_roundw
                          case rel => exact ⟨q + 1, m, true, by go_num, by omega, rfl, by rw [HNX.out]; rfl, by first | rfl | trivial⟩
                          case measure => simp [intOf]; omega
                        | false =>
                          go_wp2_with (go_at_call 15; refine HIA9.out.mono ?_; rintro e w12 ⟨rfl, m2, rfl⟩)
                          go_roundw
                          case rel => exact ⟨q + 1, m + m2, r9, by go_num, by omega, rfl, by rw [HNX.out]; simp, by first | rfl | exact World.drewN_drewN _ _ _ | trivial⟩
                          case measure => simp [intOf]; omega
                      · have hqe : q = al := by omega
                        have d6 : decide ((q : Int) < (al : Int)) = false := by simp; omega
                        have hsb := HSB.out
                        rw [List.take_of_length_le (by rw [hqe, HAL.out]; exact Nat.le_refl _)] at hsb
                        have HSB2 := Lib.hid hsb
                        clear hqe hsb
                        cases sb with
                        | true =>
                          go_wp2_with fail
                          go_roundw
                          case rel => exact ⟨cc + 1, all, vs, by go_num, by omega, HS11.out, HSM.out.step HC.out hb256 HXC.out (fun _ => by rw [← HY.out.1, ← HY.out.2.1]; have := HSB2.out.symm; simpa using this), HIA.out⟩
                          case measure => simp [intOf]; omega
                        | false =>
                          have hnin : Y ∉ all := by have := HSB2.out.symm; simpa using this
                          have HNI := Lib.hid hnin
                          clear hnin
                          by_cases hbig : 401 ≤ al
                          · have d7 : decide ((401 : Int) ≤ (al : Int)) = true := by simp; omega
                            have h401 : all.length = 401 := by rw [← HAL.out]; omega
                            have HMANY := Lib.hid (sets_many h401 HSM.out.nd HSM.out.rs)
                            clear h401 hbig
                            go_wp2_with fail
                            go_returns
                            first
                              | exact ⟨401, by first | rfl | simp, HMANY.out, HS11.out.bel⟩
                              | exact ⟨HMANY.out, HS11.out.bel⟩
                          · have d7 : decide ((401 : Int) ≤ (al : Int)) = false := by simp; omega
                            obtain ⟨i36, hi36, hz36, hsz36, hbt36⟩ := info_parts (show (Try.prog.info? 36).map (fun i => (i.zero, i.size, i.bytes)) = some (some (.slice none 0 0), 1, 24) by kernel_rfl)
                            generalize w11.drewN m = w12 at HS11 HBK11 ⊢
                            have hcn := cell_one_new w12 (.slice (some ⟨g10, 0, none⟩) S S) 36
                            have hszw : W.heap.size + 1 ≤ w12.heap.size := HS11.out.lt
                            have hal4 : al < 401 := by omega
                            have HFL := Lib.hid (show all.length < 401 by rw [← HAL.out]; omega)
                            clear hbig
                            go_wp2_with (at_builtin; (refine wpList_append_lies _ rfl _ _ 27 rfl (W.heap.size + 1) 36 i36 (.slice none 0 0) 1 24 Try.underlying27 hi36 hz36 hsz36 hbt36 rfl (by decide) (.slice (some ⟨ba, oa, none⟩) al ca) al vs rfl (by have h9 := HS11.out.own.alloc (.cells #[.slice (some ⟨g10, 0, none⟩) S S] 36); rw [← HAL.out] at h9; exact h9) ⟨w12.heap.size, 0, none⟩ 1 1 [.slice (some ⟨g10, 0, none⟩) S S] rfl rfl hcn (by simp [Value.oneCell']) (by omega) (by unfold maxLen; omega) (by omega) (by simp; omega) _ rfl ?_; intro g18 c18 w18 hown18 hgrow18 hat18 _))
                            go_roundw
                            case rel =>
                              have hb13 : Below w12.heap.size w12 (w12.alloc (.cells #[.slice (some ⟨g10, 0, none⟩) S S] 36)) := (Below.refl _ _).alloc (Nat.le_refl _) _
                              have hp := (HS11.out.go hb13).push (Y := Y) (g5 := g18) (c5 := c18) (g := g10) (HBK11.out.alloc _) (by rw [← HAL.out]; exact hown18) hgrow18
                              rw [← HAL.out] at hp
                              have hg := HSM.out.grow HIA.out HNI.out (HY.out.2.2.2.1 HM0.out) HFL.out
                              have hgi : (all ++ [Y]).getD i [] = X := by rw [getD_appL _ HIA.out]; exact HY.out.1.symm
                              exact ⟨cc + 1, all ++ [Y], _, by go_num, by omega, hp, hg.step HC.out hb256 HXC.out (fun _ => by rw [hgi, ← HY.out.2.1]; simp), by rw [List.length_append]; have := HIA.out; omega⟩
                            case measure => simp [intOf]; omega
                · have e5 : ((x : Int) != (cc : Int)) = true := by simp; omega
                  have hne : b ≠ b0 := fun e => hxc (by rw [hx, e]; exact HB0'.out)
                  clear hx hxc
                  go_wp2_with fail
                  go_roundw
                  case rel => exact ⟨b + 1, by go_num, by omega, by first | rfl | trivial⟩
                  case measure => simp [intOf]; omega
            · have hce : cc = many := by omega
              have d3 : decide ((cc : Int) < (many : Int)) = false := by simp; omega
              have hsm := HSM.out
              rw [hce] at hsm
              have HN := Lib.hid (hsm.next HC.out)
              have hial : i < al := by rw [HAL.out]; exact HIA.out
              clear hsm hce
              go_wp2_with fail
              go_roundw
              case rel => exact ⟨i + 1, all, vs, by go_num, HIA.out, HSA.out, HN.out⟩
              case measure => simp [intOf]; omega
        · have hie : i = al := by omega
          have d2 : decide ((i : Int) < (al : Int)) = false := by simp; omega
          have hsm := HSM.out
          rw [hie, HAL.out] at hsm
          have HS9 := Lib.hid (sm_says hsm)
          clear hsm hie
          go_wp2_with fail
          go_returns
          first
            | exact ⟨al, by first | rfl | simp, by rw [HAL.out]; exact HS9.out, HSA.out.bel⟩
            | exact ⟨by rw [HAL.out]; exact HS9.out, HSA.out.bel⟩
end Go.Proofs.Ytfjhcoeehjephaa
