/- The reference's Runs. -/
import Derived.Test.YtfjhcoeehjephaaEndsMd
import Derived.Test.YtfjhcoeehjephaaRFreeMd
import Derived.Deep.RegionHeld3
namespace Go.Proofs.Ytfjhcoeehjephaa
open Go.RowKit

structure Now (E : List Ed) (S : Nat) (a : Int) (s : ByteArray) (p0 p g : Nat) (seen : List Bool) (W : World) : Prop where
  blk : Blk W g 3 (bitsV seen)
  len : seen.length = S
  on : ∀ j, j < S → (seen.getD j false = true ↔ On E S a s p0 p (j : Int))
theorem Now.cell {E : List Ed} {S : Nat} {a : Int} {s : ByteArray} {p0 p g : Nat} {seen : List Bool} {W : World} (h : Now E S a s p0 p g seen W) {j : Nat} (hj : j < S) : W.cell? ⟨g, j, none⟩ = some (.int .i64 (if seen.getD j false = true then 1 else 0)) := by
  rw [h.blk.cell]; exact bitsV_get (by rw [h.len]; exact hj)
/-- the states that are read to, so far -/
def NxtR (E : List Ed) (S : Nat) (a : Int) (s : ByteArray) (p0 p q : Nat) (next : List Int) : Prop := next.length ≤ q ∧ ∀ i, i ∈ next ↔ ∃ e ∈ E.take q, Rd e s p ∧ On E S a s p0 p e.src ∧ e.dst = i

set_option maxRecDepth 100000 in
set_option maxHeartbeats 16000000 in
theorem rruns_ok (A : Option Addr) (n c S : Nat) (a z : Int) (E : List Ed) (s : ByteArray) (p0 : Nat) (w : World) (h : NfaIn w A n ⟨(S : Int), a, z, E⟩) (hr : RightN ⟨(S : Int), a, z, E⟩)
    (hu : ∀ e ∈ E, U64w e.s0 ∧ U64w e.s1 ∧ U64w e.s2 ∧ U64w e.s3) (hp : p0 ≤ s.size) (hs : s.size ≤ 1000000) :
    Calls Try.prog 17 #[.agg #[.int .i64 (S : Int), .int .i64 a, .int .i64 z, .slice A n c], .string s, .int .i64 (p0 : Int)] w fun e w' => ∃ A9 c9, e = .returned (.slice A9 (endsN E S a z s p0).length c9) ∧ Arr w' w'.heap.size 1 A9 (endsN E S a z s p0).length (NumC .i64 (endsN E S a z s p0)) ∧ Below w.heap.size w w' := by
  obtain ⟨i3, hi3, hz3, hsz3, hbt3⟩ := info_parts info3
  have hb0 : Below w.heap.size w (w.alloc (.cells #[.int .i64 (S : Int), .int .i64 a, .int .i64 z, .slice A n c] 24)) := (Below.refl _ _).alloc (Nat.le_refl _) _
  have hk0 : Blk (w.alloc (.cells #[.int .i64 (S : Int), .int .i64 a, .int .i64 z, .slice A n c] 24)) w.heap.size 24 [.int .i64 (S : Int), .int .i64 a, .int .i64 z, .slice A n c] := Blk.new w 24 _
  have hl : E.length = n := h.len
  have hfew : E.length ≤ 16000 := hr.few
  have hS : S ≤ 2000 := by have : (S : Int) ≤ 2000 := hr.hi; omega
  have HA := Lib.hid (show Arr _ _ 7 A n (EdC E) from (h.keep hb0).arr)
  have HN := Lib.hid (h.keep hb0)
  have HB := Lib.hid hb0
  have HK := Lib.hid hk0
  have HE := Lib.hid (okE_of hr)
  have HR := Lib.hid hr
  have HU := Lib.hid hu
  have ha0 : 0 ≤ a := hr.alo
  have haS : a < (S : Int) := hr.ahi
  have hz0 : 0 ≤ z := hr.zlo
  have hzS : z < (S : Int) := hr.zhi
  obtain ⟨zj, rfl⟩ := Int.eq_ofNat_of_zero_le hz0
  have hzj : zj < S := by omega
  have k0 := hk0.cell 0
  have k1 := hk0.cell 1
  have k2 := hk0.cell 2
  have k3 := hk0.cell 3
  simp only [List.getElem?_cons_zero, List.getElem?_cons_succ] at k0 k1 k2 k3
  clear h hr hb0 hk0 hu
  go_enter Try.func17, Try.ntmps17
  go_wp2_with fail
  obtain ⟨W1, hW1⟩ : ∃ W1, W1 = (w.alloc (.cells #[.int .i64 (S : Int), .int .i64 a, .int .i64 (zj : Int), .slice A n c] 24)).alloc (.cells #[.int .i64 a] 3) := ⟨_, rfl⟩
  have hs1 : W1.heap.size = w.heap.size + 2 := by rw [hW1]; simp
  have hb1 : Below w.heap.size w W1 := by rw [hW1]; exact HB.out.alloc (by simp) _
  have hk1 : Blk W1 w.heap.size 24 [.int .i64 (S : Int), .int .i64 a, .int .i64 (zj : Int), .slice A n c] := by rw [hW1]; exact HK.out.alloc _
  have hn1 : NfaIn W1 A n ⟨(S : Int), a, (zj : Int), E⟩ := HN.out.keep (by rw [hW1]; exact (Below.refl _ _).alloc (Nat.le_refl _) _)
  have har1 : Arr W1 W1.heap.size 1 (some ⟨w.heap.size + 1, 0, none⟩) 1 (NumC .i64 [a]) := fun _ => by
    refine ⟨w.heap.size + 1, 0, rfl, by omega, fun k j hk hj => ?_⟩
    obtain rfl : k = 0 := by omega
    obtain rfl : j = 0 := by omega
    have := (Boxed.new (w.alloc (.cells #[.int .i64 (S : Int), .int .i64 a, .int .i64 (zj : Int), .slice A n c] 24)) 3 (.int .i64 a)).cell
    rw [World.size_alloc] at this
    rw [hW1]
    simp [NumC]
  rw [← hW1]
  clear hW1 HB HK HN HA k0 k1 k2 k3
  refine (rfree_new A n c S a (zj : Int) E _ 1 1 [a] W1 hn1 HR.out rfl (by omega) har1).mono ?_
  rintro e w2 ⟨g, seen, rfl, hbl, hsl, hsn, hb2, hgl⟩
  have hk2 : Blk w2 w.heap.size 24 [.int .i64 (S : Int), .int .i64 a, .int .i64 (zj : Int), .slice A n c] := hk1.below hb2 hk1.lt
  have HK := Lib.hid hk2
  have HN := Lib.hid (hn1.keep hb2)
  have HB := Lib.hid (hb1.trans (hb2.mono (by omega)))
  have hs2 := hb2.size
  have hnow : Now E S a s p0 p0 g seen w2 := ⟨hbl, hsl, fun j hj => by rw [hsn j hj]; exact on_start (by simp) ⟨ha0, haS⟩ _⟩
  have HNOW := Lib.hid hnow
  have hgb := hbl.lt
  clear hk1 hn1 har1 hbl hsl hsn hb2 hb1 hk2 hnow
  go_wp2_with fail
  obtain ⟨w2z, hw2z⟩ : ∃ w2z, w2z = w2.heap.size := ⟨_, rfl⟩
  have HZ := Lib.hid hw2z
  go_loopw [2, 7, 8] (fun av nv ov wr => ∃ (p g : Nat) (seen : List Bool) (out : List Int), p0 ≤ p ∧ p ≤ s.size ∧ av = .int .i64 p ∧ nv = .slice (some ⟨g, 0, none⟩) S S ∧ Now E S a s p0 p g seen wr ∧ wr.ownsRow w2.heap.size 3 1 ov out.length (numsV .i64 out) ∧ out = outsTo (onB E S a (zj : Int) s p0) p0 (p - p0) ∧ Below w2.heap.size w2 wr ∧ ov.ownBlock ≠ some g) (fun av _ _ _ => s.size - (intOf av).toNat)
  case atStart =>
    refine ⟨p0, g, seen, [], Nat.le_refl _, hp, rfl, rfl, ⟨HNOW.out.blk.alloc _, HNOW.out.len, HNOW.out.on⟩, World.ownsRow_made w2 #[] 0 (Nat.le_refl _) (by simp [maxLen]) rfl, by simp [outsTo], (Below.refl _ _).alloc (Nat.le_refl _) _, fun e => ?_⟩
    have : w2.heap.size = g := by simpa [Value.ownBlock] using e
    omega
  case round =>
    obtain ⟨p, g, seen, out, hlo, hps, rfl, rfl, hnow, hown, hout, hbe, hsep⟩ := hrel
    obtain ⟨v, rfl⟩ : ∃ v : Value, v = u8 := ⟨_, rfl⟩
    obtain ⟨w3, rfl⟩ : ∃ w3 : World, w3 = wr := ⟨_, rfl⟩
    have hbz := hbe.size
    have hk3 : Blk w3 w.heap.size 24 [.int .i64 (S : Int), .int .i64 a, .int .i64 (zj : Int), .slice A n c] := HK.out.below hbe HK.out.lt
    have k0 := hk3.cell 0
    have k1 := hk3.cell 1
    have k2 := hk3.cell 2
    have k3 := hk3.cell 3
    simp only [List.getElem?_cons_zero, List.getElem?_cons_succ] at k0 k1 k2 k3
    have HK3 := Lib.hid hk3
    have hcz := hnow.cell hzj
    have HO := Lib.hid hown
    have HBE := Lib.hid hbe
    have HNW := Lib.hid hnow
    have HOUT := Lib.hid hout
    have HSEP := Lib.hid hsep
    have hol : out.length ≤ 1000000 := by rw [hout]; have := outsTo_len (onB E S a (zj : Int) s p0) p0 (p - p0); omega
    obtain ⟨hh, hhh⟩ : ∃ hh, hh = seen.getD zj false := ⟨_, rfl⟩
    have hB9 : onB E S a (zj : Int) s p0 (p - p0) = hh := by
      rw [hhh]
      apply Bool.eq_iff_iff.2
      rw [onB_iff, hnow.on zj hzj, show p0 + (p - p0) = p by omega]
    rw [← hhh] at hcz
    have hnx := outsTo_next (onB E S a (zj : Int) s p0) p0 (p - p0)
    rw [hB9, show p0 + (p - p0) = p by omega, ← hout] at hnx
    have HNX := Lib.hid hnx
    clear hnow hown hbe hk3 hout hsep hhh hB9 hnx HNOW
    obtain ⟨out2, hout2⟩ : ∃ out2, out2 = if hh = true then out ++ [(p : Int)] else out := ⟨_, rfl⟩
    rw [← hout2] at HNX
    go_upto_if 23 with (fail)
    go_cut [8] from 22 (fun v wx => wx.ownsRow w2.heap.size 3 1 v out2.length (numsV .i64 out2) ∧ Below w2.heap.size w2 wx ∧ v.ownBlock ≠ some g ∧ Now E S a s p0 p g seen wx)
    case first =>
      cases hh with
      | true =>
        rw [if_pos rfl] at hout2
        subst hout2
        have hcn := cell_one_new w3 (.int .i64 (p : Int)) 3
        go_wp2_with (first | (at_builtin; (refine wpList_append_lies _ rfl _ _ 36 rfl w2.heap.size 3 i3 (.int .i64 0) 1 8 Try.underlying36 hi3 hz3 hsz3 hbt3 rfl (by decide) v _ _ rfl (HO.out.alloc _) ⟨w3.heap.size, 0, none⟩ 1 1 [.int .i64 (p : Int)] rfl rfl hcn (by simp [Value.oneCell']) (by omega) (by unfold maxLen; omega) (by omega) (by simp; omega) _ rfl ?_; intro g5 c5 w5 hown5 hgrow5 hat5 _)))
        go_meet
        have hgl := HNW.out.blk.lt
        refine ⟨by rw [List.length_append, numsV_snoc]; exact hown5, (HBE.out.alloc hbz _).grown hgrow5 (by simp; omega) (fun b e => (HO.out.lt b e).1), fun e => ?_, ⟨((HNW.out.blk.alloc _).same (hgrow5.block _ (by simp; omega) (fun e => HSEP.out e.symm))), HNW.out.len, HNW.out.on⟩⟩
        have e9 : g5 = g := by simpa [Value.ownBlock] using e
        rcases hat5 with hat5 | hat5
        · exact HSEP.out (e9 ▸ hat5)
        · simp at hat5; omega
      | false =>
        rw [if_neg (by decide)] at hout2
        subst hout2
        go_wp2_with fail
        go_meet
        exact ⟨HO.out, HBE.out, HSEP.out, HNW.out⟩
    case rest =>
    obtain ⟨hown2, hbe2, hsep2, hnow2⟩ := hcut
    obtain ⟨v2, rfl⟩ : ∃ v2 : Value, v2 = u8 := ⟨_, rfl⟩
    obtain ⟨w4, rfl⟩ : ∃ w4 : World, w4 = wc := ⟨_, rfl⟩
    have hbz2 := hbe2.size
    have hk4 : Blk w4 w.heap.size 24 [.int .i64 (S : Int), .int .i64 a, .int .i64 (zj : Int), .slice A n c] := HK.out.below hbe2 HK.out.lt
    have HO2 := Lib.hid hown2
    have HBE2 := Lib.hid hbe2
    have HNW2 := Lib.hid hnow2
    have HSEP2 := Lib.hid hsep2
    have j0 := hk4.cell 0
    have j1 := hk4.cell 1
    have j2 := hk4.cell 2
    have j3 := hk4.cell 3
    simp only [List.getElem?_cons_zero, List.getElem?_cons_succ] at j0 j1 j2 j3
    have HK4 := Lib.hid hk4
    clear hown2 hbe2 hsep2 hnow2 HO HBE HNW HSEP HK3 k0 k1 k2 k3 hcz hk4 hout2
    by_cases hend : p = s.size
    · have e2 : decide ((s.size : Int) ≤ (p : Int)) = true := by simp [hend]
      have e2n : decide (s.size ≤ p) = true := by simp [hend]
      have hfin : out2 = endsN E S a (zj : Int) s p0 := by
        unfold endsN
        rw [← HNX.out, hend, show s.size + 1 - p0 = s.size - p0 + 1 by omega]
      have HFIN := Lib.hid hfin
      clear hfin
      obtain ⟨A9, c9, rfl⟩ := own_slice HO2.out
      go_wp2_with fail
      go_returns
      rw [← HFIN.out]
      first
        | exact ⟨A9, c9, rfl, own_num HO2.out, HB.out.trans (HBE2.out.mono HB.out.size)⟩
        | exact ⟨A9, ⟨c9, rfl⟩, own_num HO2.out, HB.out.trans (HBE2.out.mono HB.out.size)⟩
    · have e2 : decide ((s.size : Int) ≤ (p : Int)) = false := by simp; omega
      have e2n : decide (s.size ≤ p) = false := by simp; omega
      have hpl : p < s.size := by omega
      have j3' := cell_al j3 (.cells #[] 3)
      go_wp2_with fail
      have hrow0 : (w4.alloc (.cells #[] 3)).ownsRow w4.heap.size 3 1 (.slice (some ⟨w4.heap.size, 0, none⟩) 0 0) 0 [] := World.ownsRow_made w4 #[] 0 (Nat.le_refl _) (by simp [maxLen]) rfl
      have hbe5 : Below w4.heap.size w4 (w4.alloc (.cells #[] 3)) := (Below.refl _ _).alloc (Nat.le_refl _) _
      go_loopw [9, 37] (fun nv i wr => ∃ (q : Nat) (next : List Int), q ≤ n ∧ i = .int .i64 q ∧ wr.ownsRow w4.heap.size 3 1 nv next.length (numsV .i64 next) ∧ NxtR E S a s p0 p q next ∧ Below w4.heap.size w4 wr) (fun _ i _ => n - (intOf i).toNat)
      case atStart => exact ⟨0, [], by omega, rfl, hrow0, ⟨by simp, fun i => by simp⟩, hbe5⟩
      case round =>
        obtain ⟨q, next, hq, rfl, hown, hnx, hbe⟩ := hrel
        obtain ⟨nv, rfl⟩ : ∃ nv : Value, nv = u9 := ⟨_, rfl⟩
        obtain ⟨w5, rfl⟩ : ∃ w5 : World, w5 = wr := ⟨_, rfl⟩
        have HOW := Lib.hid hown
        have HBW := Lib.hid hbe
        have HNT := Lib.hid hnx
        have hbw := hbe.size
        have hbe25 : Below w2.heap.size w2 w5 := HBE2.out.trans (hbe.mono hbz2)
        have HB25 := Lib.hid hbe25
        clear hown hbe hnx hrow0 hbe5 j0 j1 j2 j3 j3'
        by_cases hlt : q < n
        · obtain ⟨b7, o7, rfl, hbl7, s0, s1, s2, s3, s4, s5, s6⟩ := ((show Arr w5 w2.heap.size 7 _ _ _ from HN.out.arr.below hbe25)).seven hlt
          have hql : q < E.length := by omega
          have hem : E.getD q noEd ∈ E := by simp [hql]
          have htk : E.take (q + 1) = E.take q ++ [E.getD q noEd] := by
            rw [List.take_succ_eq_append_getElem hql]
            simp [hql]
          obtain ⟨e, he⟩ : ∃ e, e = E.getD q noEd := ⟨_, rfl⟩
          rw [← he] at s0 s1 s2 s3 s4 s5 s6 hem htk
          obtain ⟨hx0, hxS, hy0, hyS⟩ := HE.out e hem
          obtain ⟨u0, u1, u2, u3⟩ := HU.out e hem
          have hskip : ¬ (Rd e s p ∧ On E S a s p0 p e.src) → NxtR E S a s p0 p (q + 1) next := fun hno => ⟨by have := HNT.out.1; omega, fun i => by
            rw [HNT.out.2 i, htk]
            constructor
            · rintro ⟨e', h1, h2⟩; exact ⟨e', List.mem_append_left _ h1, h2⟩
            · rintro ⟨e', h1, h2, h3, h4⟩
              rcases List.mem_append.1 h1 with h1 | h1
              · exact ⟨e', h1, h2, h3, h4⟩
              · obtain rfl : e' = e := by simpa using h1
                exact absurd ⟨h2, h3⟩ hno⟩
          have hpush : Rd e s p → On E S a s p0 p e.src → NxtR E S a s p0 p (q + 1) (next ++ [e.dst]) := fun hr ho => ⟨by have := HNT.out.1; simp; omega, fun i => by
            rw [List.mem_append, HNT.out.2 i, htk]
            constructor
            · rintro (⟨e', h1, h2⟩ | h1)
              · exact ⟨e', List.mem_append_left _ h1, h2⟩
              · exact ⟨e, List.mem_append_right _ (by simp), hr, ho, (by simpa using h1 : i = e.dst).symm⟩
            · rintro ⟨e', h1, h2, h3, h4⟩
              rcases List.mem_append.1 h1 with h1 | h1
              · exact .inl ⟨e', h1, h2, h3, h4⟩
              · obtain rfl : e' = e := by simpa using h1
                right; rw [← h4]; simp⟩
          have HSK := Lib.hid (And.intro hskip hpush)
          have hrl := HNT.out.1
          have hqn : (q : Int) < (n : Int) := by omega
          clear he hem htk hskip hpush hbe25
          obtain ⟨x, y, f, t0, t1, t2, t3⟩ := e
          simp only at s0 s1 s2 s3 s4 s5 s6 hx0 hxS hy0 hyS HSK u0 u1 u2 u3
          obtain ⟨i, rfl⟩ := Int.eq_ofNat_of_zero_le hx0
          obtain ⟨j, rfl⟩ := Int.eq_ofNat_of_zero_le hy0
          have hi : i < S := by omega
          have hj : j < S := by omega
          obtain ⟨w6, hw6⟩ : ∃ w6, w6 = w5.alloc (.cells #[.int .i64 (i : Int), .int .i64 (j : Int), .bool f, .int .u64 t0, .int .u64 t1, .int .u64 t2, .int .u64 t3] 70) := ⟨_, rfl⟩
          have hw6s : w6.heap.size = w5.heap.size + 1 := by rw [hw6]; simp
          have HO6 := Lib.hid (show w6.ownsRow w4.heap.size 3 1 nv next.length (numsV .i64 next) by rw [hw6]; exact HOW.out.alloc _)
          have HB6 := Lib.hid (show Below w4.heap.size w4 w6 by rw [hw6]; exact HBW.out.alloc hbw _)
          have hbox : Blk w6 w5.heap.size 70 [.int .i64 (i : Int), .int .i64 (j : Int), .bool f, .int .u64 t0, .int .u64 t1, .int .u64 t2, .int .u64 t3] := by rw [hw6]; exact Blk.new _ _ _
          have hnow6 : Now E S a s p0 p g seen w6 := ⟨HNW2.out.blk.below HB6.out HNW2.out.blk.lt, HNW2.out.len, HNW2.out.on⟩
          have hci := hnow6.cell hi
          have hon := hnow6.on i hi
          have q0 := hbox.cell 0
          have q1 := hbox.cell 1
          have q2 := hbox.cell 2
          have q3 := hbox.cell 3
          have q4 := hbox.cell 4
          have q5 := hbox.cell 5
          have q6 := hbox.cell 6
          simp only [List.getElem?_cons_zero, List.getElem?_cons_succ] at q0 q1 q2 q3 q4 q5 q6
          have HON := Lib.hid hon
          have HW6 := Lib.hid hw6
          obtain ⟨eB, heB⟩ : ∃ eB, eB = w5.heap.size := ⟨_, rfl⟩
          have HEB := Lib.hid heB
          rw [← heB] at q0 q1 q2 q3 q4 q5 q6
          have hQ := And.intro q0 (And.intro q1 (And.intro q2 (And.intro q3 (And.intro q4 (And.intro q5 (And.intro q6 hci))))))
          have HQ := Lib.hid hQ
          rw [hw6] at hci
          clear hbox hnow6 hon hw6 heB q0 q1 q2 q3 q4 q5 q6 hQ
          cases f with
          | true =>
            go_wp2_with fail
            rw [← HW6.out, ← HEB.out]
            obtain ⟨m0, m1, m2, m3, m4, m5, m6, m7⟩ := HQ.out
            go_quiet (fail)
            go_wp2_with fail
            go_roundw
            case rel => exact ⟨q + 1, next, by omega, by go_num, own_drewN HO6.out _, HSK.out.1 (fun h9 => by have := h9.1.1; cases this), below_drewN HB6.out _⟩
            case measure => simp [intOf]; omega
          | false =>
            cases hsi : seen.getD i false with
            | false =>
              rw [hsi, if_neg (by decide)] at hci
              have hno : ¬ On E S a s p0 p (i : Int) := fun h9 => by
                have := HON.out.2 h9
                rw [hsi] at this
                cases this
              have HNO := Lib.hid hno
              obtain ⟨m0, m1, m2, m3, m4, m5, m6, m7⟩ := HQ.out
              rw [hsi, if_neg (by decide)] at m7
              clear hsi hno
              go_wp2_with fail
              rw [← HW6.out, ← HEB.out]
              go_quiet (fail)
              go_wp2_with fail
              go_roundw
              case rel => exact ⟨q + 1, next, by omega, by go_num, own_drewN HO6.out _, HSK.out.1 (fun h9 => HNO.out h9.2), below_drewN HB6.out _⟩
              case measure => simp [intOf]; omega
            | true =>
              have hyes := HON.out.1 hsi
              have HYES := Lib.hid hyes
              rw [hsi, if_pos rfl] at hci
              have hQ := HQ.out
              rw [hsi, if_pos rfl] at hQ
              have HQ2 := Lib.hid hQ
              clear hsi hyes hQ
              go_wp2_with fail
              rw [← HW6.out, ← HEB.out]
              obtain ⟨m0, m1, m2, m3, m4, m5, m6, m7⟩ := HQ2.out
              have hidx := index_at s p hpl
              have HHAS := Lib.hid (fun W => rhas_any t0 t1 t2 t3 u0 u1 u2 u3 (byteAt s p) (byteAt_lt s p) W)
              obtain ⟨hb, hhb⟩ : ∃ hb, hb = hasB t0 t1 t2 t3 (byteAt s p) := ⟨_, rfl⟩
              rw [← hhb] at HHAS
              have HHB := Lib.hid hhb
              clear hhb
              go_region_held3 (fun W' => W'.cell? ⟨eB, 0, none⟩ = some (.int .i64 (i : Int)) ∧ W'.cell? ⟨eB, 1, none⟩ = some (.int .i64 (j : Int)) ∧ W'.cell? ⟨eB, 2, none⟩ = some (.bool false) ∧ W'.cell? ⟨eB, 3, none⟩ = some (.int .u64 t0) ∧ W'.cell? ⟨eB, 4, none⟩ = some (.int .u64 t1) ∧ W'.cell? ⟨eB, 5, none⟩ = some (.int .u64 t2) ∧ W'.cell? ⟨eB, 6, none⟩ = some (.int .u64 t3) ∧ W'.cell? ⟨g, i, none⟩ = some (.int .i64 1))
                (first
                  | assumption
                  | exact ⟨m0, m1, m2, m3, m4, m5, m6, m7⟩
                  | (go_split_ands; exact ⟨cell_al (by assumption) _, cell_al (by assumption) _, cell_al (by assumption) _, cell_al (by assumption) _, cell_al (by assumption) _, cell_al (by assumption) _, cell_al (by assumption) _, cell_al (by assumption) _⟩))
                (first
                  | (go_at_call 42; refine (HHAS.out _).mono ?_; rintro e w9 ⟨rfl, rfl⟩))
              have hrdi : Rd ⟨(i : Int), (j : Int), false, t0, t1, t2, t3⟩ s p ↔ hb = true := by
                have h7 : hasE ⟨(i : Int), (j : Int), false, t0, t1, t2, t3⟩ (byteAt s p) = hasB t0 t1 t2 t3 (byteAt s p) := rfl
                rw [HHB.out, ← h7]
                exact ⟨fun h9 => h9.2, fun h9 => ⟨rfl, h9⟩⟩
              have HRD := Lib.hid hrdi
              go_split_ands
              have HO7 := Lib.hid ((HO6.out.alloc (.cells #[.int .u64 t0, .int .u64 t1, .int .u64 t2, .int .u64 t3] 46)).drew)
              have HB7 := Lib.hid (HB6.out.alloc (by omega) (.cells #[.int .u64 t0, .int .u64 t1, .int .u64 t2, .int .u64 t3] 46)).drew
              have hz7 : w4.heap.size ≤ ((w6.alloc (.cells #[.int .u64 t0, .int .u64 t1, .int .u64 t2, .int .u64 t3] 46)).drew).heap.size := HB7.out.size
              clear hrdi m0 m1 m2 m3 m4 m5 m6 m7 hci
              have p1 : ((w6.alloc (.cells #[.int .u64 t0, .int .u64 t1, .int .u64 t2, .int .u64 t3] 46)).drew).cell? ⟨eB, 1, none⟩ = some (.int .i64 (j : Int)) := cell_al HQ2.out.2.1 (.cells #[.int .u64 t0, .int .u64 t1, .int .u64 t2, .int .u64 t3] 46)
              generalize (w6.alloc (.cells #[.int .u64 t0, .int .u64 t1, .int .u64 t2, .int .u64 t3] 46)).drew = w7 at HO7 HB7 hz7 p1 ⊢
              cases hb with
              | false =>
                go_wp2_with fail
                go_roundw
                case rel => exact ⟨q + 1, next, by omega, by go_num, HO7.out, HSK.out.1 (fun h9 => by have := HRD.out.1 h9.1; cases this), HB7.out⟩
                case measure => simp [intOf]; omega
              | true =>
                have hcn := cell_one_new w7 (.int .i64 (j : Int)) 3
                go_wp2_with (first | (at_builtin; (refine wpList_append_lies _ rfl _ _ 36 rfl w4.heap.size 3 i3 (.int .i64 0) 1 8 Try.underlying36 hi3 hz3 hsz3 hbt3 rfl (by decide) nv _ _ rfl (HO7.out.alloc _) ⟨w7.heap.size, 0, none⟩ 1 1 [.int .i64 (j : Int)] rfl rfl hcn (by simp [Value.oneCell']) (by omega) (by unfold maxLen; omega) (by omega) (by simp; omega) _ rfl ?_; intro g5 c5 w8 hown5 hgrow5 hat5 _)))
                go_roundw
                case rel => exact ⟨q + 1, _, by omega, by go_num, by rw [List.length_append, numsV_snoc]; exact hown5, HSK.out.2 (HRD.out.2 rfl) HYES.out, (HB7.out.alloc hz7 _).grown hgrow5 (by simp; omega) (fun b e => (HO7.out.lt b e).1)⟩
                case measure => simp [intOf]; omega
        · obtain rfl : q = n := by omega
          obtain ⟨A9, c9, rfl⟩ := own_slice HOW.out
          have hk5 : Blk w5 w.heap.size 24 [.int .i64 (S : Int), .int .i64 a, .int .i64 (zj : Int), .slice A q c] := HK4.out.below HBW.out (by have := HK.out.lt; omega)
          have k0 := hk5.cell 0
          have k1 := hk5.cell 1
          have k2 := hk5.cell 2
          have k3 := hk5.cell 3
          simp only [List.getElem?_cons_zero, List.getElem?_cons_succ] at k0 k1 k2 k3
          have hL9 : ∀ i, i ∈ next ↔ ∃ e ∈ E, Rd e s p ∧ On E S a s p0 p e.src ∧ e.dst = i := by
            have := HNT.out.2
            rw [List.take_of_length_le (by omega)] at this
            exact this
          have HL9 := Lib.hid hL9
          have hnl := HNT.out.1
          clear hk5 hL9
          go_wp2_with fail
          refine (rfree_new A q c S a (zj : Int) E A9 next.length c9 next w5 (HN.out.keep HB25.out) HR.out rfl (by omega) (own_num HOW.out)).mono ?_
          rintro e w6 ⟨g6, seen6, rfl, hbl6, hsl6, hsn6, hb6, hg6⟩
          have hnow6 : Now E S a s p0 (p + 1) g6 seen6 w6 := ⟨hbl6, hsl6, fun j hj => by rw [hsn6 j hj]; exact on_next HE.out hlo hpl HL9.out _⟩
          have hB46 : Below w4.heap.size w4 w6 := HBW.out.trans (hb6.mono hbw)
          have ho6 : w6.ownsRow w2.heap.size 3 1 v2 out2.length (numsV .i64 out2) := own_move HO2.out (fun b o hb ho _ => (hB46.block b (HO2.out.lt b hb).2).trans ho)
          go_wp2_with fail
          go_roundw
          case rel => exact ⟨p + 1, g6, seen6, out2, by omega, by omega, by go_num, rfl, hnow6, ho6, by rw [show p + 1 - p0 = p - p0 + 1 by omega]; exact HNX.out.symm, HBE2.out.trans (hB46.mono hbz2), fun e => by have := (HO2.out.lt _ e).2; omega⟩
          case measure => simp [intOf]; omega
end Go.Proofs.Ytfjhcoeehjephaa
