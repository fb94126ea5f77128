/- PieceWords, with the tree and the text laid open. -/
import Derived.Test.YtfjhcoeehjephaaLA8Mc
import Derived.Test.YtfjhcoeehjephaaMadeLMc
import Derived.Test.YtfjhcoeehjephaaRPiMc
import Derived.Test.YtfjhcoeehjephaaEveryMc
namespace Go.Proofs.Ytfjhcoeehjephaa
open Go.RowKit
attribute [local go_sem ↓] Go.wp_at_zero Go.wp_at_succ
attribute [local go_sem ↓] load_dfa store_dfa

/-- the law's world: the tree's box -/
structure LP (W : World) (t : Tr) (A : Option Addr) (n c : Nat) (w : World) : Prop where
  bel : Below W.heap.size W w
  box : Blk w W.heap.size 49 [.int .i64 t.kind, .int .u64 t.s0, .int .u64 t.s1, .int .u64 t.s2, .int .u64 t.s3, .int .i64 t.lo, .int .i64 t.hi, .slice A n c]
  tr : TrIn w t A n
section
variable {W w w' : World} {t : Tr} {A : Option Addr} {n c : Nat}
theorem LP.go (h : LP W t A n c w) (hb : Below w.heap.size w w') : LP W t A n c w' := ⟨h.bel.trans (hb.mono h.bel.size), h.box.below hb h.box.lt, h.tr.keep hb⟩
theorem LP.cells (h : LP W t A n c w) : w.cell? ⟨W.heap.size, 0, none⟩ = some (.int .i64 t.kind) ∧ w.cell? ⟨W.heap.size, 1, none⟩ = some (.int .u64 t.s0) ∧ w.cell? ⟨W.heap.size, 2, none⟩ = some (.int .u64 t.s1) ∧ w.cell? ⟨W.heap.size, 3, none⟩ = some (.int .u64 t.s2) ∧ w.cell? ⟨W.heap.size, 4, none⟩ = some (.int .u64 t.s3) ∧ w.cell? ⟨W.heap.size, 5, none⟩ = some (.int .i64 t.lo) ∧ w.cell? ⟨W.heap.size, 6, none⟩ = some (.int .i64 t.hi) ∧ w.cell? ⟨W.heap.size, 7, none⟩ = some (.slice A n c) :=
  ⟨h.box.cell 0, h.box.cell 1, h.box.cell 2, h.box.cell 3, h.box.cell 4, h.box.cell 5, h.box.cell 6, h.box.cell 7⟩
theorem LP.start (ht : TrIn W t A n) : LP W t A n c (W.alloc (tbox t A n c)) :=
  have hb0 : Below W.heap.size W (W.alloc (tbox t A n c)) := (Below.refl _ _).alloc (Nat.le_refl _) _
  ⟨hb0, Blk.new W 49 _, ht.keep hb0⟩
end
theorem endsT_sorted (s : ByteArray) (t : Tr) (p : Nat) : (endsT s t p).Pairwise (· < ·) := by
  unfold endsT
  exact D8.outs_sorted _ _ _

set_option maxRecDepth 100000 in
set_option maxHeartbeats 16000000 in
theorem law_pwords (t : Tr) (A : Option Addr) (n c : Nat) (s : ByteArray) (W : World) (ht : TrIn W t A n) (hwf : TrWf t) :
    Calls Try.prog 5 #[.agg #[.int .i64 t.kind, .int .u64 t.s0, .int .u64 t.s1, .int .u64 t.s2, .int .u64 t.s3, .int .i64 t.lo, .int .i64 t.hi, .slice A n c], .string s] W fun e w' => e = .returned (.bool true) ∧ Below W.heap.size W w' := by
  have HL0 := Lib.hid (LP.start (c := c) ht)
  have HBU := Lib.hid (fun w' (h : TrIn w' t A n) => build_any t A n c w' h hwf)
  have HRI := Lib.hid (fun w' (h : TrIn w' t A n) => rright_any t A n c w' h)
  have HD := Lib.hid (fun w' (h : TrIn w' t A n) => rdeep_any t 9 A n c w' (by omega) (by omega) h)
  have HT := Lib.hid hwf
  obtain ⟨xr, hxr⟩ : ∃ xr, xr = wrongT t := ⟨_, rfl⟩
  rw [← hxr] at HRI
  have HX := Lib.hid hxr
  obtain ⟨dd, hdd⟩ : ∃ dd, dd = min t.height 9 := ⟨_, rfl⟩
  rw [← hdd] at HD
  have hzV := zeroV30
  clear ht hwf hxr hdd
  go_enter Try.func5, Try.ntmps5
  obtain ⟨q0, q1, q2, q3, q4, q5, q6, q7⟩ := HL0.out.cells
  by_cases hw : xr = 0
  · have e1 : (xr != 0) = false := by simpa using hw
    by_cases hd9 : 9 ≤ dd
    · have d1 : decide ((9 : Int) ≤ (dd : Int)) = true := by simp; omega
      have d1' : decide (9 ≤ dd) = true := by simpa using hd9
      clear hd9 hw
      go_wp2_with (first
        | (go_at_call 18; refine (HRI.out _ HL0.out.tr).mono ?_; rintro e w3 ⟨rfl, hb3⟩; have hL3 := HL0.out.go hb3; obtain ⟨r0, r1, r2, r3, r4, r5, r6, r7⟩ := hL3.cells; have HL3 := Lib.hid hL3; clear hL3 hb3)
        | (go_at_call 19; refine (HD.out _ HL3.out.tr).mono ?_; rintro e w4 ⟨rfl, hb4⟩; have HL4 := Lib.hid (HL3.out.go hb4); clear hb4))
      go_returns
      exact ⟨by first | rfl | simp, HL4.out.bel⟩
    · have d1 : decide ((9 : Int) ≤ (dd : Int)) = false := by simp; omega
      have d1' : decide (9 ≤ dd) = false := by simp; omega
      clear hd9
      by_cases hs4 : 40 < s.size
      · have d2 : decide ((40 : Int) < (s.size : Int)) = true := by simp; omega
        have d2' : decide (40 < s.size) = true := by simpa using hs4
        clear hs4 hw
        go_wp2_with (first
          | (go_at_call 18; refine (HRI.out _ HL0.out.tr).mono ?_; rintro e w3 ⟨rfl, hb3⟩; have hL3 := HL0.out.go hb3; obtain ⟨r0, r1, r2, r3, r4, r5, r6, r7⟩ := hL3.cells; have HL3 := Lib.hid hL3; clear hL3 hb3)
          | (go_at_call 19; refine (HD.out _ HL3.out.tr).mono ?_; rintro e w4 ⟨rfl, hb4⟩; have HL4 := Lib.hid (HL3.out.go hb4); clear hb4))
        go_returns
        exact ⟨by first | rfl | simp, HL4.out.bel⟩
      · have d2 : decide ((40 : Int) < (s.size : Int)) = false := by simp; omega
        have d2' : decide (40 < s.size) = false := by simp; omega
        have hs40 : s.size ≤ 40 := by omega
        have hsh := (wrong_shp (HX.out.symm.trans hw)).1
        have HSH := Lib.hid hsh
        have HS40 := Lib.hid hs40
        clear hs4 hs40 hsh
        go_upto_region 3 with (first
          | (go_at_call 18; refine (HRI.out _ HL0.out.tr).mono ?_; rintro e w3 ⟨rfl, hb3⟩; have hL3 := HL0.out.go hb3; obtain ⟨r0, r1, r2, r3, r4, r5, r6, r7⟩ := hL3.cells; have HL3 := Lib.hid hL3; clear hL3 hb3)
          | (go_at_call 19; refine (HD.out _ HL3.out.tr).mono ?_; rintro e w4 ⟨rfl, hb4⟩; have HL4 := Lib.hid (HL3.out.go hb4); clear hb4))
        clear q0 q1 q2 q3 q4 q5 q6 q7 r0 r1 r2 r3 r4 r5 r6 r7
        obtain ⟨q0, q1, q2, q3, q4, q5, q6, q7⟩ := HL4.out.cells
        go_wp2_with fail
        refine (HBU.out _ HL4.out.tr).mono ?_
        rintro e w5 ⟨hsay, hb5⟩
        have HL5 := Lib.hid (HL4.out.go hb5)
        clear q0 q1 q2 q3 q4 q5 q6 q7 hb5
        rcases hsay with ⟨hw9, rfl⟩ | ⟨_, hsz, rfl⟩ | ⟨_, S, E, A2, c2, hmade, rfl, hnfa⟩
        · exact absurd (HX.out.symm.trans hw) hw9
        · clear hsz hw
          go_wp2_with fail
          go_returns
          exact ⟨by first | rfl | simp, HL5.out.bel.alloc HL5.out.bel.size _⟩
        · obtain ⟨m, hm⟩ : ∃ m, m = E.length := ⟨_, rfl⟩
          rw [← hm] at hnfa ⊢
          by_cases hbig : 300 < S
          · have d3 : decide (300 < (S : Int)) = true := by simp; omega
            clear hw hmade hnfa hm hbig
            go_wp2_with fail
            go_returns
            exact ⟨by first | rfl | simp, HL5.out.bel.alloc HL5.out.bel.size _⟩
          · have d3 : decide (300 < (S : Int)) = false := by simp; omega
            have hWE := hmade.wf
            have hnf3 := hnfa.keep ((Below.refl w5.heap.size w5).alloc (Nat.le_refl _) (.cells #[.int .i64 (S : Int), .int .i64 0, .int .i64 1, .slice A2 m c2] 24))
            have HBD := Lib.hid (build_d A2 m c2 S 0 1 E _ hnf3 hmade.right (fun e he => hWE e he))
            have HN := Lib.hid (And.intro hnfa hmade)
            have HL6 := Lib.hid (HL5.out.go ((Below.refl w5.heap.size w5).alloc (Nat.le_refl _) (.cells #[.int .i64 (S : Int), .int .i64 0, .int .i64 1, .slice A2 m c2] 24)))
            have hx2 := Blk.new w5 24 [.int .i64 (S : Int), .int .i64 0, .int .i64 1, .slice A2 m c2]
            have r0 := hx2.cell 0
            have r1 := hx2.cell 1
            have r2 := hx2.cell 2
            have r3 := hx2.cell 3
            simp only [List.getElem?_cons_zero, List.getElem?_cons_succ] at r0 r1 r2 r3
            clear hw hmade hnfa hm hbig hWE hnf3 hx2
            go_wp2_with fail
            refine HBD.out.mono ?_
            rintro e w7 ⟨hsay, hb7⟩
            have HB7 := Lib.hid hb7
            have HL7 := Lib.hid (HL6.out.go hb7)
            clear r0 r1 r2 r3 hb7
            rcases hsay with ⟨D, all, ls, many, ds, B1, B2, k1, k2, RA, rc, rfl, hdf, hcls, hls, hmid⟩ | ⟨rfl, htm⟩
            · have hLA := LA.start HL5.out.bel HB7.out HN.out.1 hdf
              have hst := store_new hdf
              have hrd := built_right hcls hmid
              have hb8 : Below w7.heap.size w7 ((w7.alloc (.cells zs30 30)).setRow w7.heap.size ds) := below_setRow ((Below.refl _ _).alloc (Nat.le_refl _) _) (Nat.le_refl _) _
              have hL8 := HL7.out.go hb8
              have hpe : ∀ k, k < s.size → (D8.pieceEnd D s k : Int) = D8.mxL (endsT s t k) ((k : Int) + 1) := fun k hk => by
                refine D8.piece_mx hrd s k hk ?_ (endsT_sorted s t k)
                rw [endsR_built HN.out.2.right hcls hls hmid s (k : Int)]
                unfold endsX
                rw [if_pos ⟨by omega, by omega⟩]
                exact HN.out.2.ends s k
              have hPT := fun w' (h : DfaIn w' ds B1 B2 D.next.length D.acc.length k1 k2 D RA rc) => D8.ptexts_ok ds B1 B2 _ _ k1 k2 D RA rc s w' h hrd (by have := HS40.out; omega)
              have hRP := fun w' (h : TrIn w' t A n) => D8.rpieces_any t D s A n c w' HS40.out h HSH.out HT.out hpe
              have hcl : (D8.chunks D s 0).length ≤ 140737488355328 := by
                rw [D8.chunks_len]
                have := D8.pieces_len D s 0
                have := HS40.out
                omega
              obtain ⟨C, hC⟩ : ∃ C, C = D8.chunks D s 0 := ⟨_, rfl⟩
              rw [← hC] at hPT hRP hcl
              obtain ⟨lc, hlc⟩ : ∃ lc, lc = C.length := ⟨_, rfl⟩
              rw [← hlc] at hPT hRP hcl
              have HPT := Lib.hid hPT
              have HRP := Lib.hid hRP
              have HLA := Lib.hid hLA
              have HL8 := Lib.hid hL8
              obtain ⟨gd, hgd⟩ : ∃ g, g = w7.heap.size := ⟨_, rfl⟩
              clear hLA hrd hb8 hL8 hpe hPT hRP hC hlc hcls hls hmid hdf HN HL7 HB7
              go_upto_region 9 with (fail)
              rw [← hgd] at HLA HL8 ⊢
              clear hst
              generalize (w7.alloc (.cells zs30 30)).setRow gd ds = w8 at HLA HL8 ⊢
              clear hgd
              have hld := HLA.out.load
              go_upto_region 10 with (go_at_call 21; refine (HPT.out _ HLA.out.dfa).mono ?_; rintro e w9 ⟨A9, c9, rfl, hA9, _, hb9⟩; have HL9 := Lib.hid (HL8.out.go hb9); have HA9 := Lib.hid hA9; clear hA9 hb9)
              clear hld
              obtain ⟨q0, q1, q2, q3, q4, q5, q6, q7⟩ := HL9.out.cells
              go_wp2_with (first
                | (go_at_call 23; refine (HRP.out _ HL9.out.tr).mono ?_; rintro e w10 ⟨A10, c10, rfl, hA10, hb10⟩; have HL10 := Lib.hid (HL9.out.go hb10); have HA10 := Lib.hid (And.intro hA10 ((HA9.out.below hb10).more hb10.size)); clear hA10 hb10)
                | (go_at_call 22; refine (D8.like_same A9 A10 lc c9 c10 C _ hcl HA10.out.2 HA10.out.1).mono ?_; rintro e w11 ⟨rfl, mq, rfl⟩))
              go_returns
              exact ⟨by first | rfl | simp, (HL10.out.go (below_drewN (Below.refl _ _) mq)).bel⟩
            · have hst : (storeD (.pointer (some ⟨w7.heap.size, 0, none⟩)) (.agg zs30)).run Try.prog (w7.alloc (.cells zs30 30)) = .ok () ((w7.alloc (.cells zs30 30)).setRow w7.heap.size zs30) := store30 (new30 w7) (dV_len _ _ _) (dV (fun _ => 0) (.slice none 0 0) (.slice none 0 0)) (dV_len _ _ _) (dV_one _ _ _ _ _ _ _)
              have HB := Lib.hid (below_setRow (g := w7.heap.size) (HL7.out.bel.alloc HL7.out.bel.size (.cells zs30 30)) HL7.out.bel.size zs30)
              clear htm
              go_wp2_with fail
              go_returns
              exact ⟨by first | rfl | simp, HB.out⟩
  · have e1 : (xr != 0) = true := by simpa using hw
    clear hw
    go_wp2_with (go_at_call 18; refine (HRI.out _ HL0.out.tr).mono ?_; rintro e w3 ⟨rfl, hb3⟩; have HL3 := Lib.hid (HL0.out.go hb3); clear hb3)
    go_returns
    exact ⟨by first | rfl | simp, HL3.out.bel⟩
end Go.Proofs.Ytfjhcoeehjephaa
