/- DfaAgrees, with the tree, the text and the place laid open. -/
import Derived.Test.YtfjhcoeehjephaaBuAMa
import Derived.Test.YtfjhcoeehjephaaAgMa
import Derived.Test.YtfjhcoeehjephaaMadeLMa
import Derived.Test.YtfjhcoeehjephaaSmallMa
import Derived.Test.YtfjhcoeehjephaaDLongMa
import Derived.Deep.RegionHeld3
namespace Go.Proofs.Ytfjhcoeehjephaa
open Go.RowKit
attribute [local go_sem ↓] Go.wp_at_zero Go.wp_at_succ
attribute [local go_sem ↓] load_dfa store_dfa

open Classical in
/-- what an automaton takes from any place on -/
noncomputable def endsX (E : List Ed) (S : Nat) (a z : Int) (s : ByteArray) (x : Int) : List Int := if 0 ≤ x ∧ x ≤ (s.size : Int) then endsN E S a z s x.toNat else []
theorem endsX_len (E : List Ed) (S : Nat) (a z : Int) (s : ByteArray) (x : Int) : (endsX E S a z s x).length ≤ s.size + 1 := by
  unfold endsX
  split
  · unfold endsN
    have := outsTo_len (onB E S a z s x.toNat) x.toNat (s.size + 1 - x.toNat)
    omega
  · simp
theorem nends_all (A : Option Addr) (n c S : Nat) (a z : Int) (E : List Ed) (s : ByteArray) (x : Int) (w : World) (h : NfaIn w A n ⟨(S : Int), a, z, E⟩) (hr : RightN ⟨(S : Int), a, z, E⟩)
    (hu : WfE E) (hs : s.size ≤ 1000000) :
    Calls Try.prog 24 #[.agg #[.int .i64 (S : Int), .int .i64 a, .int .i64 z, .slice A n c], .string s, .int .i64 x] w fun e w' => ∃ A9 c9, e = .returned (.slice A9 (endsX E S a z s x).length c9) ∧ Arr w' w'.heap.size 1 A9 (endsX E S a z s x).length (NumC .i64 (endsX E S a z s x)) ∧ Below w.heap.size w w' := by
  by_cases hx : 0 ≤ x ∧ x ≤ (s.size : Int)
  · obtain ⟨p, rfl⟩ := Int.eq_ofNat_of_zero_le hx.1
    have he : endsX E S a z s (p : Int) = endsN E S a z s p := by unfold endsX; rw [if_pos hx]; rfl
    rw [he]
    exact ends_ok A n c S a z E s p w h hr hu (by omega) hs
  · have he : endsX E S a z s x = [] := by unfold endsX; rw [if_neg hx]
    rw [he]
    refine (ends_no A n c S a z E s x w h (fun h9 => hx h9.2)).mono ?_
    rintro e w' ⟨rfl, hb⟩
    exact ⟨none, 0, rfl, fun h9 => absurd h9 (by simp), hb⟩
theorem endsR_built {E : List Ed} {S : Nat} {a z : Int} {many : Nat} {ls : Nat → Nat} {all : List (List Nat)} {D : Dfa} (hr : RightN ⟨(S : Int), a, z, E⟩) (hc : ClsOk D.cls many (setsOf E)) (hl : LeastOk D.cls ls 0) (h : Mid E S a z many ls all.length all D.next D.acc) (s : ByteArray) (x : Int) :
    D8.endsR D s x = endsX E S a z s x := by
  unfold endsX
  by_cases hx : 0 ≤ x ∧ x ≤ (s.size : Int)
  · obtain ⟨p, rfl⟩ := Int.eq_ofNat_of_zero_le hx.1
    rw [if_pos hx, D8.endsR_yes (built_right hc h) (by omega)]
    exact built_endsN (okE_of hr) ⟨hr.alo, hr.ahi⟩ hr.zlo hc hl h s p (by omega)
  · rw [if_neg hx, D8.endsR_no (fun h9 => hx h9.2)]

/-- the law's world: the automata's boxes -/
structure LA (W : World) (g S : Nat) (a z : Int) (E : List Ed) (A2 : Option Addr) (m c2 : Nat) (gd : Nat) (ds : Array Value) (B1 B2 : Option Addr) (d1 d2 : Nat) (D : Dfa) (RA : Nat → Option Addr) (rc : Nat → Nat) (w : World) : Prop where
  bel : Below W.heap.size W w
  res : Blk w g 24 [.int .i64 S, .int .i64 a, .int .i64 z, .slice A2 m c2]
  nfa : NfaIn w A2 m ⟨S, a, z, E⟩
  dbox : Blk w gd 30 ds.toList
  dfa : DfaIn w ds B1 B2 D.next.length D.acc.length d1 d2 D RA rc
section
variable {W w w' : World} {g S m c2 gd d1 d2 : Nat} {a z : Int} {E : List Ed} {A2 B1 B2 : Option Addr} {ds : Array Value} {D : Dfa} {RA : Nat → Option Addr} {rc : Nat → Nat}
theorem LA.go (h : LA W g S a z E A2 m c2 gd ds B1 B2 d1 d2 D RA rc w) (hb : Below w.heap.size w w') : LA W g S a z E A2 m c2 gd ds B1 B2 d1 d2 D RA rc w' :=
  ⟨h.bel.trans (hb.mono h.bel.size), h.res.below hb h.res.lt, h.nfa.keep hb, h.dbox.below hb h.dbox.lt, h.dfa.keep hb⟩
theorem LA.drew (h : LA W g S a z E A2 m c2 gd ds B1 B2 d1 d2 D RA rc w) : LA W g S a z E A2 m c2 gd ds B1 B2 d1 d2 D RA rc w.drew := h.go (Below.refl _ _).drew
theorem LA.ncells (h : LA W g S a z E A2 m c2 gd ds B1 B2 d1 d2 D RA rc w) : w.cell? ⟨g, 0, none⟩ = some (.int .i64 S) ∧ w.cell? ⟨g, 1, none⟩ = some (.int .i64 a) ∧ w.cell? ⟨g, 2, none⟩ = some (.int .i64 z) ∧ w.cell? ⟨g, 3, none⟩ = some (.slice A2 m c2) :=
  ⟨h.res.cell 0, h.res.cell 1, h.res.cell 2, h.res.cell 3⟩
theorem LA.load (h : LA W g S a z E A2 m c2 gd ds B1 B2 d1 d2 D RA rc w) : (loadD (.pointer (some ⟨gd, 0, none⟩))).run Try.prog w = .ok (.agg ds) w := by
  have := load30 h.dbox (by rw [Array.length_toList]; exact h.dfa.cells.size)
  rw [Array.toArray_toList] at this
  exact this
theorem new30 (w : World) : Blk (w.alloc (.cells zs30 30)) w.heap.size 30 (dV (fun _ => 0) (.slice none 0 0) (.slice none 0 0)) := Blk.new _ _ _
theorem cells_one {n1 n2 c1 c2 : Nat} {cls : Nat → Nat} (h : Cells ds B1 B2 n1 n2 c1 c2 cls) : ds.all (·.oneCell') = true := by
  rw [Array.all_eq_true]
  intro i hi
  have hs := h.size
  have hlt : i < ds.size := hi
  rcases (by omega : i < 256 ∨ i = 256 ∨ i = 257) with h9 | rfl | rfl
  · have := h.cl i h9
    rw [Array.getElem?_eq_getElem hlt] at this
    injection this with this
    rw [this]; rfl
  · have := h.nx
    rw [Array.getElem?_eq_getElem hlt] at this
    injection this with this
    rw [this]; rfl
  · have := h.ac
    rw [Array.getElem?_eq_getElem hlt] at this
    injection this with this
    rw [this]; rfl
theorem store_new {w4 : World} (hd : DfaIn w4 ds B1 B2 D.next.length D.acc.length d1 d2 D RA rc) : (storeD (.pointer (some ⟨w4.heap.size, 0, none⟩)) (.agg ds)).run Try.prog (w4.alloc (.cells zs30 30)) = .ok () ((w4.alloc (.cells zs30 30)).setRow w4.heap.size ds) := by
  have := store30 (new30 w4) (dV_len _ _ _) ds.toList (by rw [Array.length_toList]; exact hd.cells.size) (by rw [Array.toArray_toList]; exact cells_one hd.cells)
  rw [Array.toArray_toList] at this
  exact this
theorem LA.start {w2 w4 : World} (hb0 : Below W.heap.size W w2) (hb : Below (w2.alloc (.cells #[.int .i64 S, .int .i64 a, .int .i64 z, .slice A2 m c2] 24)).heap.size (w2.alloc (.cells #[.int .i64 S, .int .i64 a, .int .i64 z, .slice A2 m c2] 24)) w4) (hn : NfaIn w2 A2 m ⟨S, a, z, E⟩) (hd : DfaIn w4 ds B1 B2 D.next.length D.acc.length d1 d2 D RA rc) :
    LA W w2.heap.size S a z E A2 m c2 w4.heap.size ds B1 B2 d1 d2 D RA rc ((w4.alloc (.cells zs30 30)).setRow w4.heap.size ds) := by
  have hb1 := hb0.alloc hb0.size (.cells #[.int .i64 S, .int .i64 a, .int .i64 z, .slice A2 m c2] 24)
  have hx := Blk.new w2 24 [.int .i64 S, .int .i64 a, .int .i64 z, .slice A2 m c2]
  have hw := Below.refl w2.heap.size w2
  have hb4 : Below w2.heap.size w2 w4 := (hw.alloc (Nat.le_refl _) _).trans (hb.mono (by simp))
  have h5 : Below w4.heap.size w4 ((w4.alloc (.cells zs30 30)).setRow w4.heap.size ds) := below_setRow ((Below.refl w4.heap.size w4).alloc (Nat.le_refl _) _) (Nat.le_refl _) _
  exact ⟨(hb0.trans (hb4.mono hb0.size)).trans (h5.mono (hb0.trans (hb4.mono hb0.size)).size), (hx.below hb hx.lt).below h5 (hx.below hb hx.lt).lt, (hn.keep hb4).keep h5, (new30 w4).row ds, hd.keep h5⟩
end
theorem cell_keep {w w' : World} {a : Addr} {v : Value} (h : w.cell? a = some v) (hb : Below w.heap.size w w') : w'.cell? a = some v := (hb.cell (World.block_lt_of_cell? w a h)).trans h
theorem last_facts (k : Nat) (hk : k ≤ 1000) (h0 : k ≠ 0) : ∃ q : Nat, k = q + 1 ∧ (k : Int) - 1 = (q : Int) ∧ IntKind.i64.wrap ((k : Int) - 1) = (q : Int) ∧ wrap64 ((k : Int) - 1) = (q : Int) ∧ IntKind.i64.wrap (q : Int) = (q : Int) ∧ wrap64 (q : Int) = (q : Int) ∧ (q : Int) < (k : Int) ∧ (0 : Int) ≤ (q : Int) := by
  obtain ⟨q, rfl⟩ : ∃ q, k = q + 1 := ⟨k - 1, by omega⟩
  have e : ((q + 1 : Nat) : Int) - 1 = (q : Int) := by omega
  have w1 : IntKind.i64.wrap (q : Int) = (q : Int) := IntWalk.i64_in _ (by omega)
  have w2 : wrap64 (q : Int) = (q : Int) := IntWalk.wrap64_in _ (by omega)
  exact ⟨q, rfl, e, by rw [e]; exact w1, by rw [e]; exact w2, w1, w2, by omega, by omega⟩
set_option maxRecDepth 100000 in
set_option maxHeartbeats 16000000 in
theorem law_dagrees (t : Tr) (A : Option Addr) (n c : Nat) (s : ByteArray) (x : Int) (W : World) (ht : TrIn W t A n) (hwf : TrWf t) :
    Calls Try.prog 6 #[.agg #[.int .i64 t.kind, .int .u64 t.s0, .int .u64 t.s1, .int .u64 t.s2, .int .u64 t.s3, .int .i64 t.lo, .int .i64 t.hi, .slice A n c], .string s, .int .i64 x] W fun e w' => e = .returned (.bool true) ∧ Below W.heap.size W w' := by
  have hb0 : Below W.heap.size W (W.alloc (tbox t A n c)) := (Below.refl _ _).alloc (Nat.le_refl _) _
  have HBU := Lib.hid (build_any t A n c _ (ht.keep hb0) hwf)
  have HB0 := Lib.hid hb0
  obtain ⟨xr, hxr⟩ : ∃ xr, xr = wrongT t := ⟨_, rfl⟩
  have HX := Lib.hid hxr
  have hzV := zeroV30
  clear ht hwf hb0 hxr
  go_enter Try.func6, Try.ntmps6
  go_wp2_with fail
  refine HBU.out.mono ?_
  rintro e w2 ⟨hsay, hb2⟩
  have HB2 := Lib.hid (HB0.out.trans (hb2.mono HB0.out.size))
  rcases hsay with ⟨hw, rfl⟩ | ⟨hw, hsz, rfl⟩ | ⟨hw, S, E, A2, c2, hmade, rfl, hnfa⟩
  · rw [← HX.out] at hw ⊢
    have e1 : (xr != 0) = true := by simpa using hw
    clear hb2 hw
    go_wp2_with fail
    go_returns
    exact ⟨by first | rfl | simp, HB2.out.alloc HB2.out.size _⟩
  · clear hb2 hw hsz
    go_wp2_with fail
    go_returns
    exact ⟨by first | rfl | simp, HB2.out.alloc HB2.out.size _⟩
  · obtain ⟨m, hm⟩ : ∃ m, m = E.length := ⟨_, rfl⟩
    rw [← hm] at hnfa ⊢
    by_cases hbig : 500 < S
    · have d1 : decide (500 < (S : Int)) = true := by simp; omega
      clear hb2 hw hmade hnfa hm hbig
      go_wp2_with fail
      go_returns
      exact ⟨by first | rfl | simp, HB2.out.alloc HB2.out.size _⟩
    · have d1 : decide (500 < (S : Int)) = false := by simp; omega
      have hWE := hmade.wf
      have hnf3 := hnfa.keep ((Below.refl w2.heap.size w2).alloc (Nat.le_refl _) (.cells #[.int .i64 (S : Int), .int .i64 0, .int .i64 1, .slice A2 m c2] 24))
      have HBD := Lib.hid (build_d A2 m c2 S 0 1 E _ hnf3 hmade.right (fun e he => hWE e he))
      have HN := Lib.hid (And.intro hnfa (And.intro hmade.right hWE))
      have hx2 := Blk.new w2 24 [.int .i64 (S : Int), .int .i64 0, .int .i64 1, .slice A2 m c2]
      have r0 := hx2.cell 0
      have r1 := hx2.cell 1
      have r2 := hx2.cell 2
      have r3 := hx2.cell 3
      simp only [List.getElem?_cons_zero, List.getElem?_cons_succ] at r0 r1 r2 r3
      clear hb2 hw hmade hnfa hm hbig hWE hnf3 hx2
      go_wp2_with fail
      refine HBD.out.mono ?_
      rintro e w4 ⟨hsay, hb4⟩
      have HB4 := Lib.hid hb4
      clear r0 r1 r2 r3 hb4
      rcases hsay with ⟨D, all, ls, many, ds, B1, B2, k1, k2, RA, rc, rfl, hdf, hcls, hls, hmid⟩ | ⟨rfl, htm⟩
      · have hLA := LA.start HB2.out HB4.out HN.out.1 hdf
        have hst := store_new hdf
        have hE := endsR_built HN.out.2.1 hcls hls hmid
        have hcs := cutS_le s 200
        have HSS := Lib.hid (fun W => short_any s 200 (by omega) W)
        obtain ⟨s', hs'⟩ : ∃ s', s' = cutS s 200 := ⟨_, rfl⟩
        rw [← hs'] at hcs HSS
        have hNE := fun w' (h : NfaIn w' A2 m ⟨(S : Int), 0, 1, E⟩) => nends_all A2 m c2 S 0 1 E s' x w' h HN.out.2.1 HN.out.2.2 (by omega)
        have hDE := fun w' (h : DfaIn w' ds B1 B2 D.next.length D.acc.length k1 k2 D RA rc) => D8.dends_any ds B1 B2 _ _ k1 k2 D RA rc s' w' h x (by omega)
        have hDL := fun w' (h : DfaIn w' ds B1 B2 D.next.length D.acc.length k1 k2 D RA rc) => D8.dlong_any ds B1 B2 _ _ k1 k2 D RA rc s' w' h x (by omega)
        have hlen := endsX_len E S 0 1 s' x
        rw [hE s' x] at hDE hDL
        obtain ⟨L, hL⟩ : ∃ L, L = endsX E S 0 1 s' x := ⟨_, rfl⟩
        rw [← hL] at hNE hDE hDL hlen
        obtain ⟨k, hk⟩ : ∃ k, k = L.length := ⟨_, rfl⟩
        rw [← hk] at hNE hDE hlen
        have HNE := Lib.hid hNE
        have HDE := Lib.hid hDE
        have HDL := Lib.hid hDL
        have HK := Lib.hid hk
        have HLA := Lib.hid hLA
        obtain ⟨gn, hgn⟩ : ∃ g, g = w2.heap.size := ⟨_, rfl⟩
        obtain ⟨gd, hgd⟩ : ∃ g, g = w4.heap.size := ⟨_, rfl⟩
        clear hLA hE hs' hNE hDE hDL hL hk hcls hls hmid hdf HN
        go_upto_region 7 with (fail)
        rw [← hgn, ← hgd] at HLA ⊢
        clear hst
        generalize (w4.alloc (.cells zs30 30)).setRow gd ds = w5 at HLA ⊢
        clear hgn hgd
        go_upto_region 8 with (go_at_call 14; refine (HSS.out _).mono ?_; rintro e w6 ⟨rfl, rfl⟩)
        obtain ⟨r0, r1, r2, r3⟩ := HLA.out.ncells
        go_upto_region 9 with (go_at_call 24; refine (HNE.out _ HLA.out.nfa).mono ?_; rintro e w6 ⟨A9, c9, rfl, hA9, hb6⟩; have HL6 := Lib.hid (HLA.out.go hb6); have HA9 := Lib.hid hA9; clear hb6 hA9)
        have hld := HL6.out.load
        clear r0 r1 r2 r3
        go_upto_region 11 with (first
          | (go_at_call 16; refine (HDE.out _ HL6.out.dfa).mono ?_; rintro e w7 ⟨A8, c8, rfl, hA8, hb7⟩; have HL7 := Lib.hid (HL6.out.go hb7); have HA7 := Lib.hid (And.intro hA8 ((HA9.out.below hb7).more hb7.size)); clear hA8 hb7)
          | (go_at_call 15; refine (ints_same A8 A9 k c8 c9 L w7 (by omega) HA7.out.1 HA7.out.2).mono ?_; rintro e w8 ⟨rfl, mq, rfl⟩))
        have HL8 := Lib.hid (HL7.out.go (below_drewN (Below.refl _ _) mq))
        have HA8 := Lib.hid (HA7.out.2.drewN mq)
        clear hld
        generalize w7.drewN mq = w8 at HL8 HA8 ⊢
        have hld := HL8.out.load
        by_cases hk0 : k = 0
        · have e3 : ((k : Int) == 0) = true := by simp [hk0]
          have hli : D8.lastI L = -1 := by unfold D8.lastI; rw [if_pos (by rw [← HK.out]; exact hk0)]
          have hDL := HDL.out
          rw [hli] at hDL
          have HDL2 := Lib.hid hDL
          clear hDL hli hk0
          go_wp2_with (go_at_call 25; refine (HDL2.out _ HL8.out.dfa).mono ?_; rintro e w9 ⟨rfl, hb9⟩; have HL9 := Lib.hid (HL8.out.go hb9); clear hb9)
          go_returns
          exact ⟨by first | rfl | simp, HL9.out.bel⟩
        · have e3 : ((k : Int) == 0) = false := beq_eq_false_iff_ne.mpr (by omega)
          have hk3 : k ≤ 1000 := Nat.le_trans hlen (by omega)
          obtain ⟨q, hq, e2, e5, e8, e5', e8', e6, e7⟩ := last_facts k hk3 hk0
          obtain ⟨b9, o9, rfl, hb9, hc9⟩ := HA8.out.one (k := q) (by rw [hq]; exact Nat.lt_succ_self q)
          unfold NumC at hc9
          have hli : D8.lastI L = L.getD q 0 := by unfold D8.lastI; rw [if_neg (by rw [← HK.out]; exact hk0), ← HK.out, hq]; rfl
          have hDL := HDL.out
          rw [hli] at hDL
          obtain ⟨v, hv⟩ : ∃ v, v = L.getD q 0 := ⟨_, rfl⟩
          rw [← hv] at hDL hc9
          have HDL2 := Lib.hid hDL
          have e4 : (v == v) = true := by simp
          have HLD := fun w' (h : LA W gn S 0 1 E A2 m c2 gd ds B1 B2 k1 k2 D RA rc w') => h.load
          have HC9 := Lib.hid (And.intro hb9 hc9)
          clear hDL hli hk0 hv hb9 hc9 hq hk3 hlen hcs
          go_upto_region 13 with (fail)
          go_region_held3 (fun w' => LA W gn S 0 1 E A2 m c2 gd ds B1 B2 k1 k2 D RA rc w' ∧ w'.cell? ⟨b9, o9 + q, none⟩ = some (.int .i64 v))
            (first
              | assumption
              | exact ⟨L9, C9⟩
              | exact ⟨HL8.out.drew, HC9.out.2⟩)
            (first
              | (go_at_call 25; go_split_ands; refine (HDL2.out _ (LA.dfa (by assumption))).mono ?_; rintro e w9 ⟨rfl, hb9⟩; have L9 : LA W gn S 0 1 E A2 m c2 gd ds B1 B2 k1 k2 D RA rc w9 := LA.go (by assumption) hb9; have C9 : w9.cell? ⟨b9, o9 + q, none⟩ = some (.int .i64 v) := cell_keep (by assumption) hb9))
          go_split_ands
          go_wp2_with fail
          go_returns
          exact ⟨by first | rfl | simp, L9.bel⟩
      · have hst : (storeD (.pointer (some ⟨w4.heap.size, 0, none⟩)) (.agg zs30)).run Try.prog (w4.alloc (.cells zs30 30)) = .ok () ((w4.alloc (.cells zs30 30)).setRow w4.heap.size zs30) := store30 (new30 w4) (dV_len _ _ _) (dV (fun _ => 0) (.slice none 0 0) (.slice none 0 0)) (dV_len _ _ _) (dV_one _ _ _ _ _ _ _)
        have hb4 : Below W.heap.size W w4 := (HB2.out.alloc HB2.out.size _).trans (HB4.out.mono (by have := HB2.out.size; simp; omega))
        have HB := Lib.hid (below_setRow (g := w4.heap.size) (hb4.alloc hb4.size (.cells zs30 30)) hb4.size zs30)
        clear hb4 htm
        go_wp2_with fail
        go_returns
        exact ⟨by first | rfl | simp, HB.out⟩
end Go.Proofs.Ytfjhcoeehjephaa
