/- NfaTakes, with the tree, the text and the place laid open. -/
import Derived.Test.YtpeoomdfopjlmaaREn
import Derived.Test.YtpeoomdfopjlmaaBu
import Derived.Test.YtpeoomdfopjlmaaRNodes
import Derived.Test.YtpeoomdfopjlmaaEvery
import Derived.Test.YtpeoomdfopjlmaaSmall
import Derived.Deep.RegionHeld3
namespace Go.Proofs.Ytpeoomdfopjlmaa
open Go.RowKit
attribute [local go_sem ↓] Go.wp_at_zero Go.wp_at_succ

theorem on_pth {E : List Ed} {S : Nat} {s : ByteArray} {p0 p : Nat} {i : Int} (hS : 0 < S) : On E S 0 s p0 p i ↔ Pth E s p0 0 p i := by
  constructor
  · intro h
    induction h with
    | start _ _ => exact .refl
    | free he hf _ ih => exact .free ih he hf
    | read he hp hr _ ih => exact .read ih he hp hr
  · intro h
    induction h with
    | refl => exact .start (Int.le_refl _) (by omega)
    | free _ he hf ih => exact .free he hf ih
    | read _ he hp hr ih => exact .read he hp hr ih
theorem Made.lang {t : Tr} {S : Nat} {E : List Ed} (h : Made t S E) (s : ByteArray) (p0 p : Nat) : On E S 0 s p0 p 1 ↔ t.lang s p0 p := by
  obtain ⟨N, hN, _, hF⟩ := h.grew.good rfl
  rw [List.nil_append] at hN
  rw [← hN] at hF
  rw [on_pth (by have := h.grew.lo; omega)]
  exact (hF s).lang p0 p
theorem Made.ends {t : Tr} {S : Nat} {E : List Ed} (h : Made t S E) (s : ByteArray) (p0 : Nat) : endsN E S 0 1 s p0 = endsT s t p0 := by
  unfold endsN endsT
  refine outsTo_congr p0 _ (fun k _ => ?_)
  apply Bool.eq_iff_iff.2
  rw [onB_iff, h.lang]
  unfold langB
  simp
theorem Made.wf {t : Tr} {S : Nat} {E : List Ed} (h : Made t S E) : WfE E := by
  obtain ⟨N, hN, hw, _⟩ := h.grew.good rfl
  rw [List.nil_append] at hN
  rw [hN]; exact hw

/-- the law's world: the tree's box, the automaton's box -/
structure LT (W : World) (t : Tr) (A : Option Addr) (n c g : Nat) (S a z : Int) (E : List Ed) (A2 : Option Addr) (m c2 : Nat) (w : World) : Prop where
  bel : Below W.heap.size W w
  box : Blk w W.heap.size 28 [.int .i64 t.kind, .int .u64 t.s0, .int .u64 t.s1, .int .u64 t.s2, .int .u64 t.s3, .int .i64 t.lo, .int .i64 t.hi, .slice A n c]
  res : Blk w g 31 [.int .i64 S, .int .i64 a, .int .i64 z, .slice A2 m c2]
  tr : TrIn w t A n
  nfa : NfaIn w A2 m ⟨S, a, z, E⟩
section
variable {W w w' : World} {t : Tr} {A A2 : Option Addr} {n c g m c2 : Nat} {S a z : Int} {E : List Ed}
theorem LT.go (h : LT W t A n c g S a z E A2 m c2 w) (hb : Below w.heap.size w w') : LT W t A n c g S a z E A2 m c2 w' :=
  ⟨h.bel.trans (hb.mono h.bel.size), h.box.below hb h.box.lt, h.res.below hb h.res.lt, h.tr.keep hb, h.nfa.keep hb⟩
theorem LT.drew (h : LT W t A n c g S a z E A2 m c2 w) : LT W t A n c g S a z E A2 m c2 w.drew := h.go (Below.refl _ _).drew
theorem LT.tcells (h : LT W t A n c g S a z E A2 m c2 w) : w.cell? ⟨W.heap.size, 0, none⟩ = some (.int .i64 t.kind) ∧ w.cell? ⟨W.heap.size, 1, none⟩ = some (.int .u64 t.s0) ∧ w.cell? ⟨W.heap.size, 2, none⟩ = some (.int .u64 t.s1) ∧ w.cell? ⟨W.heap.size, 3, none⟩ = some (.int .u64 t.s2) ∧ w.cell? ⟨W.heap.size, 4, none⟩ = some (.int .u64 t.s3) ∧ w.cell? ⟨W.heap.size, 5, none⟩ = some (.int .i64 t.lo) ∧ w.cell? ⟨W.heap.size, 6, none⟩ = some (.int .i64 t.hi) ∧ w.cell? ⟨W.heap.size, 7, none⟩ = some (.slice A n c) :=
  ⟨h.box.cell 0, h.box.cell 1, h.box.cell 2, h.box.cell 3, h.box.cell 4, h.box.cell 5, h.box.cell 6, h.box.cell 7⟩
theorem LT.ncells (h : LT W t A n c g S a z E A2 m c2 w) : w.cell? ⟨g, 0, none⟩ = some (.int .i64 S) ∧ w.cell? ⟨g, 1, none⟩ = some (.int .i64 a) ∧ w.cell? ⟨g, 2, none⟩ = some (.int .i64 z) ∧ w.cell? ⟨g, 3, none⟩ = some (.slice A2 m c2) :=
  ⟨h.res.cell 0, h.res.cell 1, h.res.cell 2, h.res.cell 3⟩
theorem LT.all (h : LT W t A n c g S a z E A2 m c2 w) : LT W t A n c g S a z E A2 m c2 w ∧ w.cell? ⟨W.heap.size, 0, none⟩ = some (.int .i64 t.kind) ∧ w.cell? ⟨W.heap.size, 1, none⟩ = some (.int .u64 t.s0) ∧ w.cell? ⟨W.heap.size, 2, none⟩ = some (.int .u64 t.s1) ∧ w.cell? ⟨W.heap.size, 3, none⟩ = some (.int .u64 t.s2) ∧ w.cell? ⟨W.heap.size, 4, none⟩ = some (.int .u64 t.s3) ∧ w.cell? ⟨W.heap.size, 5, none⟩ = some (.int .i64 t.lo) ∧ w.cell? ⟨W.heap.size, 6, none⟩ = some (.int .i64 t.hi) ∧ w.cell? ⟨W.heap.size, 7, none⟩ = some (.slice A n c) ∧
    w.cell? ⟨g, 0, none⟩ = some (.int .i64 S) ∧ w.cell? ⟨g, 1, none⟩ = some (.int .i64 a) ∧ w.cell? ⟨g, 2, none⟩ = some (.int .i64 z) ∧ w.cell? ⟨g, 3, none⟩ = some (.slice A2 m c2) :=
  ⟨h, h.box.cell 0, h.box.cell 1, h.box.cell 2, h.box.cell 3, h.box.cell 4, h.box.cell 5, h.box.cell 6, h.box.cell 7, h.res.cell 0, h.res.cell 1, h.res.cell 2, h.res.cell 3⟩
/-- behind Build -/
theorem LT.start {W w2 : World} (hb : Below (W.alloc (tbox t A n c)).heap.size (W.alloc (tbox t A n c)) w2) (ht : TrIn W t A n) (hn : NfaIn w2 A2 m ⟨S, a, z, E⟩) :
    LT W t A n c w2.heap.size S a z E A2 m c2 (w2.alloc (.cells #[.int .i64 S, .int .i64 a, .int .i64 z, .slice A2 m c2] 31)) := by
  have hb0 : Below W.heap.size W (W.alloc (tbox t A n c)) := (Below.refl _ _).alloc (Nat.le_refl _) _
  have hb1 : Below W.heap.size W w2 := hb0.trans (hb.mono hb0.size)
  have hx := (Blk.new W 28 [.int .i64 t.kind, .int .u64 t.s0, .int .u64 t.s1, .int .u64 t.s2, .int .u64 t.s3, .int .i64 t.lo, .int .i64 t.hi, .slice A n c])
  exact ⟨hb1.alloc hb1.size _, (hx.below hb hx.lt).alloc _, Blk.new w2 31 _, (ht.keep hb1).keep ((Below.refl _ _).alloc (Nat.le_refl _) _), hn.keep ((Below.refl _ _).alloc (Nat.le_refl _) _)⟩
end
theorem nfa_none (w : World) (S a z : Int) : NfaIn w none 0 ⟨S, a, z, []⟩ := ⟨rfl, by omega, fun h => absurd h (by omega)⟩

set_option maxRecDepth 100000 in
set_option maxHeartbeats 16000000 in
theorem law_takes (t : Tr) (A : Option Addr) (n c : Nat) (s : ByteArray) (x : Int) (W : World) (ht : TrIn W t A n) (hwf : TrWf t) :
    Calls Try.prog 3 #[.agg #[.int .i64 t.kind, .int .u64 t.s0, .int .u64 t.s1, .int .u64 t.s2, .int .u64 t.s3, .int .i64 t.lo, .int .i64 t.hi, .slice A n c], .string s, .int .i64 x] W fun e w' => e = .returned (.bool true) ∧ Below W.heap.size W w' := by
  have hb0 : Below W.heap.size W (W.alloc (tbox t A n c)) := (Below.refl _ _).alloc (Nat.le_refl _) _
  have HBU := Lib.hid (build_any t A n c _ (ht.keep hb0) hwf)
  have HRI := Lib.hid (fun w' (h : TrIn w' t A n) => rright_any t A n c w' h)
  have HSZ := Lib.hid (fun w' (hsh : Shp t) (h : TrIn w' t A n) => size_any t 1001 A n c w' (by omega) (by omega) hsh h)
  have HT := Lib.hid (And.intro ht hwf)
  obtain ⟨xr, hxr⟩ : ∃ xr, xr = wrongT t := ⟨_, rfl⟩
  rw [← hxr] at HRI
  have HX := Lib.hid hxr
  clear ht hwf hb0 hxr
  go_enter Try.func3, Try.ntmps3
  go_wp2_with fail
  refine HBU.out.mono ?_
  rintro e w2 ⟨hsay, hb2⟩
  rcases hsay with ⟨hw, rfl⟩ | ⟨hw, hsz, rfl⟩ | ⟨hw, S, E, A2, c2, hmade, rfl, hnfa⟩
  · rw [← HX.out] at hw ⊢
    have hL := LT.start (c2 := 0) hb2 HT.out.1 (nfa_none w2 0 0 0)
    have e1 : (xr != 0) = true := by simpa using hw
    have e2 : (xr == xr) = true := by simp
    obtain ⟨q0, q1, q2, q3, q4, q5, q6, q7⟩ := hL.tcells
    have HL := Lib.hid hL
    clear hL hb2 hw
    go_wp2_with (go_at_call 6; refine (HRI.out _ HL.out.tr).mono ?_; rintro e w3 ⟨rfl, hb3⟩; have hL3 := HL.out.go hb3; obtain ⟨r0, r1, r2, r3⟩ := hL3.ncells; have HL3 := Lib.hid hL3; clear hL3 hb3)
    go_returns
    exact ⟨by first | rfl | simp, HL3.out.bel⟩
  · rw [← HX.out] at hw
    have hsh := (wrong_shp (HX.out.symm.trans hw)).1
    have hL := LT.start (c2 := 0) hb2 HT.out.1 (nfa_none w2 0 0 0)
    obtain ⟨q0, q1, q2, q3, q4, q5, q6, q7⟩ := hL.tcells
    have HL := Lib.hid hL
    have HSH := Lib.hid hsh
    obtain ⟨sz, hsz2⟩ : ∃ sz, sz = min t.size 1001 := ⟨_, rfl⟩
    rw [← hsz2] at HSZ
    have d1 : decide (1000 < (sz : Int)) = true := by simp; omega
    subst hw
    clear hL hb2 hsh hsz hsz2
    go_wp2_with (first
      | (go_at_call 6; refine (HRI.out _ HL.out.tr).mono ?_; rintro e w3 ⟨rfl, hb3⟩; have hL3 := HL.out.go hb3; obtain ⟨r0, r1, r2, r3⟩ := hL3.ncells; obtain ⟨u0, u1, u2, u3, u4, u5, u6, u7⟩ := hL3.tcells; have HL3 := Lib.hid hL3; clear hL3 hb3)
      | (go_at_call 7; refine (HSZ.out _ HSH.out HL3.out.tr).mono ?_; rintro e w4 ⟨rfl, hb4⟩; have HL4 := Lib.hid (HL3.out.go hb4); clear hb4))
    go_returns
    exact ⟨by first | rfl | simp, HL4.out.bel⟩
  · rw [← HX.out] at hw
    have hsh := (wrong_shp (HX.out.symm.trans hw)).1
    have hL := LT.start (c2 := c2) hb2 HT.out.1 hnfa
    obtain ⟨m, hm⟩ : ∃ m, m = E.length := ⟨_, rfl⟩
    rw [← hm] at hL hnfa ⊢
    have HSH := Lib.hid hsh
    have HM := Lib.hid hmade
    have hwE := hmade.wf
    have hrt := rightN_yes hmade.right
    have hcs := cutS_le s 60
    have HSS := Lib.hid (fun W => short_any s 60 (by omega) W)
    obtain ⟨s', hs'⟩ : ∃ s', s' = cutS s 60 := ⟨_, rfl⟩
    rw [← hs'] at hcs HSS
    obtain ⟨gb, hgb⟩ : ∃ gb, gb = w2.heap.size := ⟨_, rfl⟩
    rw [← hgb] at hL
    have HGB := Lib.hid hgb
    obtain ⟨q0, q1, q2, q3, q4, q5, q6, q7⟩ := hL.tcells
    have HL := Lib.hid hL
    have HRN := Lib.hid (fun w' (h : NfaIn w' A2 m ⟨(S : Int), 0, 1, E⟩) => nrright_any A2 m c2 S 0 1 E w' h)
    rw [hrt] at HRN
    have HWE := Lib.hid hwE
    subst hw
    clear hL hb2 hsh hmade hwE hrt hm hnfa hs' hgb
    go_upto_region 7 with (go_at_call 6; refine (HRI.out _ HL.out.tr).mono ?_; rintro e w3 ⟨rfl, hb3⟩; have hL3 := HL.out.go hb3; have HL3 := Lib.hid hL3; clear hL3 hb3)
    rw [← HGB.out]
    clear q0 q1 q2 q3 q4 q5 q6 q7
    obtain ⟨r0, r1, r2, r3⟩ := HL3.out.ncells
    go_upto_region 9 with (go_at_call 8; refine (HRN.out _ HL3.out.nfa).mono ?_; rintro e w4 ⟨rfl, hb4⟩; have HL4 := Lib.hid (HL3.out.go hb4); clear hb4)
    clear r0 r1 r2 r3
    go_upto_region 10 with (go_at_call 9; refine (HSS.out _).mono ?_; rintro e w5 ⟨rfl, rfl⟩)
    by_cases hx : 0 ≤ x ∧ x ≤ (s'.size : Int)
    · obtain ⟨h0, h1⟩ := hx
      obtain ⟨p, rfl⟩ := Int.eq_ofNat_of_zero_le h0
      have hp : p ≤ s'.size := by omega
      have d1 : decide ((p : Int) < 0) = false := by simp
      have d2 : decide ((s'.size : Int) < (p : Int)) = false := by simp; omega
      have d3 : decide (s'.size < p) = false := by simp; omega
      have HE := Lib.hid (fun w' (h : NfaIn w' A2 m ⟨(S : Int), 0, 1, E⟩) => ends_ok A2 m c2 S 0 1 E s' p w' h HM.out.right HWE.out hp (by omega))
      rw [HM.out.ends s' p] at HE
      have HR := Lib.hid (fun w' (h : TrIn w' t A n) => rends_any t s' p A n c w' (by omega) hp h HSH.out HT.out.2)
      have hen := endsT_len s' t p
      obtain ⟨L, hL⟩ : ∃ L, L = endsT s' t p := ⟨_, rfl⟩
      rw [← hL] at HE HR hen
      obtain ⟨k, hk⟩ : ∃ k, k = L.length := ⟨_, rfl⟩
      rw [← hk] at HE HR hen
      have HD := Lib.hid (fun w' (h : TrIn w' t A n) => rdeep_any t 12 A n c w' (by omega) (by omega) h)
      obtain ⟨dd, hdd⟩ : ∃ dd, dd = min t.height 12 := ⟨_, rfl⟩
      rw [← hdd] at HD
      clear hL hk hdd h0 h1
      go_upto_region 12 with (fail)
      have M := Lib.hid (HL4.out)
      obtain ⟨r0, r1, r2, r3⟩ := HL4.out.ncells
      obtain ⟨u0, u1, u2, u3, u4, u5, u6, u7⟩ := HL4.out.tcells
      by_cases hS : 600 < S
      · have d4 : decide (600 < (S : Int)) = true := by simp; omega
        go_quiet (fail)
        go_wp2_with fail
        go_returns
        exact ⟨by first | rfl | simp, (M.out.go (below_drewN (Below.refl _ _) _)).bel⟩
      · have d4 : decide (600 < (S : Int)) = false := by simp; omega
        by_cases hdd : 12 ≤ dd
        · have d5 : decide (12 ≤ (dd : Int)) = true := by simp; omega
          have d6 : decide (12 ≤ dd) = true := by simpa using hdd
          refine wp_region_held_drew (S := fun W' => LT W t A n c gb (S : Int) 0 1 E A2 m c2 W') (by kernel_rfl) (M.out.drew) (fun hHeld => ?_)
          refine wpAnyH_take (i := 0) (v := ?v0b) (List.getElem?_toArray.trans rfl) (by kernel_rfl) (by kernel_rfl) (by kernel_rfl) (fun _ _ _ h => h) (Or.inl ⟨by rfl, ?hy0b⟩) (by assumption) ?rest0b
          case hy0b => (intro W hSw; go_simp <;> (with_reducible rfl))
          (try simp only [Act.put, List.setIfInBounds_toArray, List.set_cons_zero, List.set_cons_succ])
          refine wpAnyH_take (i := 1) (v := ?v1b) (List.getElem?_toArray.trans rfl) (by kernel_rfl) (by kernel_rfl) (by kernel_rfl) (fun _ _ _ h => h) (Or.inl ⟨by rfl, ?hy1b⟩) (by assumption) ?rest1b
          case hy1b => (intro W hSw; obtain ⟨y0, y1, y2, y3, y4, y5, y6, y7, y8, y9, y10, y11, y12⟩ := LT.all hSw; go_simp <;> (with_reducible rfl))
          (try simp only [Act.put, List.setIfInBounds_toArray, List.set_cons_zero, List.set_cons_succ])
          refine wpAnyH_take (i := 2) (v := ?v2b) (List.getElem?_toArray.trans rfl) (by kernel_rfl) (by kernel_rfl) (by kernel_rfl) (fun _ _ _ h => h) (Or.inl ⟨by rfl, ?hy2b⟩) (by assumption) ?rest2b
          case hy2b => (intro W hSw; go_simp <;> (with_reducible rfl))
          (try simp only [Act.put, List.setIfInBounds_toArray, List.set_cons_zero, List.set_cons_succ])
          refine wpAnyH_take (i := 3) (v := ?v3b) (List.getElem?_toArray.trans rfl) (by kernel_rfl) (by kernel_rfl) (by kernel_rfl) (fun _ _ _ h => h) (Or.inl ⟨by rfl, ?hy3b⟩) (by assumption) ?rest3b
          case hy3b => (intro W hSw; go_simp <;> (with_reducible rfl))
          (try simp only [Act.put, List.setIfInBounds_toArray, List.set_cons_zero, List.set_cons_succ])
          refine wpAnyH_take (i := 4) (v := ?v4b) (List.getElem?_toArray.trans rfl) (by kernel_rfl) (by kernel_rfl) (by kernel_rfl) (fun _ _ _ h => h) (Or.inl ⟨by rfl, ?hy4b⟩) (by assumption) ?rest4b
          case hy4b => (intro W hSw; obtain ⟨y0, y1, y2, y3, y4, y5, y6, y7, y8, y9, y10, y11, y12⟩ := LT.all hSw; go_simp <;> (with_reducible rfl))
          (try simp only [Act.put, List.setIfInBounds_toArray, List.set_cons_zero, List.set_cons_succ])
          refine wpAnyH_ready (rs := [5]) (by kernel_rfl) (by simp) ?_
          refine AllReadyH.cons (List.getElem?_toArray.trans rfl) (fun K hK => ?_) AllReadyH.nil
          go_simp
          refine (HD.out _ (LT.tr (by assumption))).mono ?_
          rintro e w9 ⟨rfl, hb9⟩
          have L9 : LT W t A n c gb (S : Int) 0 1 E A2 m c2 w9 := LT.go (by assumption) hb9
          clear hb9
          refine hK.out _ _ (by assumption) (fun hHeld => ?_)
          clear hK K
          (try simp only [Act.put, List.setIfInBounds_toArray, List.set_cons_zero, List.set_cons_succ])
          refine wpAnyH_take (i := 6) (v := ?v6b) (List.getElem?_toArray.trans rfl) (by kernel_rfl) (by kernel_rfl) (by kernel_rfl) (fun _ _ _ h => h) (Or.inl ⟨by rfl, ?hy6b⟩) (by assumption) ?rest6b
          case hy6b => (intro W hSw; go_simp <;> (with_reducible rfl))
          (try simp only [Act.put, List.setIfInBounds_toArray, List.set_cons_zero, List.set_cons_succ])
          refine wpAnyH_take (i := 7) (v := ?v7b) (List.getElem?_toArray.trans rfl) (by kernel_rfl) (by kernel_rfl) (by kernel_rfl) (fun _ _ _ h => h) (Or.inl ⟨by rfl, ?hy7b⟩) (by assumption) ?rest7b
          case hy7b => (intro W hSw; go_simp <;> (with_reducible rfl))
          (try simp only [Act.put, List.setIfInBounds_toArray, List.set_cons_zero, List.set_cons_succ])
          refine wpAnyH_take (i := 8) (v := ?v8b) (List.getElem?_toArray.trans rfl) (by kernel_rfl) (by kernel_rfl) (by kernel_rfl) (fun _ _ _ h => h) (Or.inl ⟨by rfl, ?hy8b⟩) (by assumption) ?rest8b
          case hy8b => (intro W hSw; go_simp <;> (with_reducible rfl))
          (try simp only [Act.put, List.setIfInBounds_toArray, List.set_cons_zero, List.set_cons_succ])
          refine wpAnyH_take (i := 9) (v := undef) (List.getElem?_toArray.trans rfl) (by kernel_rfl) (by kernel_rfl) (by kernel_rfl) (fun _ _ _ h => h) (Or.inr ⟨by rfl, rfl⟩) (by assumption) ?rest9b
          (try simp only [Act.put, List.setIfInBounds_toArray, List.set_cons_zero, List.set_cons_succ])
          refine wpAnyH_take (i := 10) (v := undef) (List.getElem?_toArray.trans rfl) (by kernel_rfl) (by kernel_rfl) (by kernel_rfl) (fun _ _ _ h => h) (Or.inr ⟨by rfl, rfl⟩) (by assumption) ?rest10b
          (try simp only [Act.put, List.setIfInBounds_toArray, List.set_cons_zero, List.set_cons_succ])
          refine wpAnyH_take (i := 11) (v := undef) (List.getElem?_toArray.trans rfl) (by kernel_rfl) (by kernel_rfl) (by kernel_rfl) (fun _ _ _ h => h) (Or.inr ⟨by rfl, rfl⟩) (by assumption) ?rest11b
          (try simp only [Act.put, List.setIfInBounds_toArray, List.set_cons_zero, List.set_cons_succ])
          refine wpAnyH_take (i := 12) (v := undef) (List.getElem?_toArray.trans rfl) (by kernel_rfl) (by kernel_rfl) (by kernel_rfl) (fun _ _ _ h => h) (Or.inr ⟨by rfl, rfl⟩) (by assumption) ?rest12b
          (try simp only [Act.put, List.setIfInBounds_toArray, List.set_cons_zero, List.set_cons_succ])
          refine wpAnyH_take (i := 13) (v := undef) (List.getElem?_toArray.trans rfl) (by kernel_rfl) (by kernel_rfl) (by kernel_rfl) (fun _ _ _ h => h) (Or.inr ⟨by rfl, rfl⟩) (by assumption) ?rest13b
          (try simp only [Act.put, List.setIfInBounds_toArray, List.set_cons_zero, List.set_cons_succ])
          refine wpAnyH_take (i := 14) (v := undef) (List.getElem?_toArray.trans rfl) (by kernel_rfl) (by kernel_rfl) (by kernel_rfl) (fun _ _ _ h => h) (Or.inr ⟨by rfl, rfl⟩) (by assumption) ?rest14b
          (try simp only [Act.put, List.setIfInBounds_toArray, List.set_cons_zero, List.set_cons_succ])
          refine wpAnyH_take (i := 15) (v := undef) (List.getElem?_toArray.trans rfl) (by kernel_rfl) (by kernel_rfl) (by kernel_rfl) (fun _ _ _ h => h) (Or.inr ⟨by rfl, rfl⟩) (by assumption) ?rest15b
          (try simp only [Act.put, List.setIfInBounds_toArray, List.set_cons_zero, List.set_cons_succ])
          refine wpAnyH_take (i := 16) (v := undef) (List.getElem?_toArray.trans rfl) (by kernel_rfl) (by kernel_rfl) (by kernel_rfl) (fun _ _ _ h => h) (Or.inr ⟨by rfl, rfl⟩) (by assumption) ?rest16b
          (try simp only [Act.put, List.setIfInBounds_toArray, List.set_cons_zero, List.set_cons_succ])
          refine wpAnyH_take (i := 17) (v := undef) (List.getElem?_toArray.trans rfl) (by kernel_rfl) (by kernel_rfl) (by kernel_rfl) (fun _ _ _ h => h) (Or.inr ⟨by rfl, rfl⟩) (by assumption) ?rest17b
          (try simp only [Act.put, List.setIfInBounds_toArray, List.set_cons_zero, List.set_cons_succ])
          refine wpAnyH_take (i := 18) (v := ?v18b) (List.getElem?_toArray.trans rfl) (by kernel_rfl) (by kernel_rfl) (by kernel_rfl) (fun _ _ _ h => h) (Or.inl ⟨by rfl, ?hy18b⟩) (by assumption) ?rest18b
          case hy18b => (intro W hSw; go_simp <;> (with_reducible rfl))
          (try simp only [Act.put, List.setIfInBounds_toArray, List.set_cons_zero, List.set_cons_succ])
          refine wpAnyH_take (i := 19) (v := ?v19b) (List.getElem?_toArray.trans rfl) (by kernel_rfl) (by kernel_rfl) (by kernel_rfl) (fun _ _ _ h => h) (Or.inl ⟨by rfl, ?hy19b⟩) (by assumption) ?rest19b
          case hy19b => (intro W hSw; go_simp <;> (with_reducible rfl))
          (try simp only [Act.put, List.setIfInBounds_toArray, List.set_cons_zero, List.set_cons_succ])
          refine wpAnyH_done (by kernel_rfl) ?_ _
          go_wp2_with fail
          go_returns
          exact ⟨by first | rfl | simp, L9.bel⟩
        · have d5 : decide (12 ≤ (dd : Int)) = false := by simp; omega
          have d6 : decide (12 ≤ dd) = false := by simpa using hdd
          refine wp_region_held_drew (S := fun W' => LT W t A n c gb (S : Int) 0 1 E A2 m c2 W') (by kernel_rfl) (M.out.drew) (fun hHeld => ?_)
          refine wpAnyH_take (i := 0) (v := ?v0c) (List.getElem?_toArray.trans rfl) (by kernel_rfl) (by kernel_rfl) (by kernel_rfl) (fun _ _ _ h => h) (Or.inl ⟨by rfl, ?hy0c⟩) (by assumption) ?rest0c
          case hy0c => (intro W hSw; go_simp <;> (with_reducible rfl))
          (try simp only [Act.put, List.setIfInBounds_toArray, List.set_cons_zero, List.set_cons_succ])
          refine wpAnyH_take (i := 1) (v := ?v1c) (List.getElem?_toArray.trans rfl) (by kernel_rfl) (by kernel_rfl) (by kernel_rfl) (fun _ _ _ h => h) (Or.inl ⟨by rfl, ?hy1c⟩) (by assumption) ?rest1c
          case hy1c => (intro W hSw; obtain ⟨y0, y1, y2, y3, y4, y5, y6, y7, y8, y9, y10, y11, y12⟩ := LT.all hSw; go_simp <;> (with_reducible rfl))
          (try simp only [Act.put, List.setIfInBounds_toArray, List.set_cons_zero, List.set_cons_succ])
          refine wpAnyH_take (i := 2) (v := ?v2c) (List.getElem?_toArray.trans rfl) (by kernel_rfl) (by kernel_rfl) (by kernel_rfl) (fun _ _ _ h => h) (Or.inl ⟨by rfl, ?hy2c⟩) (by assumption) ?rest2c
          case hy2c => (intro W hSw; go_simp <;> (with_reducible rfl))
          (try simp only [Act.put, List.setIfInBounds_toArray, List.set_cons_zero, List.set_cons_succ])
          refine wpAnyH_take (i := 3) (v := ?v3c) (List.getElem?_toArray.trans rfl) (by kernel_rfl) (by kernel_rfl) (by kernel_rfl) (fun _ _ _ h => h) (Or.inl ⟨by rfl, ?hy3c⟩) (by assumption) ?rest3c
          case hy3c => (intro W hSw; go_simp <;> (with_reducible rfl))
          (try simp only [Act.put, List.setIfInBounds_toArray, List.set_cons_zero, List.set_cons_succ])
          refine wpAnyH_take (i := 4) (v := ?v4c) (List.getElem?_toArray.trans rfl) (by kernel_rfl) (by kernel_rfl) (by kernel_rfl) (fun _ _ _ h => h) (Or.inl ⟨by rfl, ?hy4c⟩) (by assumption) ?rest4c
          case hy4c => (intro W hSw; obtain ⟨y0, y1, y2, y3, y4, y5, y6, y7, y8, y9, y10, y11, y12⟩ := LT.all hSw; go_simp <;> (with_reducible rfl))
          (try simp only [Act.put, List.setIfInBounds_toArray, List.set_cons_zero, List.set_cons_succ])
          refine wpAnyH_ready (rs := [5]) (by kernel_rfl) (by simp) ?_
          refine AllReadyH.cons (List.getElem?_toArray.trans rfl) (fun K hK => ?_) AllReadyH.nil
          go_simp
          refine (HD.out _ (LT.tr (by assumption))).mono ?_
          rintro e w9 ⟨rfl, hb9⟩
          have L9 : LT W t A n c gb (S : Int) 0 1 E A2 m c2 w9 := LT.go (by assumption) hb9
          clear hb9
          refine hK.out _ _ (by assumption) (fun hHeld => ?_)
          clear hK K
          (try simp only [Act.put, List.setIfInBounds_toArray, List.set_cons_zero, List.set_cons_succ])
          refine wpAnyH_take (i := 6) (v := ?v6c) (List.getElem?_toArray.trans rfl) (by kernel_rfl) (by kernel_rfl) (by kernel_rfl) (fun _ _ _ h => h) (Or.inl ⟨by rfl, ?hy6c⟩) (by assumption) ?rest6c
          case hy6c => (intro W hSw; go_simp <;> (with_reducible rfl))
          (try simp only [Act.put, List.setIfInBounds_toArray, List.set_cons_zero, List.set_cons_succ])
          refine wpAnyH_take (i := 7) (v := ?v7c) (List.getElem?_toArray.trans rfl) (by kernel_rfl) (by kernel_rfl) (by kernel_rfl) (fun _ _ _ h => h) (Or.inl ⟨by rfl, ?hy7c⟩) (by assumption) ?rest7c
          case hy7c => (intro W hSw; go_simp <;> (with_reducible rfl))
          (try simp only [Act.put, List.setIfInBounds_toArray, List.set_cons_zero, List.set_cons_succ])
          refine wpAnyH_take (i := 8) (v := ?v8c) (List.getElem?_toArray.trans rfl) (by kernel_rfl) (by kernel_rfl) (by kernel_rfl) (fun _ _ _ h => h) (Or.inl ⟨by rfl, ?hy8c⟩) (by assumption) ?rest8c
          case hy8c => (intro W hSw; go_simp <;> (with_reducible rfl))
          (try simp only [Act.put, List.setIfInBounds_toArray, List.set_cons_zero, List.set_cons_succ])
          refine wpAnyH_take (i := 9) (v := ?v9c) (List.getElem?_toArray.trans rfl) (by kernel_rfl) (by kernel_rfl) (by kernel_rfl) (fun _ _ _ h => h) (Or.inl ⟨by rfl, ?hy9c⟩) (by assumption) ?rest9c
          case hy9c => (intro W hSw; obtain ⟨y0, y1, y2, y3, y4, y5, y6, y7, y8, y9, y10, y11, y12⟩ := LT.all hSw; go_simp <;> (with_reducible rfl))
          (try simp only [Act.put, List.setIfInBounds_toArray, List.set_cons_zero, List.set_cons_succ])
          refine wpAnyH_take (i := 10) (v := ?v10c) (List.getElem?_toArray.trans rfl) (by kernel_rfl) (by kernel_rfl) (by kernel_rfl) (fun _ _ _ h => h) (Or.inl ⟨by rfl, ?hy10c⟩) (by assumption) ?rest10c
          case hy10c => (intro W hSw; go_simp <;> (with_reducible rfl))
          (try simp only [Act.put, List.setIfInBounds_toArray, List.set_cons_zero, List.set_cons_succ])
          refine wpAnyH_take (i := 11) (v := ?v11c) (List.getElem?_toArray.trans rfl) (by kernel_rfl) (by kernel_rfl) (by kernel_rfl) (fun _ _ _ h => h) (Or.inl ⟨by rfl, ?hy11c⟩) (by assumption) ?rest11c
          case hy11c => (intro W hSw; go_simp <;> (with_reducible rfl))
          (try simp only [Act.put, List.setIfInBounds_toArray, List.set_cons_zero, List.set_cons_succ])
          refine wpAnyH_take (i := 13) (v := ?v13c) (List.getElem?_toArray.trans rfl) (by kernel_rfl) (by kernel_rfl) (by kernel_rfl) (fun _ _ _ h => h) (Or.inl ⟨by rfl, ?hy13c⟩) (by assumption) ?rest13c
          case hy13c => (intro W hSw; obtain ⟨y0, y1, y2, y3, y4, y5, y6, y7, y8, y9, y10, y11, y12⟩ := LT.all hSw; go_simp <;> (with_reducible rfl))
          (try simp only [Act.put, List.setIfInBounds_toArray, List.set_cons_zero, List.set_cons_succ])
          refine wpAnyH_take (i := 14) (v := ?v14c) (List.getElem?_toArray.trans rfl) (by kernel_rfl) (by kernel_rfl) (by kernel_rfl) (fun _ _ _ h => h) (Or.inl ⟨by rfl, ?hy14c⟩) (by assumption) ?rest14c
          case hy14c => (intro W hSw; go_simp <;> (with_reducible rfl))
          (try simp only [Act.put, List.setIfInBounds_toArray, List.set_cons_zero, List.set_cons_succ])
          refine wpAnyH_take (i := 15) (v := ?v15c) (List.getElem?_toArray.trans rfl) (by kernel_rfl) (by kernel_rfl) (by kernel_rfl) (fun _ _ _ h => h) (Or.inl ⟨by rfl, ?hy15c⟩) (by assumption) ?rest15c
          case hy15c => (intro W hSw; go_simp <;> (with_reducible rfl))
          (try simp only [Act.put, List.setIfInBounds_toArray, List.set_cons_zero, List.set_cons_succ])
          refine wpAnyH_ready (rs := [12]) (by kernel_rfl) (by simp) ?_
          refine AllReadyH.cons (List.getElem?_toArray.trans rfl) (fun K hK => ?_) AllReadyH.nil
          go_simp
          refine (HE.out _ (LT.nfa (by assumption))).mono ?_
          rintro e w10 ⟨A9, c9, rfl, hA9, hb10⟩
          have L10 : LT W t A n c gb (S : Int) 0 1 E A2 m c2 w10 := LT.go (by assumption) hb10
          clear hb10
          refine hK.out _ _ (by assumption) (fun hHeld => ?_)
          clear hK K
          (try simp only [Act.put, List.setIfInBounds_toArray, List.set_cons_zero, List.set_cons_succ])
          refine wpAnyH_ready (rs := [16]) (by kernel_rfl) (by simp) ?_
          refine AllReadyH.cons (List.getElem?_toArray.trans rfl) (fun K hK => ?_) AllReadyH.nil
          go_simp
          refine (HR.out _ (LT.tr (by assumption))).mono ?_
          rintro e w11 ⟨A8, c8, rfl, hA8, hb11⟩
          have L11 : LT W t A n c gb (S : Int) 0 1 E A2 m c2 w11 := LT.go (by assumption) hb11
          replace hA9 := (hA9.below hb11).more hb11.size
          clear hb11
          refine hK.out _ _ (by assumption) (fun hHeld => ?_)
          clear hK K
          (try simp only [Act.put, List.setIfInBounds_toArray, List.set_cons_zero, List.set_cons_succ])
          refine wpAnyH_ready (rs := [17]) (by kernel_rfl) (by simp) ?_
          refine AllReadyH.cons (List.getElem?_toArray.trans rfl) (fun K hK => ?_) AllReadyH.nil
          go_simp
          refine (ints_same A9 A8 k c9 c8 L w11 (by omega) hA9 hA8).mono ?_
          rintro e w12 ⟨rfl, mq, rfl⟩
          have L12 : LT W t A n c gb (S : Int) 0 1 E A2 m c2 (w11.drewN mq) := L11.go (below_drewN (Below.refl _ _) mq)
          refine hK.out _ _ (by assumption) (fun hHeld => ?_)
          clear hK K
          (try simp only [Act.put, List.setIfInBounds_toArray, List.set_cons_zero, List.set_cons_succ])
          refine wpAnyH_take (i := 18) (v := ?v18c) (List.getElem?_toArray.trans rfl) (by kernel_rfl) (by kernel_rfl) (by kernel_rfl) (fun _ _ _ h => h) (Or.inl ⟨by rfl, ?hy18c⟩) (by assumption) ?rest18c
          case hy18c => (intro W hSw; go_simp <;> (with_reducible rfl))
          (try simp only [Act.put, List.setIfInBounds_toArray, List.set_cons_zero, List.set_cons_succ])
          refine wpAnyH_take (i := 19) (v := ?v19c) (List.getElem?_toArray.trans rfl) (by kernel_rfl) (by kernel_rfl) (by kernel_rfl) (fun _ _ _ h => h) (Or.inl ⟨by rfl, ?hy19c⟩) (by assumption) ?rest19c
          case hy19c => (intro W hSw; go_simp <;> (with_reducible rfl))
          (try simp only [Act.put, List.setIfInBounds_toArray, List.set_cons_zero, List.set_cons_succ])
          refine wpAnyH_done (by kernel_rfl) ?_ _
          go_wp2_with fail
          go_returns
          exact ⟨by first | rfl | simp, L12.bel⟩
    · have HN := Lib.hid (fun w' (h : NfaIn w' A2 m ⟨(S : Int), 0, 1, E⟩) => ends_no A2 m c2 S 0 1 E s' x w' h (fun h9 => hx h9.2))
      have M := Lib.hid (HL4.out)
      obtain ⟨r0, r1, r2, r3⟩ := HL4.out.ncells
      rcases (by omega : x < 0 ∨ (0 ≤ x ∧ (s'.size : Int) < x)) with h9 | ⟨h8, h9⟩
      · have d1 : decide (x < 0) = true := by simpa using h9
        clear hx h9
        go_wp2_with (go_at_call 10; refine (HN.out _ M.out.nfa).mono ?_; rintro e w6 ⟨rfl, hb6⟩; have M6 := Lib.hid (M.out.go hb6); clear hb6)
        go_returns
        exact ⟨by first | rfl | simp, M6.out.bel⟩
      · have d1 : decide (x < 0) = false := by simp; omega
        have d2 : decide ((s'.size : Int) < x) = true := by simpa using h9
        clear hx h8 h9
        go_wp2_with (go_at_call 10; refine (HN.out _ M.out.nfa).mono ?_; rintro e w6 ⟨rfl, hb6⟩; have M6 := Lib.hid (M.out.go hb6); clear hb6)
        go_returns
        exact ⟨by first | rfl | simp, M6.out.bel⟩
end Go.Proofs.Ytpeoomdfopjlmaa
