/- The places at which an automaton takes: the two walks. -/
import Derived.Test.YtfjhcoeehjephaaDfaMe
namespace Go.Proofs.Ytfjhcoeehjephaa.D8
open Go.RowKit

theorem info3 : (Try.prog.info? 3).map (fun i => (i.zero, i.size, i.bytes)) = some (some (.int .i64 0), 1, 8) := by kernel_rfl
def numsV (q : IntKind) (l : List Int) : List Value := l.map (Value.int q)
theorem numsV_snoc (q : IntKind) (l : List Int) (t : Int) : numsV q (l ++ [t]) = numsV q l ++ [.int q t] := by simp [numsV]
theorem own_num {w : World} {base c n : Nat} {e : TypeId} {q : IntKind} {A : Option Addr} {xs : List Int} (h : w.ownsRow base e 1 (.slice A n c) n (numsV q xs)) : Arr w w.heap.size 1 A n (NumC q xs) := fun hn => by
  have hl : xs.length = n := by have := h.1; simpa [numsV] using this
  obtain ⟨b, off, rfl, hlt, hc⟩ := (Arr.of_own h) hn
  refine ⟨b, off, rfl, hlt, fun k j hk hj => ?_⟩
  rw [hc k j hk hj]
  simp [numsV, NumC, hl, hk]
theorem own_slice {w : World} {base : Nat} {e : TypeId} {v : Value} {n : Nat} {xs : List Value} (h : w.ownsRow base e 1 v n xs) : ∃ A c, v = .slice A n c := by
  rcases h.2 with ⟨rfl, rfl⟩ | ⟨g, cap, cur, rfl, _⟩
  · exact ⟨none, 0, rfl⟩
  · exact ⟨_, _, rfl⟩
theorem index_byte (s : ByteArray) (k : Nat) (h : k < s.size) : ∃ (c : UInt8) (t : Bs), s.data.toList.drop k = c :: t ∧ s.data.toList.drop (k + 1) = t ∧ ∀ W, (Instr.index 9 (.string s) (.int .i64 (k : Int))).run Try.prog W = .ok (.int .u8 (c.toNat : Int)) W := by
  have h' : k < s.data.toList.length := by rw [size_data]; exact h
  refine ⟨s[k], s.data.toList.drop (k + 1), ?_, rfl, fun W => ?_⟩
  · rw [List.drop_eq_getElem_cons h']; congr 1
  · rw [run_index_string W 9 s .i64 _ Try.underlying9, dif_pos ⟨by omega, by omega⟩]
    simp

/-- what a walk reads of an automaton that lies in its box at p -/
structure Facts (W : World) (p b1 o1 b2 o2 n1 n2 c1 c2 : Nat) (D : Dfa) (RA : Nat → Option Addr) (rc : Nat → Nat) : Prop where
  q1 : W.cell? ⟨p, 256, none⟩ = some (.slice (some ⟨b1, o1, none⟩) n1 c1)
  q2 : W.cell? ⟨p, 257, none⟩ = some (.slice (some ⟨b2, o2, none⟩) n2 c2)
  cl : ∀ b, b < 256 → W.cell? ⟨p, b, none⟩ = some (.int .u8 (D.cls b))
  acc : ∀ st, st < n1 → W.cell? ⟨b2, o2 + st, none⟩ = some (.bool (D.acc.getD st false))
  row : ∀ st, st < n1 → W.cell? ⟨b1, o1 + st, none⟩ = some (.slice (RA st) D.many (rc st))
  el : ∀ st, st < n1 → ∀ j, j < D.many → ∃ b3 o3, RA st = some ⟨b3, o3, none⟩ ∧ W.cell? ⟨b3, o3 + j, none⟩ = some (.int .i64 ((D.next.getD st []).getD j 0))
theorem facts_of {w W : World} {ds : Array Value} {b1 o1 b2 o2 n1 n2 c1 c2 : Nat} {D : Dfa} {RA : Nat → Option Addr} {rc : Nat → Nat}
    (h : DfaIn w ds (some ⟨b1, o1, none⟩) (some ⟨b2, o2, none⟩) n1 n2 c1 c2 D RA rc) (hr : RightD D) (hb : Below (w.alloc (.cells ds 30)).heap.size (w.alloc (.cells ds 30)) W) : Facts W w.heap.size b1 o1 b2 o2 n1 n2 c1 c2 D RA rc := by
  obtain ⟨q1, q2, hcl, -, -⟩ := kept_cell hb h.cells
  have hb0 : Below w.heap.size w (w.alloc (.cells ds 30)) := (Below.refl _ _).alloc (Nat.le_refl _) _
  have H := h.keep (hb0.trans (hb.mono (by simp)))
  have hl1 := h.next.len
  have hl2 := h.alen
  have hal := hr.alen
  refine ⟨q1, q2, hcl, fun st hst => ?_, fun st hst => ?_, fun st hst j hj => ?_⟩
  · obtain ⟨b, o, e, _, hc⟩ := H.aarr.one (k := st) (by omega)
    simp only [Option.some.injEq, Addr.mk.injEq, and_true] at e
    obtain ⟨rfl, rfl⟩ := e
    exact hc
  · obtain ⟨b, o, e, _, hc⟩ := H.next.arr.one (k := st) hst
    simp only [Option.some.injEq, Addr.mk.injEq, and_true] at e
    obtain ⟨rfl, rfl⟩ := e
    unfold RowC at hc
    rw [state_row hr (by omega)] at hc
    exact hc
  · obtain ⟨b, o, e, _, hc⟩ := (H.next.row st hst).one (k := j) (by rw [state_row hr (by omega)]; exact hj)
    exact ⟨b, o, e, hc⟩
theorem heads {w : World} {ds : Array Value} {A1 A2 : Option Addr} {n1 n2 c1 c2 : Nat} {D : Dfa} {RA : Nat → Option Addr} {rc : Nat → Nat}
    (h : DfaIn w ds A1 A2 n1 n2 c1 c2 D RA rc) (hr : RightD D) : ∃ b1 o1 b2 o2, A1 = some ⟨b1, o1, none⟩ ∧ A2 = some ⟨b2, o2, none⟩ := by
  have hl1 := h.next.len
  have hl2 := h.alen
  have hal := hr.alen
  have hlo := hr.lo
  obtain ⟨b1, o1, e1, _, _⟩ := h.next.arr.one (k := 0) (by omega)
  obtain ⟨b2, o2, e2, _, _⟩ := h.aarr.one (k := 0) (by omega)
  exact ⟨b1, o1, b2, o2, e1, e2⟩

set_option maxRecDepth 100000 in
set_option maxHeartbeats 16000000 in
theorem dends_ok (ds : Array Value) (A1 A2 : Option Addr) (n1 n2 c1 c2 : Nat) (D : Dfa) (RA : Nat → Option Addr) (rc : Nat → Nat) (s : ByteArray) (w : World) (h : DfaIn w ds A1 A2 n1 n2 c1 c2 D RA rc) (hr : RightD D) (a : Nat) (ha : a ≤ s.size) (hs : s.size ≤ 1000000) :
    Calls Try.prog 16 #[.agg ds, .string s, .int .i64 a] w fun e w' => ∃ A c, e = .returned (.slice A (endsF D (s.data.toList.drop a) 0 a).length c) ∧ Arr w' w'.heap.size 1 A (endsF D (s.data.toList.drop a) 0 a).length (NumC .i64 (endsF D (s.data.toList.drop a) 0 a)) ∧ Below w.heap.size w w' := by
  obtain ⟨i3, hi3, hz3, hsz3, hbt3⟩ := info_parts info3
  obtain ⟨b1, o1, b2, o2, rfl, rfl⟩ := heads h hr
  have hb0 : Below w.heap.size w (w.alloc (.cells ds 30)) := (Below.refl _ _).alloc (Nat.le_refl _) _
  have HQ := Lib.hid (fun W hW => facts_of (W := W) h hr hW)
  have hl1 := h.next.len
  have hl2 := h.alen
  have hal := hr.alen
  have hlo := hr.lo
  have hhi := hr.hi
  have HCLT := Lib.hid h.cells.lt
  have HR := Lib.hid hr
  obtain ⟨L, hL⟩ : ∃ L, L = endsF D (s.data.toList.drop a) 0 a := ⟨_, rfl⟩
  rw [← hL]
  have HL := Lib.hid hL
  clear hL
  have HRT := Lib.hid (dright_any ds (some ⟨b1, o1, none⟩) (some ⟨b2, o2, none⟩) n1 n2 c1 c2 D RA rc (w.alloc (.cells ds 30)) (h.keep hb0))
  rw [rightD_yes hr] at HRT
  obtain ⟨-, -, -, -, hrng⟩ := kept_cell (w := w) (t := 30) (Below.refl _ _) h.cells
  have hinf : (Try.prog.info? 30).map (·.size) = some ds.toList.length := by rw [Array.length_toList, h.cells.size]; exact info26
  have HRNG := Lib.hid (And.intro hrng hinf)
  have hd1 : decide ((a : Int) < 0) = false := by simp
  have hd2 : decide ((s.size : Int) < (a : Int)) = false := by simp; omega
  have hd3 : decide (s.size < a) = false := by simp; omega
  clear h hr hrng hinf
  go_enter Try.func16, Try.ntmps16
  go_wp2_with (first | (refine wpList_load_mid rfl 30 (.tmp 3) rfl w.heap.size 0 rfl ds.toList _ HRNG.out.1 Try.underlying30 rfl HRNG.out.2 ?_))
  refine HRT.out.mono ?_
  rintro e w1 ⟨rfl, hb1⟩
  have HB1 := Lib.hid (below_new (Below.refl w.heap.size w) (Nat.le_refl _) hb1)
  have hq1 : ∀ W, Below w1.heap.size w1 W → Facts W w.heap.size b1 o1 b2 o2 n1 n2 c1 c2 D RA rc := fun W hW => HQ.out W (hb1.trans (hW.mono hb1.size))
  clear hb1 HQ
  have HQ := Lib.hid hq1
  clear hq1
  go_wp2_with fail
  go_loopw [2, 7, 8] (fun av v sv wr => ∃ (k st : Nat) (out : List Int), k ≤ s.size ∧ av = .int .i64 k ∧ sv = .int .i64 st ∧ st < n1 ∧ wr.ownsRow w1.heap.size 3 1 v out.length (numsV .i64 out) ∧ out.length ≤ k ∧ out ++ endsF D (s.data.toList.drop k) st k = L ∧ Below w1.heap.size w1 wr ∧ w1.heap.size ≤ wr.heap.size) (fun av _ _ _ => s.size - (intOf av).toNat)
  case atStart => exact ⟨a, 0, [], ha, rfl, rfl, by omega, World.ownsRow_nil _ _ _ _, by simp, HL.out.symm, Below.refl _ _, Nat.le_refl _⟩
  case round =>
    obtain ⟨k, st, out, hk, rfl, rfl, hst, hown, hol, hLL, hbe, hszr⟩ := hrel
    obtain ⟨v, rfl⟩ : ∃ v : Value, v = u7 := ⟨_, rfl⟩
    obtain ⟨w2, rfl⟩ : ∃ w2 : World, w2 = wr := ⟨_, rfl⟩
    have HO := Lib.hid hown
    have HBE := Lib.hid hbe
    have HLL := Lib.hid hLL
    have p1 := (HQ.out w2 hbe).q1
    have p2 := (HQ.out w2 hbe).q2
    have hacc := (HQ.out w2 hbe).acc st hst
    have hsn : (st : Int) < (n1 : Int) := by omega
    have hsn2 : (st : Int) < (n2 : Int) := by omega
    clear hLL hbe hown
    cases hab : D.acc.getD st false with
    | true =>
      rw [hab] at hacc
      have hher : here D st k = [(k : Int)] := by unfold here; rw [if_pos hab]
      have HHER := Lib.hid hher
      clear hab hher
      by_cases hend : k = s.size
      · have e2 : ((k : Int) == (s.size : Int)) = true := by simp [hend]
        have e2n : decide (s.size ≤ k) = true := by simp [hend]
        have hfin : (out ++ [(k : Int)]) = L := by
          have h9 := HLL.out
          rw [List.drop_eq_nil_of_le (by rw [size_data]; omega), endsF, HHER.out] at h9
          simpa using h9
        have HFIN := Lib.hid hfin
        clear hend hfin
        go_wp2_with (first | (at_builtin; refine wpList_app1 w1 _ rfl (.tmp 29) (.tmp 31) 36 rfl w1.heap.size 3 i3 (.int .i64 0) 8 Try.underlying36 hi3 hz3 hsz3 hbt3 rfl _ out.length (numsV .i64 out) rfl (HO.out.alloc _) (HBE.out.alloc hszr _) (.int .i64 (k : Int)) _ rfl (by go_simp) rfl (by omega) (by unfold maxLen; omega) (by simp; omega) ?_; intro v5 w5 hown5 hbel5 hg5; have hown5 : w5.ownsRow w1.heap.size 3 1 v5 (out ++ [(k : Int)]).length (numsV .i64 (out ++ [(k : Int)])) := (by rw [List.length_append, numsV_snoc]; exact hown5); have hsz5 : w1.heap.size ≤ w5.heap.size := hbel5.size))
        go_returns
        obtain ⟨A, c, hv⟩ := own_slice hown5
        rw [HFIN.out] at hv
        refine ⟨A, c, by rw [← hv]; rfl, ?_, HB1.out.trans (hbel5.mono HB1.out.size)⟩
        have h8 := hown5
        rw [HFIN.out, hv] at h8
        exact own_num h8
      · have e2 : ((k : Int) == (s.size : Int)) = false := by simp; omega
        have e2n : decide (s.size ≤ k) = false := by simp; omega
        obtain ⟨cc, tt, hdr, hdr2, hidx⟩ := index_byte s k (by omega)
        obtain ⟨hcm, hx0, hx1⟩ := state_next HR.out (st := st) (by omega) cc
        have hclt := HCLT.out cc.toNat cc.toNat_lt
        have hend2 : k < s.size := by omega
        have hstep : L = (out ++ [(k : Int)]) ++ if nextD D st cc < 0 then [] else endsF D (s.data.toList.drop (k + 1)) (nextD D st cc).toNat (k + 1) := by
          have h9 := HLL.out
          rw [hdr, endsF, HHER.out] at h9
          rw [hdr2, ← h9]
          simp
        have HSTEP := Lib.hid hstep
        have hccb := cc.toNat_lt
        obtain ⟨cn, hcn⟩ : ∃ cn, cn = cc.toNat := ⟨_, rfl⟩
        rw [← hcn] at hidx hcm hclt hccb
        obtain ⟨cj, hcj⟩ : ∃ cj, cj = D.cls cn := ⟨_, rfl⟩
        have HFC := Lib.hid (fun (W : World) (hW : Below w1.heap.size w1 W) => (HQ.out W hW).cl cn hccb)
        have HFE := Lib.hid (fun (W : World) (hW : Below w1.heap.size w1 W) => (HQ.out W hW).el st hst (D.cls cn) hcm)
        have HFR := Lib.hid (fun (W : World) (hW : Below w1.heap.size w1 W) => (HQ.out W hW).row st hst)
        have hnx : (D.next.getD st []).getD (D.cls cn) 0 = nextD D st cc := by rw [hcn]; rfl
        rw [hnx] at HFE
        rw [← hcj] at HFC HFE hcm hclt
        obtain ⟨x, hx⟩ : ∃ x, x = nextD D st cc := ⟨_, rfl⟩
        rw [← hx] at HFE HSTEP hx0 hx1
        obtain ⟨mm, hmm⟩ : ∃ mm, mm = D.many := ⟨_, rfl⟩
        rw [← hmm] at HFR hcm
        have hm2 : mm ≤ 256 := by rw [hmm]; exact HR.out.mhi
        have hm3 : (cj : Int) < (mm : Int) := by omega
        have hm4 : (cj : Int) < 256 := by omega
        have hm5 : (cn : Int) < 256 := by omega
        clear hdr hdr2 hstep hcn hcj hnx hx hmm hend
        rcases (by omega : x = -1 ∨ 0 ≤ x) with hneg | hpos
        · have e3 : decide (x < 0) = true := by simp [hneg]
          have hfin : (out ++ [(k : Int)]) = L := by rw [HSTEP.out, if_pos (by omega), List.append_nil]
          have HFIN := Lib.hid hfin
          clear hfin
          go_wp2_with (first | (at_builtin; refine wpList_app1 w1 _ rfl (.tmp 29) (.tmp 31) 36 rfl w1.heap.size 3 i3 (.int .i64 0) 8 Try.underlying36 hi3 hz3 hsz3 hbt3 rfl _ out.length (numsV .i64 out) rfl (HO.out.alloc _) (HBE.out.alloc hszr _) (.int .i64 (k : Int)) _ rfl (by go_simp) rfl (by omega) (by unfold maxLen; omega) (by simp; omega) ?_; intro v5 w5 hown5 hbel5 hg5; have hown5 : w5.ownsRow w1.heap.size 3 1 v5 (out ++ [(k : Int)]).length (numsV .i64 (out ++ [(k : Int)])) := (by rw [List.length_append, numsV_snoc]; exact hown5); have hsz5 : w1.heap.size ≤ w5.heap.size := hbel5.size))
          have q1 := (HQ.out w5 hbel5).q1
          have q2 := (HQ.out w5 hbel5).q2
          have r1 := HFC.out w5 hbel5
          have r2 := HFR.out w5 hbel5
          obtain ⟨b3, o3, hRA, r3⟩ := HFE.out w5 hbel5
          rw [hRA] at r2
          go_quiet (fail)
          go_wp2_with fail
          go_returns
          obtain ⟨A, c, hv⟩ := own_slice hown5
          rw [HFIN.out] at hv
          refine ⟨A, c, by rw [← hv]; rfl, ?_, below_drewN (HB1.out.trans (hbel5.mono HB1.out.size)) _⟩
          have h8 := own_drewN hown5 nq
          rw [HFIN.out, hv] at h8
          exact own_num h8
        · obtain ⟨nx, rfl⟩ := Int.eq_ofNat_of_zero_le hpos
          have e3 : decide ((nx : Int) < 0) = false := by simp
          go_wp2_with (first | (at_builtin; refine wpList_app1 w1 _ rfl (.tmp 29) (.tmp 31) 36 rfl w1.heap.size 3 i3 (.int .i64 0) 8 Try.underlying36 hi3 hz3 hsz3 hbt3 rfl _ out.length (numsV .i64 out) rfl (HO.out.alloc _) (HBE.out.alloc hszr _) (.int .i64 (k : Int)) _ rfl (by go_simp) rfl (by omega) (by unfold maxLen; omega) (by simp; omega) ?_; intro v5 w5 hown5 hbel5 hg5; have hown5 : w5.ownsRow w1.heap.size 3 1 v5 (out ++ [(k : Int)]).length (numsV .i64 (out ++ [(k : Int)])) := (by rw [List.length_append, numsV_snoc]; exact hown5); have hsz5 : w1.heap.size ≤ w5.heap.size := hbel5.size))
          have q1 := (HQ.out w5 hbel5).q1
          have q2 := (HQ.out w5 hbel5).q2
          have r1 := HFC.out w5 hbel5
          have r2 := HFR.out w5 hbel5
          obtain ⟨b3, o3, hRA, r3⟩ := HFE.out w5 hbel5
          rw [hRA] at r2
          go_quiet (fail)
          go_wp2_with fail
          go_roundw
          case rel => exact ⟨k + 1, nx, (out ++ [(k : Int)]), by omega, by go_num, by first | rfl | trivial, by omega, own_drewN hown5 _, by first | omega | (simp; omega), by rw [HSTEP.out, if_neg (by omega)]; rfl, below_drewN hbel5 _, by show _ ≤ w5.heap.size; exact hsz5⟩
          case measure => simp [intOf]; omega
    | false =>
      rw [hab] at hacc
      have hher : here D st k = [] := by unfold here; rw [if_neg (by rw [hab]; simp)]
      have HHER := Lib.hid hher
      clear hab hher
      by_cases hend : k = s.size
      · have e2 : ((k : Int) == (s.size : Int)) = true := by simp [hend]
        have e2n : decide (s.size ≤ k) = true := by simp [hend]
        have hfin : out = L := by
          have h9 := HLL.out
          rw [List.drop_eq_nil_of_le (by rw [size_data]; omega), endsF, HHER.out] at h9
          simpa using h9
        have HFIN := Lib.hid hfin
        clear hend hfin
        go_wp2_with fail
        go_returns
        obtain ⟨A, c, hv⟩ := own_slice HO.out
        rw [HFIN.out] at hv
        refine ⟨A, c, by rw [← hv]; rfl, ?_, HB1.out.trans (HBE.out.mono HB1.out.size)⟩
        have h8 := HO.out
        rw [HFIN.out, hv] at h8
        exact own_num h8
      · have e2 : ((k : Int) == (s.size : Int)) = false := by simp; omega
        have e2n : decide (s.size ≤ k) = false := by simp; omega
        obtain ⟨cc, tt, hdr, hdr2, hidx⟩ := index_byte s k (by omega)
        obtain ⟨hcm, hx0, hx1⟩ := state_next HR.out (st := st) (by omega) cc
        have hclt := HCLT.out cc.toNat cc.toNat_lt
        have hend2 : k < s.size := by omega
        have hstep : L = out ++ if nextD D st cc < 0 then [] else endsF D (s.data.toList.drop (k + 1)) (nextD D st cc).toNat (k + 1) := by
          have h9 := HLL.out
          rw [hdr, endsF, HHER.out] at h9
          rw [hdr2, ← h9]
          simp
        have HSTEP := Lib.hid hstep
        have hccb := cc.toNat_lt
        obtain ⟨cn, hcn⟩ : ∃ cn, cn = cc.toNat := ⟨_, rfl⟩
        rw [← hcn] at hidx hcm hclt hccb
        obtain ⟨cj, hcj⟩ : ∃ cj, cj = D.cls cn := ⟨_, rfl⟩
        have HFC := Lib.hid (fun (W : World) (hW : Below w1.heap.size w1 W) => (HQ.out W hW).cl cn hccb)
        have HFE := Lib.hid (fun (W : World) (hW : Below w1.heap.size w1 W) => (HQ.out W hW).el st hst (D.cls cn) hcm)
        have HFR := Lib.hid (fun (W : World) (hW : Below w1.heap.size w1 W) => (HQ.out W hW).row st hst)
        have hnx : (D.next.getD st []).getD (D.cls cn) 0 = nextD D st cc := by rw [hcn]; rfl
        rw [hnx] at HFE
        rw [← hcj] at HFC HFE hcm hclt
        obtain ⟨x, hx⟩ : ∃ x, x = nextD D st cc := ⟨_, rfl⟩
        rw [← hx] at HFE HSTEP hx0 hx1
        obtain ⟨mm, hmm⟩ : ∃ mm, mm = D.many := ⟨_, rfl⟩
        rw [← hmm] at HFR hcm
        have hm2 : mm ≤ 256 := by rw [hmm]; exact HR.out.mhi
        have hm3 : (cj : Int) < (mm : Int) := by omega
        have hm4 : (cj : Int) < 256 := by omega
        have hm5 : (cn : Int) < 256 := by omega
        clear hdr hdr2 hstep hcn hcj hnx hx hmm hend
        rcases (by omega : x = -1 ∨ 0 ≤ x) with hneg | hpos
        · have e3 : decide (x < 0) = true := by simp [hneg]
          have hfin : out = L := by rw [HSTEP.out, if_pos (by omega), List.append_nil]
          have HFIN := Lib.hid hfin
          clear hfin
          go_wp2_with fail
          have q1 := (HQ.out w2 HBE.out).q1
          have q2 := (HQ.out w2 HBE.out).q2
          have r1 := HFC.out w2 HBE.out
          have r2 := HFR.out w2 HBE.out
          obtain ⟨b3, o3, hRA, r3⟩ := HFE.out w2 HBE.out
          rw [hRA] at r2
          go_quiet (fail)
          go_wp2_with fail
          go_returns
          obtain ⟨A, c, hv⟩ := own_slice HO.out
          rw [HFIN.out] at hv
          refine ⟨A, c, by rw [← hv]; rfl, ?_, below_drewN (HB1.out.trans (HBE.out.mono HB1.out.size)) _⟩
          have h8 := own_drewN HO.out nq
          rw [HFIN.out, hv] at h8
          exact own_num h8
        · obtain ⟨nx, rfl⟩ := Int.eq_ofNat_of_zero_le hpos
          have e3 : decide ((nx : Int) < 0) = false := by simp
          go_wp2_with fail
          have q1 := (HQ.out w2 HBE.out).q1
          have q2 := (HQ.out w2 HBE.out).q2
          have r1 := HFC.out w2 HBE.out
          have r2 := HFR.out w2 HBE.out
          obtain ⟨b3, o3, hRA, r3⟩ := HFE.out w2 HBE.out
          rw [hRA] at r2
          go_quiet (fail)
          go_wp2_with fail
          go_roundw
          case rel => exact ⟨k + 1, nx, out, by omega, by go_num, by first | rfl | trivial, by omega, own_drewN HO.out _, by first | omega | (simp; omega), by rw [HSTEP.out, if_neg (by omega)]; rfl, below_drewN HBE.out _, by show _ ≤ w2.heap.size; exact hszr⟩
          case measure => simp [intOf]; omega
end Go.Proofs.Ytfjhcoeehjephaa.D8
