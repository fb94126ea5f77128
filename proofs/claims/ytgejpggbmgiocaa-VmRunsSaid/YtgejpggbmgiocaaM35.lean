/- RFA, RS1, RS2 of this seat, in one text. -/
import Derived.Test.YtgejpggbmgiocaaM27
import Derived.Test.YtgejpggbmgiocaaM28
import Derived.Test.YtgejpggbmgiocaaM30
import Derived.Test.YtgejpggbmgiocaaM34
/- What the reference holds for a fault: all instructions. -/
namespace Go.Proofs.Ytgejpggbmgiocaa
open Go.RowKit
def faultF (p : Prog) (s : St) (i : Ins) : Bool :=
  if fitsF i = false then true
  else if i.op = 8 then decide (cellF p s i = none)
  else if i.op = 12 then !isB (s.reg i.a)
  else if i.op = 13 then !decide (textOk p s i)
  else if i.op = 15 then (decide (s.reg i.a < 0) || decide (sgF p.signs ≤ s.reg i.a))
  else false
theorem fault_cost {p : Prog} {room : Int} {s : St} {i : Ins} (h : faultF p s i = true) : costF p room s i = .inl 3 := by
  unfold faultF at h
  unfold costF
  by_cases hf : fitsF i = false
  · rw [if_pos hf]
  rw [if_neg hf] at h ⊢
  by_cases e8 : i.op = 8
  · rw [if_pos e8] at h ⊢
    rw [if_pos (by simpa using h)]
  rw [if_neg e8] at h ⊢
  by_cases e12 : i.op = 12
  · rw [if_pos e12] at h ⊢
    rw [if_pos (by simpa using h)]
  rw [if_neg e12] at h ⊢
  by_cases e13 : i.op = 13
  · rw [if_pos e13] at h ⊢
    rw [if_pos (by simpa using h)]
  rw [if_neg e13] at h ⊢
  by_cases e15 : i.op = 15
  · rw [if_pos e15] at h ⊢
    rw [if_pos (by simp only [Bool.or_eq_true, decide_eq_true_eq] at h; unfold sgF at h; split at h <;> (try split at h) <;> omega)]
  rw [if_neg e15] at h
  cases h
theorem fault_none {p : Prog} {room : Int} {s : St} {i : Ins} (h : faultF p s i = false) : fitsF i = true ∧ (i.op = 8 → cellF p s i ≠ none) ∧ (i.op = 12 → isB (s.reg i.a) = true) ∧ (i.op = 13 → textOk p s i) ∧
    costF p room s i = (if i.op = 12 ∧ 262144 ≤ s.put.length then .inl 1 else if i.op = 13 then (if 262144 < s.put.length + (textF p s i).length then .inl 1 else .inr (1 + (textF p s i).length)) else if i.op = 15 ∧ 262144 ≤ s.signs.length then .inl 1 else if i.op = 17 ∧ room ≤ (s.told.length : Int) then .inl 1 else if i.op = 16 then .inr (1 + 4 * s.signs.length) else .inr 1) := by
  unfold faultF at h
  unfold costF
  by_cases hf : fitsF i = false
  · rw [if_pos hf] at h; cases h
  rw [if_neg hf] at h ⊢
  have hf2 : fitsF i = true := by simpa using hf
  by_cases e8 : i.op = 8
  · rw [if_pos e8] at h ⊢
    have h8 : cellF p s i ≠ none := by simpa using h
    rw [if_neg h8]
    refine ⟨hf2, fun _ => h8, fun e => by omega, fun e => by omega, ?_⟩
    rw [if_neg (by omega), if_neg (by omega), if_neg (by omega), if_neg (by omega), if_neg (by omega)]
  rw [if_neg e8] at h ⊢
  by_cases e12 : i.op = 12
  · rw [if_pos e12] at h ⊢
    have h8 : isB (s.reg i.a) = true := by simpa using h
    rw [if_neg (by simp [h8])]
    refine ⟨hf2, fun e => by omega, fun _ => h8, fun e => by omega, ?_⟩
    by_cases hq : 262144 ≤ s.put.length
    · rw [if_pos hq, if_pos ⟨e12, hq⟩]
    · rw [if_neg hq, if_neg (show ¬ (i.op = 12 ∧ 262144 ≤ s.put.length) from fun h9 => hq h9.2), if_neg (show ¬ i.op = 13 by omega), if_neg (show ¬ (i.op = 15 ∧ 262144 ≤ s.signs.length) from fun h9 => by omega), if_neg (show ¬ (i.op = 17 ∧ room ≤ (s.told.length : Int)) from fun h9 => by omega), if_neg (show ¬ i.op = 16 by omega)]
  rw [if_neg e12] at h ⊢
  by_cases e13 : i.op = 13
  · rw [if_pos e13] at h ⊢
    have h8 : textOk p s i := by simpa using h
    rw [if_neg (fun h9 => h9 h8)]
    refine ⟨hf2, fun e => by omega, fun e => by omega, fun _ => h8, ?_⟩
    rw [if_neg (show ¬ (i.op = 12 ∧ 262144 ≤ s.put.length) from fun h9 => e12 h9.1), if_pos e13]
  rw [if_neg e13] at h ⊢
  by_cases e15 : i.op = 15
  · rw [if_pos e15] at h ⊢
    rw [if_neg (by simp only [Bool.or_eq_false_iff, decide_eq_false_iff_not] at h; unfold sgF at h; split at h <;> (try split at h) <;> omega)]
    refine ⟨hf2, fun e => by omega, fun e => by omega, fun e => by omega, ?_⟩
    rw [if_neg (show ¬ (i.op = 12 ∧ 262144 ≤ s.put.length) from fun h9 => e12 h9.1), if_neg e13]
    by_cases hq : 262144 ≤ s.signs.length
    · rw [if_pos hq, if_pos ⟨e15, hq⟩]
    · rw [if_neg hq, if_neg (show ¬ (i.op = 15 ∧ 262144 ≤ s.signs.length) from fun h9 => hq h9.2), if_neg (show ¬ (i.op = 17 ∧ room ≤ (s.told.length : Int)) from fun h9 => by omega), if_neg (show ¬ i.op = 16 by omega)]
  rw [if_neg e15] at h ⊢
  refine ⟨hf2, fun e => by omega, fun e => by omega, fun e => by omega, ?_⟩
  rw [if_neg (show ¬ (i.op = 12 ∧ 262144 ≤ s.put.length) from fun h9 => e12 h9.1), if_neg e13, if_neg (show ¬ (i.op = 15 ∧ 262144 ≤ s.signs.length) from fun h9 => e15 h9.1)]
  by_cases e17 : i.op = 17
  · rw [if_pos e17]
    by_cases hq : room ≤ (s.told.length : Int)
    · rw [if_pos hq, if_pos ⟨e17, hq⟩]
    · rw [if_neg hq, if_neg (show ¬ (i.op = 17 ∧ room ≤ (s.told.length : Int)) from fun h9 => hq h9.2), if_neg (show ¬ i.op = 16 by omega)]
  · rw [if_neg e17, if_neg (show ¬ (i.op = 17 ∧ room ≤ (s.told.length : Int)) from fun h9 => e17 h9.1)]
theorem rfault_any (B g gr gk : Nat) (w0 W : World) (prg : List Value) (room fuel : Int) (s : St) (vs vp vg vt : Value) (p : Prog) (S K V : List Int) (i : Ins) (h : RR B g gr gk w0 W prg room fuel s vs vp vg vt) (hp : PIn w0 B prg p S K V) (hrg : RegB s) :
    Calls Try.prog 33 #[.pointer (some ⟨g, 0, none⟩), insV i] W (FRes B g gr gk w0 W prg room fuel s vs vp vg vt (faultF p s i)) := by
  obtain ⟨op, a, b, c, d⟩ := i
  unfold insV
  simp only
  by_cases h1 : op = 1 ∨ op = 4 ∨ op = 14 ∨ op = 16
  · rcases h1 with rfl | rfl | rfl | rfl
    · exact rf_1 B g gr gk w0 W prg room fuel s vs vp vg vt a b c d h
    · exact rf_4 B g gr gk w0 W prg room fuel s vs vp vg vt a b c d h
    · exact rf_14 B g gr gk w0 W prg room fuel s vs vp vg vt a b c d h
    · exact rf_16 B g gr gk w0 W prg room fuel s vs vp vg vt a b c d h
  by_cases h2 : op = 9 ∨ op = 10 ∨ op = 11
  · by_cases ha : a = 0 ∨ a = 1
    · have e : faultF p s ⟨op, a, b, c, d⟩ = false := by
        have hf : fitsF ⟨op, a, b, c, d⟩ = true := by rcases h2 with rfl | rfl | rfl <;> simp [fitsF] <;> omega
        unfold faultF
        rw [if_neg (by rw [hf]; simp)]
        rcases h2 with rfl | rfl | rfl <;> rfl
      rw [e]
      rcases h2 with rfl | rfl | rfl
      · exact rf_9 B g gr gk w0 W prg room fuel s vs vp vg vt a b c d ha h
      · exact rf_10 B g gr gk w0 W prg room fuel s vs vp vg vt a b c d ha h
      · exact rf_11 B g gr gk w0 W prg room fuel s vs vp vg vt a b c d ha h
    · have e : faultF p s ⟨op, a, b, c, d⟩ = true := by
        have hf : fitsF ⟨op, a, b, c, d⟩ = false := by rcases h2 with rfl | rfl | rfl <;> simp [fitsF] <;> omega
        unfold faultF
        rw [if_pos hf]
      rw [e]
      rcases h2 with rfl | rfl | rfl
      · exact rf_9_bad B g gr gk w0 W prg room fuel s vs vp vg vt a b c d ha h
      · exact rf_10_bad B g gr gk w0 W prg room fuel s vs vp vg vt a b c d ha h
      · exact rf_11_bad B g gr gk w0 W prg room fuel s vs vp vg vt a b c d ha h
  have mis : fitsF ⟨op, a, b, c, d⟩ = false → faultF p s ⟨op, a, b, c, d⟩ = true := fun hf => by unfold faultF; rw [if_pos hf]
  by_cases h3 : op < 1
  · rw [mis (by unfold fitsF; simp only; rw [if_neg h1, if_neg h2, if_neg (by omega), if_neg (by omega)])]
    exact rf_low B g gr gk w0 W prg room fuel s vs vp vg vt op a b c d h3 h
  by_cases h4 : 17 < op
  · rw [mis (by unfold fitsF; simp only; rw [if_neg h1, if_neg h2, if_neg (by omega), if_neg (by omega)])]
    exact rf_high B g gr gk w0 W prg room fuel s vs vp vg vt op a b c d h4 h
  cases ha : isReg a with
  | false =>
    rw [mis (by unfold fitsF; simp only; rw [if_neg h1, if_neg h2, ha, Bool.and_false]; split <;> (try split) <;> rfl)]
    exact rf_reg B g gr gk w0 W prg room fuel s vs vp vg vt op a b c d (by omega) (by omega) (by omega) ha h
  | true =>
    obtain ⟨ka, hka, rfl⟩ := reg_nat ha
    by_cases h5 : op = 3 ∨ op = 8 ∨ op = 13
    · cases hb : isReg b with
      | false =>
        rw [mis (by unfold fitsF; simp only; rw [if_neg h1, if_neg h2, if_pos h5, hb, Bool.false_and])]
        rcases h5 with rfl | rfl | rfl
        · exact rf_3_b B g gr gk w0 W prg room fuel s vs vp vg vt _ b c d ha hb h
        · exact rf_8_b B g gr gk w0 W prg room fuel s vs vp vg vt _ b c d ha hb h
        · exact rf_13_b B g gr gk w0 W prg room fuel s vs vp vg vt _ b c d ha hb h
      | true =>
        have hf : fitsF ⟨op, (ka : Int), b, c, d⟩ = true := by unfold fitsF; simp only; rw [if_neg h1, if_neg h2, if_pos h5, hb, ha]; rfl
        rcases h5 with rfl | rfl | rfl
        · rw [show faultF p s ⟨3, (ka : Int), b, c, d⟩ = false by unfold faultF; rw [if_neg (by rw [hf]; simp)]; rfl]
          exact rf_3 B g gr gk w0 W prg room fuel s vs vp vg vt ka hka b c d ha hb h
        · obtain ⟨kb, hkb, rfl⟩ := reg_nat hb
          rw [show faultF p s ⟨8, (ka : Int), (kb : Int), c, d⟩ = decide (cellF p s ⟨8, (ka : Int), (kb : Int), c, d⟩ = none) by unfold faultF; rw [if_neg (by rw [hf]; simp)]; rfl]
          exact rf_8 B g gr gk w0 W prg room fuel s vs vp vg vt ka kb hka hkb c d ha hb p hp.tabs h
        · obtain ⟨kb, hkb, rfl⟩ := reg_nat hb
          rw [show faultF p s ⟨13, (ka : Int), (kb : Int), c, d⟩ = !decide (textOk p s ⟨13, (ka : Int), (kb : Int), c, d⟩) by unfold faultF; rw [if_neg (by rw [hf]; simp)]; rfl]
          exact rf_13 B g gr gk w0 W prg room fuel s vs vp vg vt ka kb hka hkb c d ha hb p hp.texts hrg h
    · have h6 : op = 2 ∨ op = 5 ∨ op = 6 ∨ op = 7 ∨ op = 12 ∨ op = 15 ∨ op = 17 := by omega
      have hf : fitsF ⟨op, (ka : Int), b, c, d⟩ = true := by unfold fitsF; simp only; rw [if_neg h1, if_neg h2, if_neg h5, if_pos h6, ha]
      rcases h6 with rfl | rfl | rfl | rfl | rfl | rfl | rfl
      · rw [show faultF p s ⟨2, (ka : Int), b, c, d⟩ = false by unfold faultF; rw [if_neg (by rw [hf]; simp)]; rfl]
        exact rf_2 B g gr gk w0 W prg room fuel s vs vp vg vt ka hka b c d ha h
      · rw [show faultF p s ⟨5, (ka : Int), b, c, d⟩ = false by unfold faultF; rw [if_neg (by rw [hf]; simp)]; rfl]
        exact rf_5 B g gr gk w0 W prg room fuel s vs vp vg vt ka hka b c d ha h
      · rw [show faultF p s ⟨6, (ka : Int), b, c, d⟩ = false by unfold faultF; rw [if_neg (by rw [hf]; simp)]; rfl]
        exact rf_6 B g gr gk w0 W prg room fuel s vs vp vg vt ka hka b c d ha h
      · rw [show faultF p s ⟨7, (ka : Int), b, c, d⟩ = false by unfold faultF; rw [if_neg (by rw [hf]; simp)]; rfl]
        exact rf_7 B g gr gk w0 W prg room fuel s vs vp vg vt ka hka b c d ha h
      · rw [show faultF p s ⟨12, (ka : Int), b, c, d⟩ = !isB (s.reg (ka : Int)) by unfold faultF; rw [if_neg (by rw [hf]; simp)]; rfl]
        exact rf_12 B g gr gk w0 W prg room fuel s vs vp vg vt ka hka b c d ha _ rfl h
      · rw [show faultF p s ⟨15, (ka : Int), b, c, d⟩ = (decide (s.regs.getD ka 0 < 0) || decide (sgF p.signs ≤ s.regs.getD ka 0)) by unfold faultF; rw [if_neg (by rw [hf]; simp)]; rfl]
        exact rf_15 B g gr gk w0 W prg room fuel s vs vp vg vt ka hka b c d ha p.signs hp.pairs.p3 h
      · rw [show faultF p s ⟨17, (ka : Int), b, c, d⟩ = false by unfold faultF; rw [if_neg (by rw [hf]; simp)]; rfl]
        exact rf_17 B g gr gk w0 W prg room fuel s vs vp vg vt ka hka b c d ha h
end Go.Proofs.Ytgejpggbmgiocaa
/- The reference steps: faults. -/
namespace Go.Proofs.Ytgejpggbmgiocaa
open Go.RowKit
attribute [local go_sem ↓] store_ins
set_option maxRecDepth 100000 in
set_option maxHeartbeats 4000000 in
theorem rst_out (B g gr gk : Nat) (w0 W : World) (prg : List Value) (room fuel : Int) (s : St) (vs vp vg vt : Value) (p : Prog) (h : RR B g gr gk w0 W prg room fuel s vs vp vg vt) (hc : CodeIn w0 B prg p.code) (hpc : s.pc < 0 ∨ (p.code.length : Int) ≤ s.pc) :
    Calls Try.prog 22 #[.pointer (some ⟨g, 0, none⟩)] W (ResR B g gr w0 prg room fuel (s, some 3)) := by
  have H := Lib.hid h
  have c1 := h.cells.pc
  have c2 := h.cells.p 4 (by omega)
  obtain ⟨A, c, h4, _⟩ := hc.arr
  rw [h4] at c2
  have hle := hc.le
  obtain ⟨n4, hn4⟩ : ∃ n4, n4 = p.code.length := ⟨_, rfl⟩
  rw [← hn4] at c2 hle hpc
  obtain ⟨pc, hpcv⟩ : ∃ x, x = s.pc := ⟨_, rfl⟩
  rw [← hpcv] at c1 hpc
  clear h hc h4 hn4 hpcv
  by_cases h0 : pc < 0
  · have e1 : decide (pc < 0) = true := by simpa using h0
    clear hpc h0
    go_enter Try.func22, Try.ntmps22
    go_wp2_with fail
    go_quiet (fail)
    go_wp2_with fail
    go_returns
    exact ⟨by first | rfl | simp, gk, vs, vp, vg, vt, H.out.drewN _⟩
  · have e1 : decide (pc < 0) = false := by simpa using h0
    have e2 : decide ((n4 : Int) ≤ pc) = true := by simp; omega
    clear hpc h0
    go_enter Try.func22, Try.ntmps22
    go_wp2_with fail
    go_quiet (fail)
    go_wp2_with fail
    go_returns
    exact ⟨by first | rfl | simp, gk, vs, vp, vg, vt, H.out.drewN _⟩
set_option maxRecDepth 100000 in
set_option maxHeartbeats 8000000 in
theorem rst_fault (B g gr gk : Nat) (w0 W : World) (prg : List Value) (room fuel : Int) (s : St) (vs vp vg vt : Value) (p : Prog) (h : RR B g gr gk w0 W prg room fuel s vs vp vg vt) (hc : CodeIn w0 B prg p.code) (k : Nat) (hpc : s.pc = (k : Int)) (hk : k < p.code.length) (i : Ins) (hi : p.code.getD k noIns = i) 
    (HF : ∀ W', RR B g gr gk w0 W' prg room fuel s vs vp vg vt → Calls Try.prog 33 #[.pointer (some ⟨g, 0, none⟩), insV i] W' (FRes B g gr gk w0 W' prg room fuel s vs vp vg vt true)) :
    Calls Try.prog 22 #[.pointer (some ⟨g, 0, none⟩)] W (ResR B g gr w0 prg room fuel (s, some 3)) := by
  have H := Lib.hid h
  have c1 := h.cells.pc
  have c2 := h.cells.p 4 (by omega)
  have hle := hc.le
  obtain ⟨b4, o4, c4, h4, hb4, i0, i1, i2, i3', i4⟩ := hc.at h.below hk
  rw [h4] at c2
  rw [hi] at i0 i1 i2 i3' i4
  obtain ⟨op, a, b, c, d⟩ := i
  simp only at i0 i1 i2 i3' i4
  obtain ⟨n4, hn4⟩ : ∃ n4, n4 = p.code.length := ⟨_, rfl⟩
  rw [← hn4] at c2 hk hle
  rw [hpc] at c1
  have hlt := h.lt
  have hki : (k : Int) < (n4 : Int) := by omega
  have e1 : decide ((k : Int) < 0) = false := by simp
  have e2 : decide ((n4 : Int) ≤ (k : Int)) = false := by simp; omega
  have e2' : decide (n4 ≤ k) = false := by simp; omega
  have hst : ∀ n, (storeIns (.pointer (some ⟨W.heap.size, 0, none⟩)) (.agg #[.int .i64 op, .int .i64 a, .int .i64 b, .int .i64 c, .int .i64 d])).run Try.prog ((W.drewN n).alloc (.cells #[.int .i64 0, .int .i64 0, .int .i64 0, .int .i64 0, .int .i64 0] 40)) = .ok () ((W.drewN n).alloc (.cells #[.int .i64 op, .int .i64 a, .int .i64 b, .int .i64 c, .int .i64 d] 40)) := fun n => ins_store (W.drewN n) op a b c d
  have a1 := fun n o => cell_al (W := W.drewN n) c1 o
  have a2 := fun n o => cell_al (W := W.drewN n) c2 o
  have a3 := fun n o => cell_al (W := W.drewN n) i0 o
  have a4 := fun n o => cell_al (W := W.drewN n) i1 o
  have a5 := fun n o => cell_al (W := W.drewN n) i2 o
  have a6 := fun n o => cell_al (W := W.drewN n) i3' o
  have a7 := fun n o => cell_al (W := W.drewN n) i4 o
  have HPC := Lib.hid hpc
  unfold insV at HF
  simp only at HF
  have HF0 := Lib.hid HF
  clear h hc h4 hi hpc hn4 HF
  go_enter Try.func22, Try.ntmps22
  go_wp2_with fail
  go_quiet (fail)
  go_wp2_with fail
  go_region
  have hI : Blk ((W.drewN (nq + 1)).alloc (.cells #[.int .i64 op, .int .i64 a, .int .i64 b, .int .i64 c, .int .i64 d] 40)) W.heap.size 40 [.int .i64 op, .int .i64 a, .int .i64 b, .int .i64 c, .int .i64 d] := Blk.new (W.drewN (nq + 1)) 40 [.int .i64 op, .int .i64 a, .int .i64 b, .int .i64 c, .int .i64 d]
  have hX := (H.out.drewN (nq + 1)).alloc (.cells #[.int .i64 op, .int .i64 a, .int .i64 b, .int .i64 c, .int .i64 d] 40)
  obtain ⟨ib, hib⟩ : ∃ ib, ib = W.heap.size := ⟨_, rfl⟩
  rw [← hib] at hI ⊢
  have hne : ib ≠ g := by omega
  generalize (W.drewN (nq + 1)).alloc (.cells #[.int .i64 op, .int .i64 a, .int .i64 b, .int .i64 c, .int .i64 d] 40) = w3 at hI hX ⊢
  have X3 := Lib.hid hX
  have I3 := Lib.hid hI
  have j0 := hI.cell 0
  have j1 := hI.cell 1
  have j2 := hI.cell 2
  have j3 := hI.cell 3
  have j4 := hI.cell 4
  simp only [List.getElem?_cons_zero, List.getElem?_cons_succ] at j0 j1 j2 j3 j4
  clear hI hX a1 a2 a3 a4 a5 a6 a7 hst i0 i1 i2 i3' i4 c1 c2 hib
  go_wp2_with fail
  refine (HF0.out _ X3.out).mono ?_
  rintro e w4 ⟨rfl, hx4, hb4⟩
  have X4 := Lib.hid hx4
  have I4 := Lib.hid (I3.out.below hb4 I3.out.lt)
  clear hb4 hx4 j0 j1 j2 j3 j4 X3 I3 HF0
  go_wp2_with fail
  go_returns
  exact ⟨by first | rfl | simp, gk, vs, vp, vg, vt, X4.out⟩
end Go.Proofs.Ytgejpggbmgiocaa
/- The reference steps: plain ones. -/
namespace Go.Proofs.Ytgejpggbmgiocaa
open Go.RowKit
attribute [local go_sem ↓] store_ins
set_option maxRecDepth 100000 in
set_option maxHeartbeats 8000000 in
theorem rst_other (B g gr gk : Nat) (w0 W : World) (prg : List Value) (room fuel : Int) (s : St) (vs vp vg vt : Value) (mg : List Int → Option (List Int)) (p : Prog) (h : RR B g gr gk w0 W prg room fuel s vs vp vg vt) (hc : CodeIn w0 B prg p.code) (k : Nat) (hpc : s.pc = (k : Int)) (hk : k < p.code.length) (i : Ins) (hi : p.code.getD k noIns = i) (ho : i.op ≠ 12 ∧ i.op ≠ 13 ∧ i.op ≠ 15 ∧ i.op ≠ 16 ∧ i.op ≠ 17)
    (HF : ∀ W', RR B g gr gk w0 W' prg room fuel s vs vp vg vt → Calls Try.prog 33 #[.pointer (some ⟨g, 0, none⟩), insV i] W' (FRes B g gr gk w0 W' prg room fuel s vs vp vg vt false)) 
    (HD : ∀ W', RR B g gr gk w0 W' prg room fuel { s with used := s.used + 1, pc := s.pc + 1 } vs vp vg vt → Calls Try.prog 35 #[.pointer (some ⟨g, 0, none⟩), insV i] W' (ResR B g gr w0 prg room fuel (doF mg p room { s with used := s.used + 1, pc := s.pc + 1 } i))) (hu : (s.used : Int) ≤ fuel) (hfu : fuel ≤ 35184372088832) :
    Calls Try.prog 22 #[.pointer (some ⟨g, 0, none⟩)] W (ResR B g gr w0 prg room fuel (if fuel - (s.used : Int) < ((1 : Nat) : Int) then (s, some 1) else doF mg p room { s with used := s.used + 1, pc := s.pc + 1 } i)) := by
  have H := Lib.hid h
  have c1 := h.cells.pc
  have c2 := h.cells.p 4 (by omega)
  have hle := hc.le
  obtain ⟨b4, o4, c4, h4, hb4, i0, i1, i2, i3', i4⟩ := hc.at h.below hk
  rw [h4] at c2
  rw [hi] at i0 i1 i2 i3' i4
  obtain ⟨op, a, b, c, d⟩ := i
  simp only at i0 i1 i2 i3' i4
  obtain ⟨n4, hn4⟩ : ∃ n4, n4 = p.code.length := ⟨_, rfl⟩
  rw [← hn4] at c2 hk hle
  rw [hpc] at c1
  have hlt := h.lt
  have hki : (k : Int) < (n4 : Int) := by omega
  have e1 : decide ((k : Int) < 0) = false := by simp
  have e2 : decide ((n4 : Int) ≤ (k : Int)) = false := by simp; omega
  have e2' : decide (n4 ≤ k) = false := by simp; omega
  have hst : ∀ n, (storeIns (.pointer (some ⟨W.heap.size, 0, none⟩)) (.agg #[.int .i64 op, .int .i64 a, .int .i64 b, .int .i64 c, .int .i64 d])).run Try.prog ((W.drewN n).alloc (.cells #[.int .i64 0, .int .i64 0, .int .i64 0, .int .i64 0, .int .i64 0] 40)) = .ok () ((W.drewN n).alloc (.cells #[.int .i64 op, .int .i64 a, .int .i64 b, .int .i64 c, .int .i64 d] 40)) := fun n => ins_store (W.drewN n) op a b c d
  have a1 := fun n o => cell_al (W := W.drewN n) c1 o
  have a2 := fun n o => cell_al (W := W.drewN n) c2 o
  have a3 := fun n o => cell_al (W := W.drewN n) i0 o
  have a4 := fun n o => cell_al (W := W.drewN n) i1 o
  have a5 := fun n o => cell_al (W := W.drewN n) i2 o
  have a6 := fun n o => cell_al (W := W.drewN n) i3' o
  have a7 := fun n o => cell_al (W := W.drewN n) i4 o
  have HPC := Lib.hid hpc
  unfold insV at HF
  simp only at HF
  have HF0 := Lib.hid HF
  obtain ⟨r, hr⟩ : ∃ r, r = (if fuel - (s.used : Int) < ((1 : Nat) : Int) then (s, some 1) else doF mg p room { s with used := s.used + 1, pc := s.pc + 1 } ⟨op, a, b, c, d⟩) := ⟨_, rfl⟩
  rw [← hr]
  have HRR := Lib.hid hr
  clear hr
  have HD0 := Lib.hid HD
  have HU := Lib.hid (And.intro hu hfu)
  clear HD
  clear h hc h4 hi hpc hn4 HF
  go_enter Try.func22, Try.ntmps22
  go_wp2_with fail
  go_quiet (fail)
  go_wp2_with fail
  go_region
  have hI : Blk ((W.drewN (nq + 1)).alloc (.cells #[.int .i64 op, .int .i64 a, .int .i64 b, .int .i64 c, .int .i64 d] 40)) W.heap.size 40 [.int .i64 op, .int .i64 a, .int .i64 b, .int .i64 c, .int .i64 d] := Blk.new (W.drewN (nq + 1)) 40 [.int .i64 op, .int .i64 a, .int .i64 b, .int .i64 c, .int .i64 d]
  have hX := (H.out.drewN (nq + 1)).alloc (.cells #[.int .i64 op, .int .i64 a, .int .i64 b, .int .i64 c, .int .i64 d] 40)
  obtain ⟨ib, hib⟩ : ∃ ib, ib = W.heap.size := ⟨_, rfl⟩
  rw [← hib] at hI ⊢
  have hne : ib ≠ g := by omega
  generalize (W.drewN (nq + 1)).alloc (.cells #[.int .i64 op, .int .i64 a, .int .i64 b, .int .i64 c, .int .i64 d] 40) = w3 at hI hX ⊢
  have X3 := Lib.hid hX
  have I3 := Lib.hid hI
  have j0 := hI.cell 0
  have j1 := hI.cell 1
  have j2 := hI.cell 2
  have j3 := hI.cell 3
  have j4 := hI.cell 4
  simp only [List.getElem?_cons_zero, List.getElem?_cons_succ] at j0 j1 j2 j3 j4
  clear hI hX a1 a2 a3 a4 a5 a6 a7 hst i0 i1 i2 i3' i4 c1 c2 hib
  go_wp2_with fail
  refine (HF0.out _ X3.out).mono ?_
  rintro e w4 ⟨rfl, hx4, hb4⟩
  have X4 := Lib.hid hx4
  have I4 := Lib.hid (I3.out.below hb4 I3.out.lt)
  clear hb4 hx4 j0 j1 j2 j3 j4 X3 I3 HF0
  have j0 := I4.out.cell 0
  have j1 := I4.out.cell 1
  have j2 := I4.out.cell 2
  have j3 := I4.out.cell 3
  have j4 := I4.out.cell 4
  simp only [List.getElem?_cons_zero, List.getElem?_cons_succ] at j0 j1 j2 j3 j4
  have o12 : (op == 12) = false := by simp; exact ho.1
  have o13 : (op == 13) = false := by simp; exact ho.2.1
  have o15 : (op == 15) = false := by simp; exact ho.2.2.1
  have o16 : (op == 16) = false := by simp; exact ho.2.2.2.1
  have o17 : (op == 17) = false := by simp; exact ho.2.2.2.2
  obtain ⟨us, hus⟩ : ∃ x, x = s.used := ⟨_, rfl⟩
  have c20 := X4.out.cells.used
  have c19 := X4.out.cells.fuel
  have c17 := X4.out.cells.pc
  have f20 := X4.out.cells.fr 20
  have f17 := X4.out.cells.fr 17
  rw [← hus] at c20
  rw [HPC.out] at c17
  have hu1 := HU.out.1
  have hu2 := HU.out.2
  rw [← hus] at hu1
  have HUS := Lib.hid hus
  clear hus
  go_wp2_with fail
  go_quiet (fail)
  have X4 := Lib.hid (X4.out.drewN nq)
  have I4 := Lib.hid (I4.out.drewN nq)
  clear c20 c19 c17 f20 f17 j0 j1 j2 j3 j4
  generalize w4.drewN nq = w4 at X4 I4 ⊢
  have c20 := X4.out.cells.used
  have c19 := X4.out.cells.fuel
  have c17 := X4.out.cells.pc
  have f20 := X4.out.cells.fr 20
  have f17 := X4.out.cells.fr 17
  rw [← HUS.out] at c20
  rw [HPC.out] at c17
  have j0 := I4.out.cell 0
  have j1 := I4.out.cell 1
  have j2 := I4.out.cell 2
  have j3 := I4.out.cell 3
  have j4 := I4.out.cell 4
  simp only [List.getElem?_cons_zero, List.getElem?_cons_succ] at j0 j1 j2 j3 j4
  by_cases hltf : fuel - (us : Int) < 1
  · have d9 : decide (fuel - (us : Int) < 1) = true := by simpa using hltf
    have HX := Lib.hid (show fuel - (s.used : Int) < ((1 : Nat) : Int) by rw [← HUS.out]; exact hltf)
    obtain rfl : r = (s, some 1) := by rw [HRR.out, if_pos HX.out]
    clear hltf
    go_wp2_with fail
    go_quiet (fail)
    go_wp2_with fail
    go_returns
    exact ⟨by first | rfl | simp, gk, vs, vp, vg, vt, (by first | exact X4.out.drewN _ | exact (X4.out.drewN _).drewN _)⟩
  · have d9 : decide (fuel - (us : Int) < 1) = false := by simpa using hltf
    have HX := Lib.hid (show ¬ fuel - (s.used : Int) < ((1 : Nat) : Int) by rw [← HUS.out]; exact hltf)
    have hq := HRR.out
    rw [if_neg HX.out] at hq
    have HQ := Lib.hid hq
    clear hq
    clear hltf
    go_wp2_with fail
    go_quiet (fail)
    have hx5 : RR B g gr gk w0 (((w4.drewN nq).setCell ⟨g, 20, none⟩ (.int .i64 ((us : Int) + 1))).setCell ⟨g, 17, none⟩ (.int .i64 ((k : Int) + 1))) prg room fuel { s with used := us + 1, pc := (k : Int) + 1 } vs vp vg vt := ((X4.out.drewN nq).setUsed (us + 1)).setPc ((k : Int) + 1)
    have hi5 : Blk (((w4.drewN nq).setCell ⟨g, 20, none⟩ (.int .i64 ((us : Int) + 1))).setCell ⟨g, 17, none⟩ (.int .i64 ((k : Int) + 1))) ib 40 [.int .i64 op, .int .i64 a, .int .i64 b, .int .i64 c, .int .i64 d] := blk_far (blk_far (I4.out.drewN nq) hne) hne
    go_upto_region 19 with (fail)
    generalize ((w4.drewN nq).setCell ⟨g, 20, none⟩ (.int .i64 ((us : Int) + 1))).setCell ⟨g, 17, none⟩ (.int .i64 ((k : Int) + 1)) = w6 at hx5 hi5 ⊢
    have hD := HD0.out w6 (by rw [← HUS.out, HPC.out]; exact hx5)
    rw [← HQ.out] at hD
    unfold insV at hD
    simp only at hD
    have HDD := Lib.hid hD
    clear hD c20 c19 c17 f20 f17 j0 j1 j2 j3 j4
    have j0 := hi5.cell 0
    have j1 := hi5.cell 1
    have j2 := hi5.cell 2
    have j3 := hi5.cell 3
    have j4 := hi5.cell 4
    simp only [List.getElem?_cons_zero, List.getElem?_cons_succ] at j0 j1 j2 j3 j4
    clear hi5 hx5
    go_wp2_with fail
    refine HDD.out.mono ?_
    rintro e w7 ⟨rfl, h7⟩
    have H7 := Lib.hid h7
    clear h7
    go_wp2_with fail
    go_returns
    exact ⟨by first | rfl | simp, H7.out⟩
end Go.Proofs.Ytgejpggbmgiocaa
