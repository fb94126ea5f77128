/- dfa.Right. -/
import Derived.Test.YtfjhcoeehjephaaDIdxMd
namespace Go.Proofs.Ytfjhcoeehjephaa.D8
open Go.RowKit

theorem kept_cell {w w1 : World} {ds : Array Value} {t : TypeId} (hb : Below (w.alloc (.cells ds t)).heap.size (w.alloc (.cells ds t)) w1) {A1 A2 : Option Addr} {n1 n2 c1 c2 : Nat} {cls : Nat → Nat} (hc : Cells ds A1 A2 n1 n2 c1 c2 cls) :
    w1.cell? ⟨w.heap.size, 256, none⟩ = some (.slice A1 n1 c1) ∧ w1.cell? ⟨w.heap.size, 257, none⟩ = some (.slice A2 n2 c2) ∧ (∀ b, b < 256 → w1.cell? ⟨w.heap.size, b, none⟩ = some (.int .u8 (cls b))) ∧
    w1.rangeAt w.heap.size 0 (ds.toList.take 256) ∧ w1.rangeAt w.heap.size 0 ds.toList := by
  refine ⟨(kept_new hb _).trans hc.nx, (kept_new hb _).trans hc.ac, fun b h => (kept_new hb _).trans (hc.cl b h), fun j v hv => ?_, fun j v hv => ?_⟩
  · rw [Nat.zero_add, kept_new hb]
    have := hc.size
    rw [List.getElem?_take] at hv
    split at hv
    · rw [← hv]; simp
    · cases hv
  · rw [Nat.zero_add, kept_new hb, ← hv]; simp
theorem index_cls {ds : Array Value} {A1 A2 : Option Addr} {n1 n2 c1 c2 : Nat} {cls : Nat → Nat} (hc : Cells ds A1 A2 n1 n2 c1 c2 cls) (k : Nat) (hk : k < 256) (W : World) :
    (Instr.index 26 (.agg (ds.toList.take 256).toArray) (.int .i64 (k : Int))).run Try.prog W = .ok (.int .u8 (cls k)) W := by
  have h0 : (0 : Int) ≤ (k : Int) ∧ (k : Int) < 256 := by omega
  have h1 := hc.cl k hk
  have h2 := hc.size
  have h3 : (ds.toList.take 256)[k]? = some (.int .u8 (cls k)) := by
    rw [List.getElem?_take, if_pos hk, ← h1]; simp
  have h4 : ((ds.toList.take 256).toArray)[k]? = some (.int .u8 (cls k)) := by rw [List.getElem?_toArray]; exact h3
  simp [Instr.index, run_underlying Try.underlying26, asIntOf, h0, hk, h3, go_sem]
theorem info22 : (Try.prog.info? 26).map (·.size) = some 256 := by kernel_rfl
theorem info26 : (Try.prog.info? 30).map (·.size) = some 258 := by kernel_rfl

set_option maxRecDepth 100000 in
set_option maxHeartbeats 8000000 in
theorem dright_any (ds : Array Value) (A1 A2 : Option Addr) (n1 n2 c1 c2 : Nat) (D : Dfa) (RA : Nat → Option Addr) (rc : Nat → Nat) (w : World) (h : DfaIn w ds A1 A2 n1 n2 c1 c2 D RA rc) :
    Calls Try.prog 41 #[.agg ds] w fun e w' => e = .returned (.bool (rightD D)) ∧ Below w.heap.size w w' := by
  have b1 : Below (w.alloc (.cells ds 30)).heap.size (w.alloc (.cells ds 30)) ((w.alloc (.cells ds 30)).alloc (.cells #[.int .i64 (n1 : Int)] 3)) := (Below.refl _ _).alloc (Nat.le_refl _) _
  have b2 : Below (w.alloc (.cells ds 30)).heap.size (w.alloc (.cells ds 30)) (((w.alloc (.cells ds 30)).alloc (.cells #[.int .i64 (n1 : Int)] 3)).alloc (.cells #[.int .i64 (D.many : Int)] 3)) := b1.alloc (by simp) _
  obtain ⟨q10, q20, -, -, -⟩ := kept_cell (w := w) (t := 30) (Below.refl _ _) h.cells
  obtain ⟨q11, q21, -, -, -⟩ := kept_cell b1 h.cells
  obtain ⟨q12, q22, -, q32, -⟩ := kept_cell b2 h.cells
  have hb1 : Below w.heap.size w ((w.alloc (.cells ds 30)).alloc (.cells #[.int .i64 (n1 : Int)] 3)) := ((Below.refl _ _).alloc (Nat.le_refl _) _).alloc (by simp) _
  have hb2 : Below w.heap.size w (((w.alloc (.cells ds 30)).alloc (.cells #[.int .i64 (n1 : Int)] 3)).alloc (.cells #[.int .i64 (D.many : Int)] 3)) := hb1.alloc (by simp; omega) _
  have hl1 := h.next.len
  have hl2 := h.alen
  have hle1 := h.next.le
  have hle2 := h.ale
  have hds := h.cells.size
  have HI := Lib.hid (fun k hk W => index_cls h.cells k hk W)
  have hclt := h.cells.lt
  obtain ⟨bq, hbq⟩ : ∃ bq, bq = rightD D := ⟨_, rfl⟩
  rw [← hbq]
  have HBQ := Lib.hid hbq
  clear hbq
  have hno : Hid (¬ RightD D → bq = false) := fun h => by rw [HBQ.out]; exact rightD_no h
  have HB := Lib.hid (And.intro hb1 hb2)
  have hs1 : (w.alloc (.cells ds 30)).heap.size = w.heap.size + 1 := by simp
  have hs2 : ((w.alloc (.cells ds 30)).alloc (.cells #[.int .i64 (n1 : Int)] 3)).heap.size = w.heap.size + 2 := by simp
  have hmc : (((w.alloc (.cells ds 30)).alloc (.cells #[.int .i64 (n1 : Int)] 3)).alloc (.cells #[.int .i64 (D.many : Int)] 3)).cell? ⟨w.heap.size + 2, 0, none⟩ = some (.int .i64 (D.many : Int)) := by
    rw [← hs2]; exact cell_of_row _ _ _ _ _ _ (heap_alloc_new _ _)
  have hnc : (((w.alloc (.cells ds 30)).alloc (.cells #[.int .i64 (n1 : Int)] 3)).alloc (.cells #[.int .i64 (D.many : Int)] 3)).cell? ⟨w.heap.size + 1, 0, none⟩ = some (.int .i64 (n1 : Int)) := by
    rw [← hs1]; exact kept_new (w := w.alloc (.cells ds 30)) ((Below.refl _ _).alloc (Nat.le_refl _) _) 0
  have HI21 := Lib.hid (idx21 A1 n1 c1 (w.heap.size + 2) (w.heap.size + 1) D RA rc (((w.alloc (.cells ds 30)).alloc (.cells #[.int .i64 (n1 : Int)] 3)).alloc (.cells #[.int .i64 (D.many : Int)] 3)) (h.next.keep hb2) hmc hnc)
  have HC1 := Lib.hid (h.next.keep hb1)
  have HMC := Lib.hid hmc
  clear h b1 b2 hb1 hb2 hs1 hs2 hmc hnc
  have hcase : n1 < 1 ∨ (1 ≤ n1 ∧ 400 < n1) ∨ (1 ≤ n1 ∧ n1 ≤ 400 ∧ n2 ≠ n1) ∨ (1 ≤ n1 ∧ n1 ≤ 400 ∧ n2 = n1) := by omega
  go_enter Try.func41, Try.ntmps41
  rcases hcase with h1 | ⟨h1, h2⟩ | ⟨h1, h2, h3⟩ | ⟨h1, h2, h3⟩
  · have hb : bq = false := hno.out (fun h => by have := h.lo; omega)
    subst hb
    go_wp2_with fail
    go_returns
    exact ⟨by first | rfl | (simp; done) | (simp; omega), HB.out.1⟩
  · have hb : bq = false := hno.out (fun h => by have := h.hi; omega)
    subst hb
    go_wp2_with fail
    go_returns
    exact ⟨by first | rfl | (simp; done) | (simp; omega), HB.out.1⟩
  · have hb : bq = false := hno.out (fun h => by have := h.alen; omega)
    subst hb
    have e1 : ((n2 : Int) != (n1 : Int)) = true := by simp; omega
    have d1 : decide ((n1 : Int) < 1) = false := by simp; omega
    have d2 : decide ((400 : Int) < (n1 : Int)) = false := by simp; omega
    go_wp2_with fail
    go_returns
    exact ⟨by first | rfl | (simp; done) | (simp; omega), HB.out.1⟩
  · have e1 : ((n2 : Int) != (n1 : Int)) = false := by simp [h3]
    have d1 : decide ((n1 : Int) < 1) = false := by simp; omega
    have d2 : decide ((400 : Int) < (n1 : Int)) = false := by simp; omega
    have HN := Lib.hid h3
    clear h3
    obtain ⟨b1, o1, rfl, _, hc1⟩ := HC1.out.arr.one (k := 0) (by omega)
    unfold RowC at hc1
    rw [Nat.add_zero] at hc1
    have hmm : (D.next.getD 0 []).length = D.many := rfl
    have hms := HC1.out.small 0 (by omega)
    rw [hmm] at hc1 hms
    obtain ⟨mm, hmd⟩ : ∃ mm, mm = D.many := ⟨_, rfl⟩
    rw [← hmd] at hc1 hms q12 q22 q32 HB HI21 HMC
    have HMD := Lib.hid hmd
    clear hmm hmd
    by_cases hm1 : mm < 1
    · have hb : bq = false := hno.out (fun h => by have := h.mlo; have := HMD.out; omega)
      subst hb
      have d3 : decide ((mm : Int) < 1) = true := by simp; omega
      go_wp2_with fail
      go_returns
      exact ⟨by first | rfl | (simp; done) | (simp; omega), HB.out.2⟩
    · have d3 : decide ((mm : Int) < 1) = false := by simp; omega
      by_cases hm2 : 256 < mm
      · have hb : bq = false := hno.out (fun h => by have := h.mhi; have := HMD.out; omega)
        subst hb
        have d4 : decide ((256 : Int) < (mm : Int)) = true := by simp; omega
        go_wp2_with fail
        go_returns
        exact ⟨by first | rfl | (simp; done) | (simp; omega), HB.out.2⟩
      · have d4 : decide ((256 : Int) < (mm : Int)) = false := by simp; omega
        have hl256 : (ds.toList.take 256).length = 256 := by simp [hds]
        obtain ⟨ls, hls⟩ : ∃ ls, ls = ds.toList.take 256 := ⟨_, rfl⟩
        rw [← hls] at HI q32 hl256
        have hinf : (Try.prog.info? 26).map (·.size) = some ls.length := by rw [hl256]; exact info22
        have HINF := Lib.hid hinf
        have HR32 := Lib.hid q32
        clear hls hinf q32 hl256
        go_wp2_with (first | (refine wpList_load_mid rfl 26 (.tmp 34) rfl w.heap.size 0 rfl ls _ HR32.out Try.underlying26 rfl HINF.out ?_))
        have hmc := HMC.out
        go_loop [36] (fun i => ∃ k : Nat, k ≤ 256 ∧ i = .int .i64 k ∧ ¬ ∃ b, b < k ∧ mm ≤ D.cls b) (fun i => 256 - (intOf i).toNat)
        case atStart => exact ⟨0, by omega, rfl, fun ⟨j, hj, _⟩ => absurd hj (by omega)⟩
        case round =>
          obtain ⟨k, hk, rfl, hnk⟩ := hrel
          have HNK := Lib.hid hnk
          clear hnk
          by_cases hlt : k < 256
          · have hix := HI.out k hlt
            have hcl := hclt k hlt
            obtain ⟨cc, hcc⟩ : ∃ cc, cc = D.cls k := ⟨_, rfl⟩
            rw [← hcc] at hix hcl
            have HCC := Lib.hid hcc
            clear hcc
            by_cases hbig : mm ≤ cc
            · have d5 : decide ((mm : Int) ≤ (cc : Int)) = true := by simp; omega
              have hb : bq = false := hno.out (fun h => h.cls ⟨k, hlt, by rw [← HMD.out, ← HCC.out]; exact hbig⟩)
              subst hb
              go_wp2_with fail
              go_returns
              exact ⟨by first | rfl | (simp; done) | (simp; omega), HB.out.2⟩
            · have d5 : decide ((mm : Int) ≤ (cc : Int)) = false := by simp; omega
              go_wp2_with fail
              go_round
              case rel => exact ⟨k + 1, by omega, by go_num, fun ⟨j, hj, h5⟩ => by
                            by_cases e : j = k
                            · rw [e, ← HCC.out] at h5; omega
                            · exact HNK.out ⟨j, by omega, h5⟩⟩
              case measure => simp [intOf]; omega
          · obtain rfl : k = 256 := by omega
            have hbq : bq = !(rowsB D n1) := by
              by_cases hro : ∃ i, i < n1 ∧ RowOff D i
              · rw [rowsB_yes hro]
                exact hno.out (fun h => h.rows (by rw [hl1]; exact hro))
              · rw [rowsB_no hro, HBQ.out]
                refine rightD_yes ⟨by omega, by omega, by rw [hl1, hl2]; exact HN.out, by rw [← HMD.out]; omega, by rw [← HMD.out]; omega, by rw [← HMD.out]; exact HNK.out, by rw [hl1]; exact hro⟩
            obtain ⟨rb, hrb⟩ : ∃ rb, rb = rowsB D n1 := ⟨_, rfl⟩
            rw [← hrb] at hbq HI21
            clear hrb
            subst hbq
            go_wp2_with fail
            refine HI21.out.mono ?_
            rintro e w' ⟨rfl, rfl⟩
            go_wp2_with fail
            go_returns
            exact ⟨by first | rfl | (simp; done) | (simp; omega), HB.out.2⟩
end Go.Proofs.Ytfjhcoeehjephaa.D8
