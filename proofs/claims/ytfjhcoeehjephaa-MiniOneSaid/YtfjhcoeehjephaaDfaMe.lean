/- Dfa, MIdx, MRight, DIdx, DRight, DRRight, DEPlain of this seat, in one text. -/
import Derived.Test.YtfjhcoeehjephaaChecked
import Derived.Test.YtfjhcoeehjephaaNfaMe
import Derived.Deep.MidRow
import Derived.Handy
/- Automata: what one is, which may be, where one lies in memory. -/
namespace Go.Proofs.Ytfjhcoeehjephaa
open Go.RowKit


def BoolC (xs : List Bool) : Nat → Nat → Value := fun k _ => .bool (xs.getD k false)
structure Dfa where
  cls : Nat → Nat
  next : List (List Int)
  acc : List Bool
/-- how many classes -/
def Dfa.many (D : Dfa) : Nat := (D.next.getD 0 []).length
/-- is any number below -1, or N or more? -/
def AnyOff (xs : List Int) (N : Int) (k : Nat) : Prop := ∃ j, j < k ∧ (xs.getD j 0 < -1 ∨ N ≤ xs.getD j 0)
def RowOff (D : Dfa) (i : Nat) : Prop := (D.next.getD i []).length ≠ D.many ∨ AnyOff (D.next.getD i []) D.next.length (D.next.getD i []).length
structure RightD (D : Dfa) : Prop where
  lo : 1 ≤ D.next.length
  hi : D.next.length ≤ 400
  alen : D.acc.length = D.next.length
  mlo : 1 ≤ D.many
  mhi : D.many ≤ 256
  cls : ¬ ∃ b, b < 256 ∧ D.many ≤ D.cls b
  rows : ¬ ∃ i, i < D.next.length ∧ RowOff D i
open Classical in
noncomputable def rightD (D : Dfa) : Bool := if RightD D then true else false
theorem rightD_yes {D : Dfa} (h : RightD D) : rightD D = true := by unfold rightD; rw [if_pos h]
theorem rightD_no {D : Dfa} (h : ¬ RightD D) : rightD D = false := by unfold rightD; rw [if_neg h]
open Classical in
noncomputable def offB (xs : List Int) (N : Int) (k : Nat) : Bool := if AnyOff xs N k then true else false
theorem offB_yes {xs : List Int} {N : Int} {k : Nat} (h : AnyOff xs N k) : offB xs N k = true := by unfold offB; rw [if_pos h]
theorem offB_no {xs : List Int} {N : Int} {k : Nat} (h : ¬ AnyOff xs N k) : offB xs N k = false := by unfold offB; rw [if_neg h]
open Classical in
noncomputable def rowsB (D : Dfa) (k : Nat) : Bool := if ∃ i, i < k ∧ RowOff D i then true else false
theorem rowsB_yes {D : Dfa} {k : Nat} (h : ∃ i, i < k ∧ RowOff D i) : rowsB D k = true := by unfold rowsB; rw [if_pos h]
theorem rowsB_no {D : Dfa} {k : Nat} (h : ¬ ∃ i, i < k ∧ RowOff D i) : rowsB D k = false := by unfold rowsB; rw [if_neg h]

/-- rows of a slice of slices -/
def RowC (RA : Nat → Option Addr) (rc : Nat → Nat) (rows : List (List Int)) : Nat → Nat → Value := fun k _ => .slice (RA k) (rows.getD k []).length (rc k)
structure RowsIn (w : World) (A : Option Addr) (n : Nat) (rows : List (List Int)) (RA : Nat → Option Addr) (rc : Nat → Nat) : Prop where
  len : rows.length = n
  le : n ≤ 140737488355328
  arr : Arr w w.heap.size 1 A n (RowC RA rc rows)
  row : ∀ k, k < n → Arr w w.heap.size 1 (RA k) (rows.getD k []).length (NumC .i64 (rows.getD k []))
  small : ∀ k, k < n → (rows.getD k []).length ≤ 140737488355328
theorem RowsIn.keep {w w' : World} {A : Option Addr} {n : Nat} {rows : List (List Int)} {RA : Nat → Option Addr} {rc : Nat → Nat} (h : RowsIn w A n rows RA rc) (hb : Below w.heap.size w w') : RowsIn w' A n rows RA rc :=
  ⟨h.len, h.le, (h.arr.below hb).more hb.size, fun k hk => ((h.row k hk).below hb).more hb.size, h.small⟩
/-- the automaton's 258 cells -/
structure Cells (ds : Array Value) (A1 A2 : Option Addr) (n1 n2 c1 c2 : Nat) (cls : Nat → Nat) : Prop where
  size : ds.size = 258
  cl : ∀ b, b < 256 → ds[b]? = some (.int .u8 (cls b))
  nx : ds[256]? = some (.slice A1 n1 c1)
  ac : ds[257]? = some (.slice A2 n2 c2)
  lt : ∀ b, b < 256 → cls b < 256
structure DfaIn (w : World) (ds : Array Value) (A1 A2 : Option Addr) (n1 n2 c1 c2 : Nat) (D : Dfa) (RA : Nat → Option Addr) (rc : Nat → Nat) : Prop where
  cells : Cells ds A1 A2 n1 n2 c1 c2 D.cls
  next : RowsIn w A1 n1 D.next RA rc
  alen : D.acc.length = n2
  ale : n2 ≤ 140737488355328
  aarr : Arr w w.heap.size 1 A2 n2 (BoolC D.acc)
theorem DfaIn.keep {w w' : World} {ds : Array Value} {A1 A2 : Option Addr} {n1 n2 c1 c2 : Nat} {D : Dfa} {RA : Nat → Option Addr} {rc : Nat → Nat}
    (h : DfaIn w ds A1 A2 n1 n2 c1 c2 D RA rc) (hb : Below w.heap.size w w') : DfaIn w' ds A1 A2 n1 n2 c1 c2 D RA rc :=
  ⟨h.cells, h.next.keep hb, h.alen, h.ale, (h.aarr.below hb).more hb.size⟩
end Go.Proofs.Ytfjhcoeehjephaa
/- slices.ContainsFunc at the closures of dfa.Right. -/
namespace Go.Proofs.Ytfjhcoeehjephaa.M9
open Go.RowKit

set_option maxHeartbeats 4000000 in
theorem idx23 (A : Option Addr) (n c p : Nat) (xs : List Int) (N : Int) (w : World) (hn : n ≤ 140737488355328) (h : Arr w w.heap.size 1 A n (NumC .i64 xs)) (hp : w.cell? ⟨p, 0, none⟩ = some (.int .i64 N)) :
    Calls Try.prog 64 #[.slice A n c, .func (.func 65) #[] #[.pointer (some ⟨p, 0, none⟩)]] w fun e w' => e = .returned (.bool (offB xs N n)) ∧ w' = w := by
  have H := Lib.hid h
  clear h
  obtain ⟨bq, hbq⟩ : ∃ bq, bq = offB xs N n := ⟨_, rfl⟩
  rw [← hbq]
  have HBQ := Lib.hid hbq
  clear hbq
  go_enter Try.func64, Try.ntmps64
  go_wp2
  go_loop [8] (fun i => ∃ k : Nat, k ≤ n ∧ i = .int .i64 k ∧ ¬ AnyOff xs N k) (fun i => n - (intOf i).toNat)
  case atStart => exact ⟨0, by omega, rfl, fun ⟨j, hj, _⟩ => absurd hj (by omega)⟩
  case round =>
    obtain ⟨k, hk, rfl, hno⟩ := hrel
    have HNO := Lib.hid hno
    clear hno
    by_cases hlt : k < n
    · obtain ⟨b, o, rfl, _, hc⟩ := H.out.one hlt
      unfold NumC at hc
      obtain ⟨x, hx⟩ : ∃ x, x = xs.getD k 0 := ⟨_, rfl⟩
      rw [← hx] at hc
      have HX := Lib.hid hx
      clear hx
      by_cases h1 : x < -1
      · have d1 : decide (x < -1) = true := by simpa using h1
        have hb : bq = true := by rw [HBQ.out]; exact offB_yes ⟨k, by omega, .inl (by rw [← HX.out]; omega)⟩
        subst hb
        go_wp2
        go_returns
        exact ⟨by first | rfl | (simp; done) | (simp; omega), rfl⟩
      · have d1 : decide (x < -1) = false := by simpa using h1
        by_cases h2 : N ≤ x
        · have d2 : decide (N ≤ x) = true := by simpa using h2
          have hb : bq = true := by rw [HBQ.out]; exact offB_yes ⟨k, by omega, .inr (by rw [← HX.out]; omega)⟩
          subst hb
          go_wp2
          go_returns
          exact ⟨by first | rfl | (simp; done) | (simp; omega), rfl⟩
        · have d2 : decide (N ≤ x) = false := by simpa using h2
          go_wp2
          go_round
          case rel => exact ⟨k + 1, by omega, by go_num, fun ⟨j, hj, h5⟩ => by
                        by_cases e : j = k
                        · rw [e, ← HX.out] at h5; omega
                        · exact HNO.out ⟨j, by omega, h5⟩⟩
          case measure => simp [intOf]; omega
    · obtain rfl : k = n := by omega
      have hb : bq = false := by rw [HBQ.out]; exact offB_no HNO.out
      subst hb
      go_wp2
      go_returns
      exact ⟨by first | rfl | simp, rfl⟩

set_option maxHeartbeats 4000000 in
theorem clo21 (A : Option Addr) (n c p q mm : Nat) (xs : List Int) (N : Int) (w : World) (hn : n ≤ 140737488355328) (h : Arr w w.heap.size 1 A n (NumC .i64 xs)) (hp : w.cell? ⟨p, 0, none⟩ = some (.int .i64 mm)) (hq : w.cell? ⟨q, 0, none⟩ = some (.int .i64 N)) :
    Calls Try.prog 63 #[.slice A n c, .pointer (some ⟨p, 0, none⟩), .pointer (some ⟨q, 0, none⟩)] w fun e w' => e = .returned (.bool (n != mm || offB xs N n)) ∧ w' = w := by
  have HI := Lib.hid (idx23 A n c q xs N w hn h hq)
  clear h
  go_enter Try.func63, Try.ntmps63
  by_cases h1 : n = mm
  · have d1 : ((n : Int) != (mm : Int)) = false := by simp [h1]
    have d2 : (n != mm) = false := by simp [h1]
    clear h1
    generalize offB xs N n = ob at HI ⊢
    go_wp2_with fail
    refine HI.out.mono ?_
    rintro e w' ⟨rfl, rfl⟩
    go_wp2_with fail
    go_returns
    exact ⟨by rw [d2]; cases ob <;> rfl, rfl⟩
  · have d1 : ((n : Int) != (mm : Int)) = true := by simp; omega
    have d2 : (n != mm) = true := by simp [h1]
    clear h1
    go_wp2_with fail
    go_returns
    exact ⟨by rw [d2]; rfl, rfl⟩

set_option maxHeartbeats 4000000 in
theorem idx21 (A : Option Addr) (n c p q : Nat) (D : Dfa) (RA : Nat → Option Addr) (rc : Nat → Nat) (w : World) (h : RowsIn w A n D.next RA rc) (hp : w.cell? ⟨p, 0, none⟩ = some (.int .i64 D.many)) (hq : w.cell? ⟨q, 0, none⟩ = some (.int .i64 n)) :
    Calls Try.prog 62 #[.slice A n c, .func (.func 63) #[] #[.pointer (some ⟨p, 0, none⟩), .pointer (some ⟨q, 0, none⟩)]] w fun e w' => e = .returned (.bool (rowsB D n)) ∧ w' = w := by
  have hn := h.le
  have hln := h.len
  have H := Lib.hid h
  clear h
  obtain ⟨bq, hbq⟩ : ∃ bq, bq = rowsB D n := ⟨_, rfl⟩
  rw [← hbq]
  have HBQ := Lib.hid hbq
  clear hbq
  obtain ⟨mm, hmm⟩ : ∃ mm, mm = D.many := ⟨_, rfl⟩
  rw [← hmm] at hp
  have HMM := Lib.hid hmm
  clear hmm
  go_enter Try.func62, Try.ntmps62
  go_wp2
  go_loop [8] (fun i => ∃ k : Nat, k ≤ n ∧ i = .int .i64 k ∧ ¬ ∃ i, i < k ∧ RowOff D i) (fun i => n - (intOf i).toNat)
  case atStart => exact ⟨0, by omega, rfl, fun ⟨j, hj, _⟩ => absurd hj (by omega)⟩
  case round =>
    obtain ⟨k, hk, rfl, hno⟩ := hrel
    have HNO := Lib.hid hno
    clear hno
    by_cases hlt : k < n
    · obtain ⟨b, o, rfl, _, hc⟩ := H.out.arr.one hlt
      unfold RowC at hc
      have hsm := H.out.small k hlt
      have HI := Lib.hid (clo21 (RA k) (D.next.getD k []).length (rc k) p q mm (D.next.getD k []) n w hsm (H.out.row k hlt) hp hq)
      obtain ⟨rl, hrl⟩ : ∃ rl, rl = (D.next.getD k []).length := ⟨_, rfl⟩
      rw [← hrl] at hc hsm HI
      obtain ⟨ob, hob⟩ : ∃ ob, ob = (rl != mm || offB (D.next.getD k []) n rl) := ⟨_, rfl⟩
      rw [← hob] at HI
      have hoff : ob = true ↔ RowOff D k := by
        rw [hob, RowOff, ← hrl, hln, ← HMM.out]
        constructor
        · intro h9
          by_cases e : rl = mm
          · right
            apply Classical.byContradiction
            intro h8
            rw [offB_no h8] at h9
            simp [e] at h9
          · exact .inl e
        · rintro (h9 | h9)
          · simp [h9]
          · rw [offB_yes h9]; simp
      have HOFF := Lib.hid hoff
      clear hrl hob hoff
      cases ob with
      | true =>
        have hb : bq = true := by rw [HBQ.out]; exact rowsB_yes ⟨k, hlt, HOFF.out.1 rfl⟩
        subst hb
        go_wp2_with fail
        refine HI.out.mono ?_
        rintro e w' ⟨rfl, rfl⟩
        go_wp2_with fail
        go_returns
        exact ⟨by first | rfl | (simp; done) | (simp; omega), rfl⟩
      | false =>
        go_wp2_with fail
        refine HI.out.mono ?_
        rintro e w' ⟨rfl, rfl⟩
        go_wp2_with fail
        go_round
        case rel => exact ⟨k + 1, by omega, by go_num, fun ⟨j, hj, h5⟩ => by
                      by_cases e : j = k
                      · subst e
                        have := HOFF.out.2 h5
                        cases this
                      · exact HNO.out ⟨j, by omega, h5⟩⟩
        case measure => simp [intOf]; omega
    · obtain rfl : k = n := by omega
      have hb : bq = false := by rw [HBQ.out]; exact rowsB_no HNO.out
      subst hb
      go_wp2
      go_returns
      exact ⟨by first | rfl | simp, rfl⟩
end Go.Proofs.Ytfjhcoeehjephaa.M9
/- dfa.Right. -/
namespace Go.Proofs.Ytfjhcoeehjephaa.M9
open Go.RowKit

theorem kept_cell {w w1 : World} {ds : Array Value} {t : TypeId} (hb : Below (w.alloc (.cells ds t)).heap.size (w.alloc (.cells ds t)) w1) {A1 A2 : Option Addr} {n1 n2 c1 c2 : Nat} {cls : Nat → Nat} (hc : Cells ds A1 A2 n1 n2 c1 c2 cls) :
    w1.cell? ⟨w.heap.size, 256, none⟩ = some (.slice A1 n1 c1) ∧ w1.cell? ⟨w.heap.size, 257, none⟩ = some (.slice A2 n2 c2) ∧ (∀ b, b < 256 → w1.cell? ⟨w.heap.size, b, none⟩ = some (.int .u8 (cls b))) ∧
    w1.rangeAt w.heap.size 0 (ds.toList.take 256) ∧ w1.rangeAt w.heap.size 0 ds.toList := by
  refine ⟨(kept_new hb _).trans hc.nx, (kept_new hb _).trans hc.ac, fun b h => (kept_new hb _).trans (hc.cl b h), fun j v hv => ?_, fun j v hv => ?_⟩
  · rw [Nat.zero_add, kept_new hb]
    have := hc.size
    rw [List.getElem?_take] at hv
    split at hv
    · rw [← hv]; simp
    · cases hv
  · rw [Nat.zero_add, kept_new hb, ← hv]; simp
theorem index_cls {ds : Array Value} {A1 A2 : Option Addr} {n1 n2 c1 c2 : Nat} {cls : Nat → Nat} (hc : Cells ds A1 A2 n1 n2 c1 c2 cls) (k : Nat) (hk : k < 256) (W : World) :
    (Instr.index 26 (.agg (ds.toList.take 256).toArray) (.int .i64 (k : Int))).run Try.prog W = .ok (.int .u8 (cls k)) W := by
  have h0 : (0 : Int) ≤ (k : Int) ∧ (k : Int) < 256 := by omega
  have h1 := hc.cl k hk
  have h2 := hc.size
  have h3 : (ds.toList.take 256)[k]? = some (.int .u8 (cls k)) := by
    rw [List.getElem?_take, if_pos hk, ← h1]; simp
  have h4 : ((ds.toList.take 256).toArray)[k]? = some (.int .u8 (cls k)) := by rw [List.getElem?_toArray]; exact h3
  simp [Instr.index, run_underlying Try.underlying26, asIntOf, h0, hk, h3, go_sem]
theorem info22 : (Try.prog.info? 26).map (·.size) = some 256 := by kernel_rfl
theorem info26 : (Try.prog.info? 30).map (·.size) = some 258 := by kernel_rfl

set_option maxRecDepth 100000 in
set_option maxHeartbeats 8000000 in
theorem dright_any (ds : Array Value) (A1 A2 : Option Addr) (n1 n2 c1 c2 : Nat) (D : Dfa) (RA : Nat → Option Addr) (rc : Nat → Nat) (w : World) (h : DfaIn w ds A1 A2 n1 n2 c1 c2 D RA rc) :
    Calls Try.prog 41 #[.agg ds] w fun e w' => e = .returned (.bool (rightD D)) ∧ Below w.heap.size w w' := by
  have b1 : Below (w.alloc (.cells ds 30)).heap.size (w.alloc (.cells ds 30)) ((w.alloc (.cells ds 30)).alloc (.cells #[.int .i64 (n1 : Int)] 3)) := (Below.refl _ _).alloc (Nat.le_refl _) _
  have b2 : Below (w.alloc (.cells ds 30)).heap.size (w.alloc (.cells ds 30)) (((w.alloc (.cells ds 30)).alloc (.cells #[.int .i64 (n1 : Int)] 3)).alloc (.cells #[.int .i64 (D.many : Int)] 3)) := b1.alloc (by simp) _
  obtain ⟨q10, q20, -, -, -⟩ := kept_cell (w := w) (t := 30) (Below.refl _ _) h.cells
  obtain ⟨q11, q21, -, -, -⟩ := kept_cell b1 h.cells
  obtain ⟨q12, q22, -, q32, -⟩ := kept_cell b2 h.cells
  have hb1 : Below w.heap.size w ((w.alloc (.cells ds 30)).alloc (.cells #[.int .i64 (n1 : Int)] 3)) := ((Below.refl _ _).alloc (Nat.le_refl _) _).alloc (by simp) _
  have hb2 : Below w.heap.size w (((w.alloc (.cells ds 30)).alloc (.cells #[.int .i64 (n1 : Int)] 3)).alloc (.cells #[.int .i64 (D.many : Int)] 3)) := hb1.alloc (by simp; omega) _
  have hl1 := h.next.len
  have hl2 := h.alen
  have hle1 := h.next.le
  have hle2 := h.ale
  have hds := h.cells.size
  have HI := Lib.hid (fun k hk W => index_cls h.cells k hk W)
  have hclt := h.cells.lt
  obtain ⟨bq, hbq⟩ : ∃ bq, bq = rightD D := ⟨_, rfl⟩
  rw [← hbq]
  have HBQ := Lib.hid hbq
  clear hbq
  have hno : Hid (¬ RightD D → bq = false) := fun h => by rw [HBQ.out]; exact rightD_no h
  have HB := Lib.hid (And.intro hb1 hb2)
  have hs1 : (w.alloc (.cells ds 30)).heap.size = w.heap.size + 1 := by simp
  have hs2 : ((w.alloc (.cells ds 30)).alloc (.cells #[.int .i64 (n1 : Int)] 3)).heap.size = w.heap.size + 2 := by simp
  have hmc : (((w.alloc (.cells ds 30)).alloc (.cells #[.int .i64 (n1 : Int)] 3)).alloc (.cells #[.int .i64 (D.many : Int)] 3)).cell? ⟨w.heap.size + 2, 0, none⟩ = some (.int .i64 (D.many : Int)) := by
    rw [← hs2]; exact cell_of_row _ _ _ _ _ _ (heap_alloc_new _ _)
  have hnc : (((w.alloc (.cells ds 30)).alloc (.cells #[.int .i64 (n1 : Int)] 3)).alloc (.cells #[.int .i64 (D.many : Int)] 3)).cell? ⟨w.heap.size + 1, 0, none⟩ = some (.int .i64 (n1 : Int)) := by
    rw [← hs1]; exact kept_new (w := w.alloc (.cells ds 30)) ((Below.refl _ _).alloc (Nat.le_refl _) _) 0
  have HI21 := Lib.hid (idx21 A1 n1 c1 (w.heap.size + 2) (w.heap.size + 1) D RA rc (((w.alloc (.cells ds 30)).alloc (.cells #[.int .i64 (n1 : Int)] 3)).alloc (.cells #[.int .i64 (D.many : Int)] 3)) (h.next.keep hb2) hmc hnc)
  have HC1 := Lib.hid (h.next.keep hb1)
  have HMC := Lib.hid hmc
  clear h b1 b2 hb1 hb2 hs1 hs2 hmc hnc
  have hcase : n1 < 1 ∨ (1 ≤ n1 ∧ 400 < n1) ∨ (1 ≤ n1 ∧ n1 ≤ 400 ∧ n2 ≠ n1) ∨ (1 ≤ n1 ∧ n1 ≤ 400 ∧ n2 = n1) := by omega
  go_enter Try.func41, Try.ntmps41
  rcases hcase with h1 | ⟨h1, h2⟩ | ⟨h1, h2, h3⟩ | ⟨h1, h2, h3⟩
  · have hb : bq = false := hno.out (fun h => by have := h.lo; omega)
    subst hb
    go_wp2_with fail
    go_returns
    exact ⟨by first | rfl | (simp; done) | (simp; omega), HB.out.1⟩
  · have hb : bq = false := hno.out (fun h => by have := h.hi; omega)
    subst hb
    go_wp2_with fail
    go_returns
    exact ⟨by first | rfl | (simp; done) | (simp; omega), HB.out.1⟩
  · have hb : bq = false := hno.out (fun h => by have := h.alen; omega)
    subst hb
    have e1 : ((n2 : Int) != (n1 : Int)) = true := by simp; omega
    have d1 : decide ((n1 : Int) < 1) = false := by simp; omega
    have d2 : decide ((400 : Int) < (n1 : Int)) = false := by simp; omega
    go_wp2_with fail
    go_returns
    exact ⟨by first | rfl | (simp; done) | (simp; omega), HB.out.1⟩
  · have e1 : ((n2 : Int) != (n1 : Int)) = false := by simp [h3]
    have d1 : decide ((n1 : Int) < 1) = false := by simp; omega
    have d2 : decide ((400 : Int) < (n1 : Int)) = false := by simp; omega
    have HN := Lib.hid h3
    clear h3
    obtain ⟨b1, o1, rfl, _, hc1⟩ := HC1.out.arr.one (k := 0) (by omega)
    unfold RowC at hc1
    rw [Nat.add_zero] at hc1
    have hmm : (D.next.getD 0 []).length = D.many := rfl
    have hms := HC1.out.small 0 (by omega)
    rw [hmm] at hc1 hms
    obtain ⟨mm, hmd⟩ : ∃ mm, mm = D.many := ⟨_, rfl⟩
    rw [← hmd] at hc1 hms q12 q22 q32 HB HI21 HMC
    have HMD := Lib.hid hmd
    clear hmm hmd
    by_cases hm1 : mm < 1
    · have hb : bq = false := hno.out (fun h => by have := h.mlo; have := HMD.out; omega)
      subst hb
      have d3 : decide ((mm : Int) < 1) = true := by simp; omega
      go_wp2_with fail
      go_returns
      exact ⟨by first | rfl | (simp; done) | (simp; omega), HB.out.2⟩
    · have d3 : decide ((mm : Int) < 1) = false := by simp; omega
      by_cases hm2 : 256 < mm
      · have hb : bq = false := hno.out (fun h => by have := h.mhi; have := HMD.out; omega)
        subst hb
        have d4 : decide ((256 : Int) < (mm : Int)) = true := by simp; omega
        go_wp2_with fail
        go_returns
        exact ⟨by first | rfl | (simp; done) | (simp; omega), HB.out.2⟩
      · have d4 : decide ((256 : Int) < (mm : Int)) = false := by simp; omega
        have hl256 : (ds.toList.take 256).length = 256 := by simp [hds]
        obtain ⟨ls, hls⟩ : ∃ ls, ls = ds.toList.take 256 := ⟨_, rfl⟩
        rw [← hls] at HI q32 hl256
        have hinf : (Try.prog.info? 26).map (·.size) = some ls.length := by rw [hl256]; exact info22
        have HINF := Lib.hid hinf
        have HR32 := Lib.hid q32
        clear hls hinf q32 hl256
        go_wp2_with (first | (refine wpList_load_mid rfl 26 (.tmp 34) rfl w.heap.size 0 rfl ls _ HR32.out Try.underlying26 rfl HINF.out ?_))
        have hmc := HMC.out
        go_loop [36] (fun i => ∃ k : Nat, k ≤ 256 ∧ i = .int .i64 k ∧ ¬ ∃ b, b < k ∧ mm ≤ D.cls b) (fun i => 256 - (intOf i).toNat)
        case atStart => exact ⟨0, by omega, rfl, fun ⟨j, hj, _⟩ => absurd hj (by omega)⟩
        case round =>
          obtain ⟨k, hk, rfl, hnk⟩ := hrel
          have HNK := Lib.hid hnk
          clear hnk
          by_cases hlt : k < 256
          · have hix := HI.out k hlt
            have hcl := hclt k hlt
            obtain ⟨cc, hcc⟩ : ∃ cc, cc = D.cls k := ⟨_, rfl⟩
            rw [← hcc] at hix hcl
            have HCC := Lib.hid hcc
            clear hcc
            by_cases hbig : mm ≤ cc
            · have d5 : decide ((mm : Int) ≤ (cc : Int)) = true := by simp; omega
              have hb : bq = false := hno.out (fun h => h.cls ⟨k, hlt, by rw [← HMD.out, ← HCC.out]; exact hbig⟩)
              subst hb
              go_wp2_with fail
              go_returns
              exact ⟨by first | rfl | (simp; done) | (simp; omega), HB.out.2⟩
            · have d5 : decide ((mm : Int) ≤ (cc : Int)) = false := by simp; omega
              go_wp2_with fail
              go_round
              case rel => exact ⟨k + 1, by omega, by go_num, fun ⟨j, hj, h5⟩ => by
                            by_cases e : j = k
                            · rw [e, ← HCC.out] at h5; omega
                            · exact HNK.out ⟨j, by omega, h5⟩⟩
              case measure => simp [intOf]; omega
          · obtain rfl : k = 256 := by omega
            have hbq : bq = !(rowsB D n1) := by
              by_cases hro : ∃ i, i < n1 ∧ RowOff D i
              · rw [rowsB_yes hro]
                exact hno.out (fun h => h.rows (by rw [hl1]; exact hro))
              · rw [rowsB_no hro, HBQ.out]
                refine rightD_yes ⟨by omega, by omega, by rw [hl1, hl2]; exact HN.out, by rw [← HMD.out]; omega, by rw [← HMD.out]; omega, by rw [← HMD.out]; exact HNK.out, by rw [hl1]; exact hro⟩
            obtain ⟨rb, hrb⟩ : ∃ rb, rb = rowsB D n1 := ⟨_, rfl⟩
            rw [← hrb] at hbq HI21
            clear hrb
            subst hbq
            go_wp2_with fail
            refine HI21.out.mono ?_
            rintro e w' ⟨rfl, rfl⟩
            go_wp2_with fail
            go_returns
            exact ⟨by first | rfl | (simp; done) | (simp; omega), HB.out.2⟩
end Go.Proofs.Ytfjhcoeehjephaa.M9
/- slices.ContainsFunc at the closures of dfa.Right. -/
namespace Go.Proofs.Ytfjhcoeehjephaa.D8
open Go.RowKit

set_option maxHeartbeats 4000000 in
theorem idx23 (A : Option Addr) (n c p : Nat) (xs : List Int) (N : Int) (w : World) (hn : n ≤ 140737488355328) (h : Arr w w.heap.size 1 A n (NumC .i64 xs)) (hp : w.cell? ⟨p, 0, none⟩ = some (.int .i64 N)) :
    Calls Try.prog 64 #[.slice A n c, .func (.func 65) #[] #[.pointer (some ⟨p, 0, none⟩)]] w fun e w' => e = .returned (.bool (offB xs N n)) ∧ w' = w := by
  have H := Lib.hid h
  clear h
  obtain ⟨bq, hbq⟩ : ∃ bq, bq = offB xs N n := ⟨_, rfl⟩
  rw [← hbq]
  have HBQ := Lib.hid hbq
  clear hbq
  go_enter Try.func64, Try.ntmps64
  go_wp2
  go_loop [8] (fun i => ∃ k : Nat, k ≤ n ∧ i = .int .i64 k ∧ ¬ AnyOff xs N k) (fun i => n - (intOf i).toNat)
  case atStart => exact ⟨0, by omega, rfl, fun ⟨j, hj, _⟩ => absurd hj (by omega)⟩
  case round =>
    obtain ⟨k, hk, rfl, hno⟩ := hrel
    have HNO := Lib.hid hno
    clear hno
    by_cases hlt : k < n
    · obtain ⟨b, o, rfl, _, hc⟩ := H.out.one hlt
      unfold NumC at hc
      obtain ⟨x, hx⟩ : ∃ x, x = xs.getD k 0 := ⟨_, rfl⟩
      rw [← hx] at hc
      have HX := Lib.hid hx
      clear hx
      by_cases h1 : x < -1
      · have d1 : decide (x < -1) = true := by simpa using h1
        have hb : bq = true := by rw [HBQ.out]; exact offB_yes ⟨k, by omega, .inl (by rw [← HX.out]; omega)⟩
        subst hb
        go_wp2
        go_returns
        exact ⟨by first | rfl | (simp; done) | (simp; omega), rfl⟩
      · have d1 : decide (x < -1) = false := by simpa using h1
        by_cases h2 : N ≤ x
        · have d2 : decide (N ≤ x) = true := by simpa using h2
          have hb : bq = true := by rw [HBQ.out]; exact offB_yes ⟨k, by omega, .inr (by rw [← HX.out]; omega)⟩
          subst hb
          go_wp2
          go_returns
          exact ⟨by first | rfl | (simp; done) | (simp; omega), rfl⟩
        · have d2 : decide (N ≤ x) = false := by simpa using h2
          go_wp2
          go_round
          case rel => exact ⟨k + 1, by omega, by go_num, fun ⟨j, hj, h5⟩ => by
                        by_cases e : j = k
                        · rw [e, ← HX.out] at h5; omega
                        · exact HNO.out ⟨j, by omega, h5⟩⟩
          case measure => simp [intOf]; omega
    · obtain rfl : k = n := by omega
      have hb : bq = false := by rw [HBQ.out]; exact offB_no HNO.out
      subst hb
      go_wp2
      go_returns
      exact ⟨by first | rfl | simp, rfl⟩

set_option maxHeartbeats 4000000 in
theorem clo21 (A : Option Addr) (n c p q mm : Nat) (xs : List Int) (N : Int) (w : World) (hn : n ≤ 140737488355328) (h : Arr w w.heap.size 1 A n (NumC .i64 xs)) (hp : w.cell? ⟨p, 0, none⟩ = some (.int .i64 mm)) (hq : w.cell? ⟨q, 0, none⟩ = some (.int .i64 N)) :
    Calls Try.prog 63 #[.slice A n c, .pointer (some ⟨p, 0, none⟩), .pointer (some ⟨q, 0, none⟩)] w fun e w' => e = .returned (.bool (n != mm || offB xs N n)) ∧ w' = w := by
  have HI := Lib.hid (idx23 A n c q xs N w hn h hq)
  clear h
  go_enter Try.func63, Try.ntmps63
  by_cases h1 : n = mm
  · have d1 : ((n : Int) != (mm : Int)) = false := by simp [h1]
    have d2 : (n != mm) = false := by simp [h1]
    clear h1
    generalize offB xs N n = ob at HI ⊢
    go_wp2_with fail
    refine HI.out.mono ?_
    rintro e w' ⟨rfl, rfl⟩
    go_wp2_with fail
    go_returns
    exact ⟨by rw [d2]; cases ob <;> rfl, rfl⟩
  · have d1 : ((n : Int) != (mm : Int)) = true := by simp; omega
    have d2 : (n != mm) = true := by simp [h1]
    clear h1
    go_wp2_with fail
    go_returns
    exact ⟨by rw [d2]; rfl, rfl⟩

set_option maxHeartbeats 4000000 in
theorem idx21 (A : Option Addr) (n c p q : Nat) (D : Dfa) (RA : Nat → Option Addr) (rc : Nat → Nat) (w : World) (h : RowsIn w A n D.next RA rc) (hp : w.cell? ⟨p, 0, none⟩ = some (.int .i64 D.many)) (hq : w.cell? ⟨q, 0, none⟩ = some (.int .i64 n)) :
    Calls Try.prog 62 #[.slice A n c, .func (.func 63) #[] #[.pointer (some ⟨p, 0, none⟩), .pointer (some ⟨q, 0, none⟩)]] w fun e w' => e = .returned (.bool (rowsB D n)) ∧ w' = w := by
  have hn := h.le
  have hln := h.len
  have H := Lib.hid h
  clear h
  obtain ⟨bq, hbq⟩ : ∃ bq, bq = rowsB D n := ⟨_, rfl⟩
  rw [← hbq]
  have HBQ := Lib.hid hbq
  clear hbq
  obtain ⟨mm, hmm⟩ : ∃ mm, mm = D.many := ⟨_, rfl⟩
  rw [← hmm] at hp
  have HMM := Lib.hid hmm
  clear hmm
  go_enter Try.func62, Try.ntmps62
  go_wp2
  go_loop [8] (fun i => ∃ k : Nat, k ≤ n ∧ i = .int .i64 k ∧ ¬ ∃ i, i < k ∧ RowOff D i) (fun i => n - (intOf i).toNat)
  case atStart => exact ⟨0, by omega, rfl, fun ⟨j, hj, _⟩ => absurd hj (by omega)⟩
  case round =>
    obtain ⟨k, hk, rfl, hno⟩ := hrel
    have HNO := Lib.hid hno
    clear hno
    by_cases hlt : k < n
    · obtain ⟨b, o, rfl, _, hc⟩ := H.out.arr.one hlt
      unfold RowC at hc
      have hsm := H.out.small k hlt
      have HI := Lib.hid (clo21 (RA k) (D.next.getD k []).length (rc k) p q mm (D.next.getD k []) n w hsm (H.out.row k hlt) hp hq)
      obtain ⟨rl, hrl⟩ : ∃ rl, rl = (D.next.getD k []).length := ⟨_, rfl⟩
      rw [← hrl] at hc hsm HI
      obtain ⟨ob, hob⟩ : ∃ ob, ob = (rl != mm || offB (D.next.getD k []) n rl) := ⟨_, rfl⟩
      rw [← hob] at HI
      have hoff : ob = true ↔ RowOff D k := by
        rw [hob, RowOff, ← hrl, hln, ← HMM.out]
        constructor
        · intro h9
          by_cases e : rl = mm
          · right
            apply Classical.byContradiction
            intro h8
            rw [offB_no h8] at h9
            simp [e] at h9
          · exact .inl e
        · rintro (h9 | h9)
          · simp [h9]
          · rw [offB_yes h9]; simp
      have HOFF := Lib.hid hoff
      clear hrl hob hoff
      cases ob with
      | true =>
        have hb : bq = true := by rw [HBQ.out]; exact rowsB_yes ⟨k, hlt, HOFF.out.1 rfl⟩
        subst hb
        go_wp2_with fail
        refine HI.out.mono ?_
        rintro e w' ⟨rfl, rfl⟩
        go_wp2_with fail
        go_returns
        exact ⟨by first | rfl | (simp; done) | (simp; omega), rfl⟩
      | false =>
        go_wp2_with fail
        refine HI.out.mono ?_
        rintro e w' ⟨rfl, rfl⟩
        go_wp2_with fail
        go_round
        case rel => exact ⟨k + 1, by omega, by go_num, fun ⟨j, hj, h5⟩ => by
                      by_cases e : j = k
                      · subst e
                        have := HOFF.out.2 h5
                        cases this
                      · exact HNO.out ⟨j, by omega, h5⟩⟩
        case measure => simp [intOf]; omega
    · obtain rfl : k = n := by omega
      have hb : bq = false := by rw [HBQ.out]; exact rowsB_no HNO.out
      subst hb
      go_wp2
      go_returns
      exact ⟨by first | rfl | simp, rfl⟩
end Go.Proofs.Ytfjhcoeehjephaa.D8
/- dfa.Right. -/
namespace Go.Proofs.Ytfjhcoeehjephaa.D8
open Go.RowKit

theorem kept_cell {w w1 : World} {ds : Array Value} {t : TypeId} (hb : Below (w.alloc (.cells ds t)).heap.size (w.alloc (.cells ds t)) w1) {A1 A2 : Option Addr} {n1 n2 c1 c2 : Nat} {cls : Nat → Nat} (hc : Cells ds A1 A2 n1 n2 c1 c2 cls) :
    w1.cell? ⟨w.heap.size, 256, none⟩ = some (.slice A1 n1 c1) ∧ w1.cell? ⟨w.heap.size, 257, none⟩ = some (.slice A2 n2 c2) ∧ (∀ b, b < 256 → w1.cell? ⟨w.heap.size, b, none⟩ = some (.int .u8 (cls b))) ∧
    w1.rangeAt w.heap.size 0 (ds.toList.take 256) ∧ w1.rangeAt w.heap.size 0 ds.toList := by
  refine ⟨(kept_new hb _).trans hc.nx, (kept_new hb _).trans hc.ac, fun b h => (kept_new hb _).trans (hc.cl b h), fun j v hv => ?_, fun j v hv => ?_⟩
  · rw [Nat.zero_add, kept_new hb]
    have := hc.size
    rw [List.getElem?_take] at hv
    split at hv
    · rw [← hv]; simp
    · cases hv
  · rw [Nat.zero_add, kept_new hb, ← hv]; simp
theorem index_cls {ds : Array Value} {A1 A2 : Option Addr} {n1 n2 c1 c2 : Nat} {cls : Nat → Nat} (hc : Cells ds A1 A2 n1 n2 c1 c2 cls) (k : Nat) (hk : k < 256) (W : World) :
    (Instr.index 26 (.agg (ds.toList.take 256).toArray) (.int .i64 (k : Int))).run Try.prog W = .ok (.int .u8 (cls k)) W := by
  have h0 : (0 : Int) ≤ (k : Int) ∧ (k : Int) < 256 := by omega
  have h1 := hc.cl k hk
  have h2 := hc.size
  have h3 : (ds.toList.take 256)[k]? = some (.int .u8 (cls k)) := by
    rw [List.getElem?_take, if_pos hk, ← h1]; simp
  have h4 : ((ds.toList.take 256).toArray)[k]? = some (.int .u8 (cls k)) := by rw [List.getElem?_toArray]; exact h3
  simp [Instr.index, run_underlying Try.underlying26, asIntOf, h0, hk, h3, go_sem]
theorem info22 : (Try.prog.info? 26).map (·.size) = some 256 := by kernel_rfl
theorem info26 : (Try.prog.info? 30).map (·.size) = some 258 := by kernel_rfl

set_option maxRecDepth 100000 in
set_option maxHeartbeats 8000000 in
theorem dright_any (ds : Array Value) (A1 A2 : Option Addr) (n1 n2 c1 c2 : Nat) (D : Dfa) (RA : Nat → Option Addr) (rc : Nat → Nat) (w : World) (h : DfaIn w ds A1 A2 n1 n2 c1 c2 D RA rc) :
    Calls Try.prog 41 #[.agg ds] w fun e w' => e = .returned (.bool (rightD D)) ∧ Below w.heap.size w w' := by
  have b1 : Below (w.alloc (.cells ds 30)).heap.size (w.alloc (.cells ds 30)) ((w.alloc (.cells ds 30)).alloc (.cells #[.int .i64 (n1 : Int)] 3)) := (Below.refl _ _).alloc (Nat.le_refl _) _
  have b2 : Below (w.alloc (.cells ds 30)).heap.size (w.alloc (.cells ds 30)) (((w.alloc (.cells ds 30)).alloc (.cells #[.int .i64 (n1 : Int)] 3)).alloc (.cells #[.int .i64 (D.many : Int)] 3)) := b1.alloc (by simp) _
  obtain ⟨q10, q20, -, -, -⟩ := kept_cell (w := w) (t := 30) (Below.refl _ _) h.cells
  obtain ⟨q11, q21, -, -, -⟩ := kept_cell b1 h.cells
  obtain ⟨q12, q22, -, q32, -⟩ := kept_cell b2 h.cells
  have hb1 : Below w.heap.size w ((w.alloc (.cells ds 30)).alloc (.cells #[.int .i64 (n1 : Int)] 3)) := ((Below.refl _ _).alloc (Nat.le_refl _) _).alloc (by simp) _
  have hb2 : Below w.heap.size w (((w.alloc (.cells ds 30)).alloc (.cells #[.int .i64 (n1 : Int)] 3)).alloc (.cells #[.int .i64 (D.many : Int)] 3)) := hb1.alloc (by simp; omega) _
  have hl1 := h.next.len
  have hl2 := h.alen
  have hle1 := h.next.le
  have hle2 := h.ale
  have hds := h.cells.size
  have HI := Lib.hid (fun k hk W => index_cls h.cells k hk W)
  have hclt := h.cells.lt
  obtain ⟨bq, hbq⟩ : ∃ bq, bq = rightD D := ⟨_, rfl⟩
  rw [← hbq]
  have HBQ := Lib.hid hbq
  clear hbq
  have hno : Hid (¬ RightD D → bq = false) := fun h => by rw [HBQ.out]; exact rightD_no h
  have HB := Lib.hid (And.intro hb1 hb2)
  have hs1 : (w.alloc (.cells ds 30)).heap.size = w.heap.size + 1 := by simp
  have hs2 : ((w.alloc (.cells ds 30)).alloc (.cells #[.int .i64 (n1 : Int)] 3)).heap.size = w.heap.size + 2 := by simp
  have hmc : (((w.alloc (.cells ds 30)).alloc (.cells #[.int .i64 (n1 : Int)] 3)).alloc (.cells #[.int .i64 (D.many : Int)] 3)).cell? ⟨w.heap.size + 2, 0, none⟩ = some (.int .i64 (D.many : Int)) := by
    rw [← hs2]; exact cell_of_row _ _ _ _ _ _ (heap_alloc_new _ _)
  have hnc : (((w.alloc (.cells ds 30)).alloc (.cells #[.int .i64 (n1 : Int)] 3)).alloc (.cells #[.int .i64 (D.many : Int)] 3)).cell? ⟨w.heap.size + 1, 0, none⟩ = some (.int .i64 (n1 : Int)) := by
    rw [← hs1]; exact kept_new (w := w.alloc (.cells ds 30)) ((Below.refl _ _).alloc (Nat.le_refl _) _) 0
  have HI21 := Lib.hid (idx21 A1 n1 c1 (w.heap.size + 2) (w.heap.size + 1) D RA rc (((w.alloc (.cells ds 30)).alloc (.cells #[.int .i64 (n1 : Int)] 3)).alloc (.cells #[.int .i64 (D.many : Int)] 3)) (h.next.keep hb2) hmc hnc)
  have HC1 := Lib.hid (h.next.keep hb1)
  have HMC := Lib.hid hmc
  clear h b1 b2 hb1 hb2 hs1 hs2 hmc hnc
  have hcase : n1 < 1 ∨ (1 ≤ n1 ∧ 400 < n1) ∨ (1 ≤ n1 ∧ n1 ≤ 400 ∧ n2 ≠ n1) ∨ (1 ≤ n1 ∧ n1 ≤ 400 ∧ n2 = n1) := by omega
  go_enter Try.func41, Try.ntmps41
  rcases hcase with h1 | ⟨h1, h2⟩ | ⟨h1, h2, h3⟩ | ⟨h1, h2, h3⟩
  · have hb : bq = false := hno.out (fun h => by have := h.lo; omega)
    subst hb
    go_wp2_with fail
    go_returns
    exact ⟨by first | rfl | (simp; done) | (simp; omega), HB.out.1⟩
  · have hb : bq = false := hno.out (fun h => by have := h.hi; omega)
    subst hb
    go_wp2_with fail
    go_returns
    exact ⟨by first | rfl | (simp; done) | (simp; omega), HB.out.1⟩
  · have hb : bq = false := hno.out (fun h => by have := h.alen; omega)
    subst hb
    have e1 : ((n2 : Int) != (n1 : Int)) = true := by simp; omega
    have d1 : decide ((n1 : Int) < 1) = false := by simp; omega
    have d2 : decide ((400 : Int) < (n1 : Int)) = false := by simp; omega
    go_wp2_with fail
    go_returns
    exact ⟨by first | rfl | (simp; done) | (simp; omega), HB.out.1⟩
  · have e1 : ((n2 : Int) != (n1 : Int)) = false := by simp [h3]
    have d1 : decide ((n1 : Int) < 1) = false := by simp; omega
    have d2 : decide ((400 : Int) < (n1 : Int)) = false := by simp; omega
    have HN := Lib.hid h3
    clear h3
    obtain ⟨b1, o1, rfl, _, hc1⟩ := HC1.out.arr.one (k := 0) (by omega)
    unfold RowC at hc1
    rw [Nat.add_zero] at hc1
    have hmm : (D.next.getD 0 []).length = D.many := rfl
    have hms := HC1.out.small 0 (by omega)
    rw [hmm] at hc1 hms
    obtain ⟨mm, hmd⟩ : ∃ mm, mm = D.many := ⟨_, rfl⟩
    rw [← hmd] at hc1 hms q12 q22 q32 HB HI21 HMC
    have HMD := Lib.hid hmd
    clear hmm hmd
    by_cases hm1 : mm < 1
    · have hb : bq = false := hno.out (fun h => by have := h.mlo; have := HMD.out; omega)
      subst hb
      have d3 : decide ((mm : Int) < 1) = true := by simp; omega
      go_wp2_with fail
      go_returns
      exact ⟨by first | rfl | (simp; done) | (simp; omega), HB.out.2⟩
    · have d3 : decide ((mm : Int) < 1) = false := by simp; omega
      by_cases hm2 : 256 < mm
      · have hb : bq = false := hno.out (fun h => by have := h.mhi; have := HMD.out; omega)
        subst hb
        have d4 : decide ((256 : Int) < (mm : Int)) = true := by simp; omega
        go_wp2_with fail
        go_returns
        exact ⟨by first | rfl | (simp; done) | (simp; omega), HB.out.2⟩
      · have d4 : decide ((256 : Int) < (mm : Int)) = false := by simp; omega
        have hl256 : (ds.toList.take 256).length = 256 := by simp [hds]
        obtain ⟨ls, hls⟩ : ∃ ls, ls = ds.toList.take 256 := ⟨_, rfl⟩
        rw [← hls] at HI q32 hl256
        have hinf : (Try.prog.info? 26).map (·.size) = some ls.length := by rw [hl256]; exact info22
        have HINF := Lib.hid hinf
        have HR32 := Lib.hid q32
        clear hls hinf q32 hl256
        go_wp2_with (first | (refine wpList_load_mid rfl 26 (.tmp 34) rfl w.heap.size 0 rfl ls _ HR32.out Try.underlying26 rfl HINF.out ?_))
        have hmc := HMC.out
        go_loop [36] (fun i => ∃ k : Nat, k ≤ 256 ∧ i = .int .i64 k ∧ ¬ ∃ b, b < k ∧ mm ≤ D.cls b) (fun i => 256 - (intOf i).toNat)
        case atStart => exact ⟨0, by omega, rfl, fun ⟨j, hj, _⟩ => absurd hj (by omega)⟩
        case round =>
          obtain ⟨k, hk, rfl, hnk⟩ := hrel
          have HNK := Lib.hid hnk
          clear hnk
          by_cases hlt : k < 256
          · have hix := HI.out k hlt
            have hcl := hclt k hlt
            obtain ⟨cc, hcc⟩ : ∃ cc, cc = D.cls k := ⟨_, rfl⟩
            rw [← hcc] at hix hcl
            have HCC := Lib.hid hcc
            clear hcc
            by_cases hbig : mm ≤ cc
            · have d5 : decide ((mm : Int) ≤ (cc : Int)) = true := by simp; omega
              have hb : bq = false := hno.out (fun h => h.cls ⟨k, hlt, by rw [← HMD.out, ← HCC.out]; exact hbig⟩)
              subst hb
              go_wp2_with fail
              go_returns
              exact ⟨by first | rfl | (simp; done) | (simp; omega), HB.out.2⟩
            · have d5 : decide ((mm : Int) ≤ (cc : Int)) = false := by simp; omega
              go_wp2_with fail
              go_round
              case rel => exact ⟨k + 1, by omega, by go_num, fun ⟨j, hj, h5⟩ => by
                            by_cases e : j = k
                            · rw [e, ← HCC.out] at h5; omega
                            · exact HNK.out ⟨j, by omega, h5⟩⟩
              case measure => simp [intOf]; omega
          · obtain rfl : k = 256 := by omega
            have hbq : bq = !(rowsB D n1) := by
              by_cases hro : ∃ i, i < n1 ∧ RowOff D i
              · rw [rowsB_yes hro]
                exact hno.out (fun h => h.rows (by rw [hl1]; exact hro))
              · rw [rowsB_no hro, HBQ.out]
                refine rightD_yes ⟨by omega, by omega, by rw [hl1, hl2]; exact HN.out, by rw [← HMD.out]; omega, by rw [← HMD.out]; omega, by rw [← HMD.out]; exact HNK.out, by rw [hl1]; exact hro⟩
            obtain ⟨rb, hrb⟩ : ∃ rb, rb = rowsB D n1 := ⟨_, rfl⟩
            rw [← hrb] at hbq HI21
            clear hrb
            subst hbq
            go_wp2_with fail
            refine HI21.out.mono ?_
            rintro e w' ⟨rfl, rfl⟩
            go_wp2_with fail
            go_returns
            exact ⟨by first | rfl | (simp; done) | (simp; omega), HB.out.2⟩
end Go.Proofs.Ytfjhcoeehjephaa.D8
/- The reference's Right. -/
namespace Go.Proofs.Ytfjhcoeehjephaa.D8
open Go.RowKit

set_option maxRecDepth 100000 in
set_option maxHeartbeats 8000000 in
theorem drright_any (ds : Array Value) (A1 A2 : Option Addr) (n1 n2 c1 c2 : Nat) (D : Dfa) (RA : Nat → Option Addr) (rc : Nat → Nat) (w : World) (h : DfaIn w ds A1 A2 n1 n2 c1 c2 D RA rc) :
    Calls Try.prog 12 #[.agg ds] w fun e w' => e = .returned (.bool (rightD D)) ∧ Below w.heap.size w w' := by
  have hb0 : Below w.heap.size w (w.alloc (.cells ds 30)) := (Below.refl _ _).alloc (Nat.le_refl _) _
  obtain ⟨q1, q2, hcl, -, -⟩ := kept_cell (w := w) (t := 30) (Below.refl _ _) h.cells
  have HCL := Lib.hid hcl
  have hl1 := h.next.len
  have hl2 := h.alen
  have hle1 := h.next.le
  have hle2 := h.ale
  have hclt := h.cells.lt
  obtain ⟨bq, hbq⟩ : ∃ bq, bq = rightD D := ⟨_, rfl⟩
  rw [← hbq]
  have HBQ := Lib.hid hbq
  clear hbq
  have hno : Hid (¬ RightD D → bq = false) := fun h => by rw [HBQ.out]; exact rightD_no h
  have HB := Lib.hid hb0
  have HC1 := Lib.hid (h.next.keep hb0)
  clear h hb0 hcl
  have hcase : n1 < 1 ∨ (1 ≤ n1 ∧ 400 < n1) ∨ (1 ≤ n1 ∧ n1 ≤ 400 ∧ n2 ≠ n1) ∨ (1 ≤ n1 ∧ n1 ≤ 400 ∧ n2 = n1) := by omega
  go_enter Try.func12, Try.ntmps12
  rcases hcase with h1 | ⟨h1, h2⟩ | ⟨h1, h2, h3⟩ | ⟨h1, h2, h3⟩
  · have hb : bq = false := hno.out (fun h => by have := h.lo; omega)
    subst hb
    go_wp2_with fail
    go_returns
    exact ⟨by first | rfl | (simp; done) | (simp; omega), HB.out⟩
  · have hb : bq = false := hno.out (fun h => by have := h.hi; omega)
    subst hb
    go_wp2_with fail
    go_returns
    exact ⟨by first | rfl | (simp; done) | (simp; omega), HB.out⟩
  · have hb : bq = false := hno.out (fun h => by have := h.alen; omega)
    subst hb
    have e1 : ((n2 : Int) != (n1 : Int)) = true := by simp; omega
    have d1 : decide ((n1 : Int) < 1) = false := by simp; omega
    have d2 : decide ((400 : Int) < (n1 : Int)) = false := by simp; omega
    go_wp2_with fail
    go_returns
    exact ⟨by first | rfl | (simp; done) | (simp; omega), HB.out⟩
  · have e1 : ((n2 : Int) != (n1 : Int)) = false := by simp [h3]
    have d1 : decide ((n1 : Int) < 1) = false := by simp; omega
    have d2 : decide ((400 : Int) < (n1 : Int)) = false := by simp; omega
    have HN := Lib.hid h3
    clear h3
    obtain ⟨b1, o1, rfl, _, hc1⟩ := HC1.out.arr.one (k := 0) (by omega)
    unfold RowC at hc1
    rw [Nat.add_zero] at hc1
    have hmm : (D.next.getD 0 []).length = D.many := rfl
    have hms := HC1.out.small 0 (by omega)
    rw [hmm] at hc1 hms
    obtain ⟨mm, hmd⟩ : ∃ mm, mm = D.many := ⟨_, rfl⟩
    rw [← hmd] at hc1 hms
    have HMD := Lib.hid hmd
    clear hmm hmd
    by_cases hm1 : mm < 1
    · have hb : bq = false := hno.out (fun h => by have := h.mlo; have := HMD.out; omega)
      subst hb
      have d3 : decide ((mm : Int) < 1) = true := by simp; omega
      go_wp2_with fail
      go_returns
      exact ⟨by first | rfl | (simp; done) | (simp; omega), HB.out⟩
    · have d3 : decide ((mm : Int) < 1) = false := by simp; omega
      by_cases hm2 : 256 < mm
      · have hb : bq = false := hno.out (fun h => by have := h.mhi; have := HMD.out; omega)
        subst hb
        have d4 : decide ((256 : Int) < (mm : Int)) = true := by simp; omega
        go_wp2_with fail
        go_returns
        exact ⟨by first | rfl | (simp; done) | (simp; omega), HB.out⟩
      · have d4 : decide ((256 : Int) < (mm : Int)) = false := by simp; omega
        go_wp2_with fail
        generalize w.alloc (.cells ds 30) = w1 at HB HC1 HCL q1 q2 hc1 ⊢
        go_loop [44] (fun i => ∃ k : Nat, k ≤ n1 ∧ i = .int .i64 k ∧ ¬ ∃ b, b < k ∧ RowOff D b) (fun i => n1 - (intOf i).toNat)
        case atStart => exact ⟨0, by omega, rfl, fun ⟨j, hj, _⟩ => absurd hj (by omega)⟩
        case round =>
          obtain ⟨k, hk, rfl, hnk⟩ := hrel
          have HNK := Lib.hid hnk
          clear hnk
          by_cases hlt : k < n1
          · obtain ⟨b1', o1', hA1, _, hck⟩ := HC1.out.arr.one (k := k) hlt
            simp only [Option.some.injEq, Addr.mk.injEq, and_true] at hA1
            obtain ⟨rfl, rfl⟩ := hA1
            unfold RowC at hck
            have hsm := HC1.out.small k hlt
            have HROW := Lib.hid (HC1.out.row k hlt)
            obtain ⟨rl, hrl⟩ : ∃ rl, rl = (D.next.getD k []).length := ⟨_, rfl⟩
            rw [← hrl] at hck hsm HROW
            have HRL := Lib.hid hrl
            clear hrl
            by_cases he : rl = mm
            · have d5 : ((rl : Int) != (mm : Int)) = false := by simp [he]
              have HE := Lib.hid he
              clear he
              go_wp2_with fail
              go_loop [58] (fun i => ∃ j : Nat, j ≤ rl ∧ i = .int .i64 j ∧ ¬ AnyOff (D.next.getD k []) n1 j) (fun i => rl - (intOf i).toNat)
              case atStart => exact ⟨0, by omega, rfl, fun ⟨j, hj, _⟩ => absurd hj (by omega)⟩
              case round =>
                obtain ⟨j, hj, rfl, hnj⟩ := hrel
                have HNJ := Lib.hid hnj
                clear hnj
                by_cases hlj : j < rl
                · obtain ⟨b3, o3, hRA, _, hc3⟩ := HROW.out.one hlj
                  unfold NumC at hc3
                  rw [hRA] at hck ⊢
                  obtain ⟨x, hx⟩ : ∃ x, x = (D.next.getD k []).getD j 0 := ⟨_, rfl⟩
                  rw [← hx] at hc3
                  have HX := Lib.hid hx
                  clear hx hRA
                  by_cases h5 : x < -1
                  · have d6 : decide (x < -1) = true := by simpa using h5
                    have hb : bq = false := hno.out (fun h => h.rows ⟨k, by omega, .inr ⟨j, by rw [← HRL.out]; exact hlj, .inl (by rw [← HX.out]; exact h5)⟩⟩)
                    subst hb
                    go_wp2_with fail
                    go_returns
                    exact ⟨by first | rfl | (simp; done) | (simp; omega), HB.out⟩
                  · have d6 : decide (x < -1) = false := by simpa using h5
                    by_cases h6 : (n1 : Int) ≤ x
                    · have d7 : decide ((n1 : Int) ≤ x) = true := by simpa using h6
                      have hb : bq = false := hno.out (fun h => h.rows ⟨k, by omega, .inr ⟨j, by rw [← HRL.out]; exact hlj, .inr (by rw [← HX.out, hl1]; exact h6)⟩⟩)
                      subst hb
                      go_wp2_with fail
                      go_returns
                      exact ⟨by first | rfl | (simp; done) | (simp; omega), HB.out⟩
                    · have d7 : decide ((n1 : Int) ≤ x) = false := by simpa using h6
                      go_wp2_with fail
                      go_round
                      case rel => exact ⟨j + 1, by omega, by go_num, fun ⟨i, hi, h9⟩ => by
                                    by_cases e : i = j
                                    · rw [e, ← HX.out] at h9; omega
                                    · exact HNJ.out ⟨i, by omega, h9⟩⟩
                      case measure => simp [intOf]; omega
                · obtain rfl : j = rl := by omega
                  go_wp2_with fail
                  go_round
                  case rel => exact ⟨k + 1, by omega, by go_num, fun ⟨i, hi, h9⟩ => by
                                by_cases e : i = k
                                · subst e
                                  rcases h9 with h9 | h9
                                  · rw [← HRL.out, ← HMD.out] at h9; exact h9 HE.out
                                  · rw [← HRL.out, hl1] at h9; exact HNJ.out h9
                                · exact HNK.out ⟨i, by omega, h9⟩⟩
                  case measure => simp [intOf]; omega
            · have d5 : ((rl : Int) != (mm : Int)) = true := by simp; omega
              have hb : bq = false := hno.out (fun h => h.rows ⟨k, by omega, .inl (by rw [← HRL.out, ← HMD.out]; exact he)⟩)
              subst hb
              clear he
              go_wp2_with fail
              go_returns
              exact ⟨by first | rfl | (simp; done) | (simp; omega), HB.out⟩
          · obtain rfl : k = n1 := by omega
            go_wp2_with fail
            go_loopw [8] (fun i wr => ∃ b mq : Nat, b ≤ 256 ∧ i = .int .i64 b ∧ wr = w1.drewN mq ∧ ¬ ∃ c, c < b ∧ mm ≤ D.cls c) (fun i _ => 256 - (intOf i).toNat)
            case atStart => exact ⟨0, 0, by omega, rfl, rfl, fun ⟨j, hj, _⟩ => absurd hj (by omega)⟩
            case round =>
              obtain ⟨b, mq, hb, rfl, rfl, hnb⟩ := hrel
              have HNB := Lib.hid hnb
              clear hnb
              by_cases hlb : b < 256
              · have hix := HCL.out b hlb
                have hcl := hclt b hlb
                obtain ⟨cc, hcc⟩ : ∃ cc, cc = D.cls b := ⟨_, rfl⟩
                rw [← hcc] at hix hcl
                have HCC := Lib.hid hcc
                have hxb : (b : Int) < 256 := by omega
                clear hcc
                by_cases hbig : mm ≤ cc
                · have d5 : decide ((mm : Int) ≤ (cc : Int)) = true := by simp; omega
                  have hb : bq = false := hno.out (fun h => h.cls ⟨b, hlb, by rw [← HMD.out, ← HCC.out]; exact hbig⟩)
                  subst hb
                  go_wp2_with fail
                  go_quiet (fail)
                  go_wp2_with fail
                  go_returns
                  exact ⟨by first | rfl | (simp; done) | (simp; omega), below_drewN (below_drewN HB.out _) _⟩
                · have d5 : decide ((mm : Int) ≤ (cc : Int)) = false := by simp; omega
                  go_wp2_with fail
                  go_quiet (fail)
                  go_wp2_with fail
                  go_roundw
                  case rel => exact ⟨b + 1, mq + nq, by omega, by go_num, by first | rfl | trivial, fun ⟨j, hj, h5⟩ => by
                                by_cases e : j = b
                                · rw [e, ← HCC.out] at h5; omega
                                · exact HNB.out ⟨j, by omega, h5⟩⟩
                  case measure => simp [intOf]; omega
              · obtain rfl : b = 256 := by omega
                have hb : bq = true := by
                  rw [HBQ.out]
                  exact rightD_yes ⟨by omega, by omega, by rw [hl1, hl2]; exact HN.out, by rw [← HMD.out]; omega, by rw [← HMD.out]; omega, by rw [← HMD.out]; exact HNB.out, by rw [hl1]; exact HNK.out⟩
                subst hb
                go_wp2_with fail
                go_returns
                exact ⟨by first | rfl | (simp; done) | (simp; omega), below_drewN HB.out _⟩
end Go.Proofs.Ytfjhcoeehjephaa.D8
/- The places at which an automaton takes: plain. -/
namespace Go.Proofs.Ytfjhcoeehjephaa.D8

abbrev Bs := List UInt8
def nextD (D : Dfa) (st : Nat) (c : UInt8) : Int := (D.next.getD st []).getD (D.cls c.toNat) 0
def here (D : Dfa) (st at' : Nat) : List Int := if D.acc.getD st false = true then [(at' : Int)] else []
def endsF (D : Dfa) : Bs → Nat → Nat → List Int
  | [], st, a => here D st a
  | c :: t, st, a => here D st a ++ if nextD D st c < 0 then [] else endsF D t (nextD D st c).toNat (a + 1)
theorem here_len (D : Dfa) (st a : Nat) : (here D st a).length ≤ 1 := by unfold here; split <;> simp
theorem endsF_len (D : Dfa) : ∀ (t : Bs) (st a : Nat), (endsF D t st a).length ≤ t.length + 1
  | [], st, a => here_len D st a
  | c :: t, st, a => by
    have h1 := here_len D st a
    unfold endsF
    split
    · simp; omega
    · have := endsF_len D t (nextD D st c).toNat (a + 1)
      simp; omega
open Classical in
/-- what it takes from a place of a text on; nothing, if it may not be, or the place is none -/
noncomputable def endsR (D : Dfa) (s : ByteArray) (x : Int) : List Int := if RightD D ∧ 0 ≤ x ∧ x ≤ (s.size : Int) then endsF D (s.data.toList.drop x.toNat) 0 x.toNat else []
theorem endsR_no {D : Dfa} {s : ByteArray} {x : Int} (h : ¬ (RightD D ∧ 0 ≤ x ∧ x ≤ (s.size : Int))) : endsR D s x = [] := by unfold endsR; rw [if_neg h]
theorem endsR_yes {D : Dfa} {s : ByteArray} {k : Nat} (h : RightD D) (hk : k ≤ s.size) : endsR D s (k : Int) = endsF D (s.data.toList.drop k) 0 k := by unfold endsR; rw [if_pos ⟨h, by omega, by omega⟩]; rfl
theorem size_data (s : ByteArray) : s.data.toList.length = s.size := Array.length_toList
theorem endsR_len (D : Dfa) (s : ByteArray) (x : Int) : (endsR D s x).length ≤ s.size + 1 := by
  unfold endsR
  split
  · have := endsF_len D (s.data.toList.drop x.toNat) 0 x.toNat
    rw [List.length_drop, size_data] at this
    omega
  · simp
/-- at a state of one that may be: its row, and where a byte goes -/
theorem state_row {D : Dfa} (h : RightD D) {st : Nat} (hs : st < D.next.length) : (D.next.getD st []).length = D.many := by
  apply Classical.byContradiction
  intro h9
  exact h.rows ⟨st, hs, .inl h9⟩
theorem state_next {D : Dfa} (h : RightD D) {st : Nat} (hs : st < D.next.length) (c : UInt8) : D.cls c.toNat < D.many ∧ -1 ≤ nextD D st c ∧ nextD D st c < D.next.length := by
  have h1 : D.cls c.toNat < D.many := by
    apply Classical.byContradiction
    intro h9
    exact h.cls ⟨c.toNat, c.toNat_lt, by omega⟩
  have h2 := state_row h hs
  refine ⟨h1, ?_⟩
  apply Classical.byContradiction
  intro h9
  refine h.rows ⟨st, hs, .inr ⟨D.cls c.toNat, by rw [h2]; exact h1, ?_⟩⟩
  unfold nextD at h9
  omega
end Go.Proofs.Ytfjhcoeehjephaa.D8
