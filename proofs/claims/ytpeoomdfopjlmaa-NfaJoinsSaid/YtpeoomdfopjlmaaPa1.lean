/- The maker's part: given up; a set. -/
import Derived.Test.YtpeoomdfopjlmaaMkF
import Derived.Deep.Cut
import Derived.Deep.CutRange
import Derived.Deep.CutBlock
import Derived.Deep.DrawnRows
import Derived.Deep.RegionLaw
namespace Go.Proofs.Ytpeoomdfopjlmaa
open Go.RowKit
attribute [local go_sem ↓] Go.wp_at_zero Go.wp_at_succ

/-- what part says of a tree -/
def PartAt (t : Tr) : Prop := ∀ (w0 : World) (p S : Nat) (a z : Int) (E : List Ed) (v : Value) (W : World) (f o : Nat) (A : Option Addr) (n c : Nat),
  MI w0 p S a z E false v W → TrIn w0 t A n → Shp t → TrWf t → f < S → o < S → f ≠ o → S ≤ 2000 → E.length + 4 * (t.nodes * (2001 - S)) ≤ 1000000000 →
  Calls Try.prog 19 #[.pointer (some ⟨p, 0, none⟩), .agg #[.int .i64 t.kind, .int .u64 t.s0, .int .u64 t.s1, .int .u64 t.s2, .int .u64 t.s3, .int .i64 t.lo, .int .i64 t.hi, .slice A n c], .int .i64 (f : Int), .int .i64 (o : Int)] W fun e W' =>
    e = .returned (.tuple #[]) ∧ ∃ S' E' b v', Grew t f o S E S' E' b ∧ MI w0 p S' a z E' b v' W' ∧ Went p v v' W W'
theorem Went.drew {p : Nat} {v v' : Value} {w w' : World} (h : Went p v v' w w') : Went p v v' w w'.drew := ⟨h.size, h.same, h.row⟩
theorem Went.allocd {p : Nat} {v v' : Value} {w w' : World} (h : Went p v v' w w') (o : Obj) : Went p v v' w (w'.alloc o) := h.trans (Went.alloc _ _)
abbrev tbox (t : Tr) (A : Option Addr) (n c : Nat) : Obj := .cells #[.int .i64 t.kind, .int .u64 t.s0, .int .u64 t.s1, .int .u64 t.s2, .int .u64 t.s3, .int .i64 t.lo, .int .i64 t.hi, .slice A n c] 28

set_option maxRecDepth 100000 in
theorem part_bad (t : Tr) (w0 : World) (p S : Nat) (a z : Int) (E : List Ed) (v : Value) (W : World) (f o : Int) (A : Option Addr) (n c : Nat) (h : MI w0 p S a z E true v W) :
    Calls Try.prog 19 #[.pointer (some ⟨p, 0, none⟩), .agg #[.int .i64 t.kind, .int .u64 t.s0, .int .u64 t.s1, .int .u64 t.s2, .int .u64 t.s3, .int .i64 t.lo, .int .i64 t.hi, .slice A n c], .int .i64 f, .int .i64 o] W fun e W' =>
      e = .returned (.tuple #[]) ∧ MI w0 p S a z E true v W' ∧ Went p v v W W' := by
  have H := Lib.hid h
  have c4 := (h.alloc (tbox t A n c)).blk.cell 4
  simp only [List.getElem?_cons_zero, List.getElem?_cons_succ] at c4
  clear h
  go_enter Try.func19, Try.ntmps19
  go_wp2_with fail
  go_returns
  exact ⟨by first | rfl | simp, H.out.alloc _, Went.alloc _ _⟩

set_option maxRecDepth 100000 in
set_option maxHeartbeats 16000000 in
theorem part_set (t : Tr) (hk : t.kind = 1) : PartAt t := by
  intro w0 p S a z E v W f o A n c h ht hsh hwf hf ho hfo hS hE
  obtain ⟨i55, hi55, hp55⟩ := Option.map_eq_some_iff.1 info44
  have hz7 : i55.zero.map (fun z => z.cells.size) = some 7 := congrArg Prod.fst hp55
  obtain ⟨z55, hz55, hzc⟩ := Option.map_eq_some_iff.1 hz7
  have hsz55 : i55.size = 7 := congrArg (fun x => x.2.1) hp55
  have hbt55 : i55.bytes = 56 := congrArg (fun x => x.2.2) hp55
  have hgr := Lib.hid (grew_set hk hwf hfo hS (E := E))
  have e1 : (t.kind == 1) = true := by simpa using hk
  have hEl : E.length ≤ 1000000000 := by omega
  obtain ⟨W1, hW1⟩ : ∃ W1, W1 = W.alloc (tbox t A n c) := ⟨_, rfl⟩
  have h1 := h.alloc (tbox t A n c)
  have q0 : (W.alloc (tbox t A n c)).cell? ⟨W.heap.size, 0, none⟩ = some (.int .i64 t.kind) := by simp
  have q1 : (W.alloc (tbox t A n c)).cell? ⟨W.heap.size, 1, none⟩ = some (.int .u64 t.s0) := by simp
  have q2 : (W.alloc (tbox t A n c)).cell? ⟨W.heap.size, 2, none⟩ = some (.int .u64 t.s1) := by simp
  have q3 : (W.alloc (tbox t A n c)).cell? ⟨W.heap.size, 3, none⟩ = some (.int .u64 t.s2) := by simp
  have q4 : (W.alloc (tbox t A n c)).cell? ⟨W.heap.size, 4, none⟩ = some (.int .u64 t.s3) := by simp
  have hwn := Lib.hid (Went.alloc (p := p) (v := v) W (tbox t A n c))
  have hlt1 : W.heap.size < (W.alloc (tbox t A n c)).heap.size := by simp
  rw [← hW1] at h1 q0 q1 q2 q3 q4 hwn hlt1
  have hpl := h1.lt
  have c3 := h1.blk.cell 3
  have c4 := h1.blk.cell 4
  have c1 := h1.blk.frozen 3
  simp only [List.getElem?_cons_zero, List.getElem?_cons_succ] at c3 c4
  obtain ⟨m, hm⟩ : ∃ m, m = E.length := ⟨_, rfl⟩
  rw [← hm] at hEl
  have HN := Lib.hid hm
  have H := Lib.hid h1
  have HW1 := Lib.hid hW1
  have HEL := Lib.hid hEl
  clear hk h ht hsh hwf hf ho hfo hE hEl hm h1 hp55 hz7
  go_enter Try.func19, Try.ntmps19
  go_upto_region 1 with (fail)
  rw [← HW1.out]
  clear HW1 hW1
  go_upto_region 5 with (fail)
  have c3a : (W1.alloc (.cells #[.int .i64 (f : Int), .int .i64 (o : Int), .bool false, .int .u64 t.s0, .int .u64 t.s1, .int .u64 t.s2, .int .u64 t.s3] 55)).cell? ⟨p, 3, none⟩ = some v := (World.cell?_alloc_lt _ _ _ hpl).trans c3
  have y4 : ∀ u ∈ edV (setE t f o), u.oneCell' = true := by intro u hu; simp [edV] at hu; rcases hu with rfl | rfl | rfl | rfl | rfl | rfl | rfl <;> rfl
  have HY := Lib.hid y4
  clear y4
  go_region_law (first
    | (refine step_append_lies _ rfl (.tmp 31) (.tmp 37) 29 rfl (p + 1) 55 i55 z55 7 56 Try.underlying29 hi55 hz55 hsz55 hbt55 hzc (by omega) v m (edsV E) (by rfl) ?_ ⟨_, 0, none⟩ 1 1 (edV (setE t f o)) (by rfl) rfl ?_ HY.out (by omega) (by have := HEL.out; unfold maxLen; omega) (by have := HEL.out; omega) ?_ _ rfl ?_
       · have h9 := H.out.own
         rw [← HN.out] at h9
         repeat first | exact h9 | refine World.ownsRow.drew ?_ | refine World.ownsRow.alloc ?_ _
       · exact World.news_of_block (heap_alloc_new _ _)
       · have := H.out.lt
         simp <;> omega
       intro g5 c5 w5 hown5 hgrow5 hat5 hlt5
       have hm5 := MI.app (v' := .slice (some ⟨g5, 0, none⟩) (m + 1) c5) (w0 := w0) (p := p) (S := S) (a := a) (z := z) (E := E) (bad := false) (e := setE t f o) (by repeat first | exact H.out | refine MI.drew ?_ | refine MI.alloc ?_ _) hgrow5 (by rw [← HN.out]; exact hown5) (hat5.imp (fun h => h.symm) (fun h => congrArg some h))
       have hb9 := MI.grown_blk (w0 := w0) (p := p) (S := S) (a := a) (z := z) (E := E) (bad := false) (by repeat first | exact H.out | refine MI.drew ?_ | refine MI.alloc ?_ _) hgrow5
       have d3 := hb9.cell 3
       have d4 := hb9.frozen 3
       simp only [List.getElem?_cons_zero, List.getElem?_cons_succ] at d3
       have HM := Lib.hid (And.intro hm5.1 (Went.trans (w := W1) (v := v) (by repeat first | exact Went.refl _ _ _ | refine Went.drew ?_ | refine Went.allocd ?_ _) hm5.2))
       clear hm5 hb9 hown5 hgrow5 hat5 hlt5))
  all_goals
    go_wp2_with fail
    go_returns
    exact ⟨by first | rfl | simp, S, _, false, _, hgr.out, HM.out.1, hwn.out.trans HM.out.2⟩
end Go.Proofs.Ytpeoomdfopjlmaa
