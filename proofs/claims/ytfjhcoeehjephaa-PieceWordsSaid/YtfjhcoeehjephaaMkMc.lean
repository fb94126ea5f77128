/- Mk, MkF, Pa1, Pa2 of this seat, in one text. -/
import Derived.Test.YtfjhcoeehjephaaLangMc
import Derived.Test.YtfjhcoeehjephaaLeavingMc
import Derived.Maps.AppendAt
import Derived.OwnWalk
import Derived.Deep.Cut
import Derived.Deep.CutRange
import Derived.Deep.CutBlock
import Derived.Deep.DrawnRows
import Derived.Deep.RegionLaw
/- The maker in memory; state and free. -/
namespace Go.Proofs.Ytfjhcoeehjephaa
open Go.RowKit

structure MI (w0 : World) (p : Nat) (S : Nat) (a z : Int) (E : List Ed) (bad : Bool) (v : Value) (W : World) : Prop where
  blk : Blk W p 88 [.int .i64 (S : Int), .int .i64 a, .int .i64 z, v, .bool bad]
  own : W.ownsRow (p + 1) 70 7 v E.length (edsV E)
  bel : Below w0.heap.size w0 W
  p0 : w0.heap.size ≤ p
/-- what stays: all elder blocks but the maker's and its row's -/
structure Went (p : Nat) (v v' : Value) (w w' : World) : Prop where
  size : w.heap.size ≤ w'.heap.size
  same : ∀ b, b < w.heap.size → b ≠ p → v.ownBlock ≠ some b → w'.heap[b]? = w.heap[b]?
  row : ∀ b, v'.ownBlock = some b → v.ownBlock = some b ∨ w.heap.size ≤ b
theorem Went.refl (p : Nat) (v : Value) (w : World) : Went p v v w w := ⟨Nat.le_refl _, fun _ _ _ _ => rfl, fun _ h => .inl h⟩
theorem Went.trans {p : Nat} {v v' v2 : Value} {w w' w2 : World} (h : Went p v v' w w') (k : Went p v' v2 w' w2) : Went p v v2 w w2 :=
  ⟨Nat.le_trans h.size k.size, fun b hb hp hv => (k.same b (Nat.lt_of_lt_of_le hb h.size) hp (fun e => by
    rcases h.row b e with h9 | h9
    · exact hv h9
    · omega)).trans (h.same b hb hp hv), fun b e => by
    rcases k.row b e with h9 | h9
    · exact h.row b h9
    · exact .inr (Nat.le_trans h.size h9)⟩
theorem Went.alloc {p : Nat} {v : Value} (w : World) (o : Obj) : Went p v v w (w.alloc o) :=
  ⟨by simp, fun b hb _ _ => Below.heap_alloc w o b hb, fun _ h => .inl h⟩
/-- a block of the call's own -/
theorem Went.blk {p : Nat} {v v' : Value} {w w' : World} (h : Went p v v' w w') {g : Nat} {t : TypeId} {cur : List Value} (hb : Blk w g t cur) (hp : g ≠ p) (hv : v.ownBlock ≠ some g) : Blk w' g t cur := (h.same g hb.lt hp hv).trans hb
section
variable {w0 W W' : World} {p S : Nat} {a z : Int} {E : List Ed} {bad : Bool} {v v' : Value}
theorem MI.lt (h : MI w0 p S a z E bad v W) : p < W.heap.size := h.blk.lt
theorem MI.alloc (h : MI w0 p S a z E bad v W) (o : Obj) : MI w0 p S a z E bad v (W.alloc o) := ⟨h.blk.alloc o, h.own.alloc o, h.bel.alloc (Nat.le_trans h.p0 (Nat.le_of_lt h.lt)) o, h.p0⟩
theorem MI.drew (h : MI w0 p S a z E bad v W) : MI w0 p S a z E bad v W.drew := ⟨h.blk, h.own.drew, h.bel.drew, h.p0⟩
theorem MI.row_lt (h : MI w0 p S a z E bad v W) {b : Nat} (hb : v.ownBlock = some b) : p + 1 ≤ b ∧ b < W.heap.size := h.own.lt b hb
theorem MI.form (h : MI w0 p S a z E bad v W) : ∃ A c, v = .slice A E.length c := by
  rcases h.own.2 with ⟨h1, h2⟩ | ⟨g, cap, cur, h1, _⟩
  · exact ⟨none, 0, by rw [h1, h2]⟩
  · exact ⟨_, _, h1⟩
theorem own_sl {W : World} {base n : Nat} {e : TypeId} {size : Nat} {v : Value} {xs : List Value} (h : W.ownsRow base e size v n xs) : ∃ A c, v = .slice A n c := by
  rcases h.2 with ⟨h1, h2⟩ | ⟨g, cap, cur, h1, _⟩
  · exact ⟨none, 0, by rw [h1, h2]⟩
  · exact ⟨_, _, h1⟩
/-- a cell of the maker is stored to -/
theorem MI.set (h : MI w0 p S a z E bad v W) (k : Nat) (x : Value) (S2 : Nat) (a2 z2 : Int) (bad2 : Bool) (he : [Value.int .i64 (S : Int), .int .i64 a, .int .i64 z, v, .bool bad].set k x = [.int .i64 (S2 : Int), .int .i64 a2, .int .i64 z2, v, .bool bad2]) :
    MI w0 p S2 a2 z2 E bad2 v (W.setCell ⟨p, k, none⟩ x) ∧ Went p v v W (W.setCell ⟨p, k, none⟩ x) := by
  have hne : ∀ b, b ≠ p → (W.setCell ⟨p, k, none⟩ x).heap[b]? = W.heap[b]? := fun b hb => Below.heap_setCell _ _ _ b (by simpa using hb)
  have hsz : (W.setCell ⟨p, k, none⟩ x).heap.size = W.heap.size := by show (W.heap.modify p _).size = _; simp
  refine ⟨⟨?_, ?_, h.bel.setCell (p := ⟨p, k, none⟩) h.p0 _, h.p0⟩, by omega, fun b _ hp _ => hne b hp, fun b e => .inl e⟩
  · have := h.blk.set k x
    rwa [he] at this
  · have hg : W.grownBy (W.setCell ⟨p, k, none⟩ x) (some p) := ⟨rfl, rfl, rfl, by omega, fun b _ hb => hne b (fun e => hb (by rw [e]))⟩
    refine h.own.kept hg ?_
    cases hv : v.ownBlock with
    | none => left; rfl
    | some b => right; exact fun e => by have := (h.row_lt hv).1; cases e; omega
/-- an edge more -/
theorem MI.app (h : MI w0 p S a z E bad v W) {e : Ed} (hg : W.grownBy W' v.ownBlock) (hown : W'.ownsRow (p + 1) 70 7 v' (E.length + 1) (edsV E ++ edV e)) (hat : v'.ownBlock = v.ownBlock ∨ v'.ownBlock = some W.heap.size) :
    MI w0 p S a z (E ++ [e]) bad v' (W'.setCell ⟨p, 3, none⟩ v') ∧ Went p v v' W (W'.setCell ⟨p, 3, none⟩ v') := by
  have hpr : v.ownBlock ≠ some p := fun e => by have := (h.row_lt e).1; omega
  have hblk : Blk W' p 88 [.int .i64 (S : Int), .int .i64 a, .int .i64 z, v, .bool bad] := h.blk.same (hg.block p h.lt (fun e => hpr e.symm))
  have hne : ∀ b, b ≠ p → (W'.setCell ⟨p, 3, none⟩ v').heap[b]? = W'.heap[b]? := fun b hb => Below.heap_setCell _ _ _ b (by simpa using hb)
  have hsz : (W'.setCell ⟨p, 3, none⟩ v').heap.size = W'.heap.size := by show (W'.heap.modify p _).size = _; simp
  have hg2 : W'.grownBy (W'.setCell ⟨p, 3, none⟩ v') (some p) := ⟨rfl, rfl, rfl, by omega, fun b _ hb => hne b (fun e => hb (by rw [e]))⟩
  have hbl : Below w0.heap.size w0 W' := h.bel.grown hg (Nat.le_trans h.p0 (Nat.le_of_lt h.lt)) (fun k hk => by have := (h.row_lt hk).1; have := h.p0; omega)
  refine ⟨⟨?_, ?_, hbl.setCell (p := ⟨p, 3, none⟩) h.p0 _, h.p0⟩, by have := hg.size; omega, fun b hb hp hv => (hne b hp).trans (hg.block b hb (fun e => hv e.symm)), fun b e => ?_⟩
  · exact hblk.set 3 v'
  · rw [edsV_snoc, List.length_append]
    refine hown.kept hg2 ?_
    cases hv : v'.ownBlock with
    | none => left; rfl
    | some b => right; exact fun e => by have := (hown.lt b hv).1; cases e; omega
  · rcases hat with h9 | h9
    · exact .inl (h9 ▸ e)
    · rw [h9] at e; cases e; exact .inr (Nat.le_refl _)
end

set_option maxRecDepth 100000 in
theorem state_any (w0 : World) (p S : Nat) (a z : Int) (E : List Ed) (v : Value) (W : World) (bad : Bool) (h : MI w0 p S a z E bad v W) (hS : S < 2000) :
    Calls Try.prog 46 #[.pointer (some ⟨p, 0, none⟩)] W fun e W' => e = .returned (.int .i64 (S : Int)) ∧ MI w0 p (S + 1) a z E bad v W' ∧ Went p v v W W' := by
  have H := Lib.hid (h.set 0 (.int .i64 ((S + 1 : Nat) : Int)) (S + 1) a z bad rfl)
  have c0 := h.blk.cell 0
  have c1 := h.blk.frozen 0
  have d1 : decide (2000 ≤ (S : Int)) = false := by simp; omega
  have hlt := h.lt
  have he : ((S + 1 : Nat) : Int) = (S : Int) + 1 := by omega
  rw [he] at H
  simp only [List.getElem?_cons_zero] at c0
  clear h he
  go_enter Try.func46, Try.ntmps46
  go_wp2_with fail
  go_returns
  exact ⟨by first | rfl | simp, H.out.1, H.out.2⟩
set_option maxRecDepth 100000 in
theorem state_full (w0 : World) (p S : Nat) (a z : Int) (E : List Ed) (v : Value) (W : World) (bad : Bool) (h : MI w0 p S a z E bad v W) (hS : S = 2000) :
    Calls Try.prog 46 #[.pointer (some ⟨p, 0, none⟩)] W fun e W' => e = .returned (.int .i64 0) ∧ MI w0 p S a z E true v W' ∧ Went p v v W W' := by
  have H := Lib.hid (h.set 4 (.bool true) S a z true rfl)
  have c0 := h.blk.cell 0
  have c4 := h.blk.cell 4
  have c1 := h.blk.frozen 4
  have d1 : decide (2000 ≤ (S : Int)) = true := by simp; omega
  have hlt := h.lt
  simp only [List.getElem?_cons_zero, List.getElem?_cons_succ] at c0 c4
  clear h
  go_enter Try.func46, Try.ntmps46
  go_wp2_with fail
  go_returns
  exact ⟨by first | rfl | simp, H.out.1, H.out.2⟩
end Go.Proofs.Ytfjhcoeehjephaa
/- The maker's free. -/
namespace Go.Proofs.Ytfjhcoeehjephaa
open Go.RowKit

theorem MI.grown_blk {w0 W W' : World} {p S : Nat} {a z : Int} {E : List Ed} {bad : Bool} {v : Value} (h : MI w0 p S a z E bad v W) (hg : W.grownBy W' v.ownBlock) : Blk W' p 88 [.int .i64 (S : Int), .int .i64 a, .int .i64 z, v, .bool bad] :=
  h.blk.same (hg.block p h.lt (fun e => by have := (h.row_lt e.symm).1; omega))

set_option maxRecDepth 100000 in
set_option maxHeartbeats 4000000 in
theorem free_any (w0 : World) (p S : Nat) (a z : Int) (E : List Ed) (v : Value) (W : World) (bad : Bool) (f o : Int) (h : MI w0 p S a z E bad v W) (hE : E.length ≤ 1000000000) :
    Calls Try.prog 70 #[.pointer (some ⟨p, 0, none⟩), .int .i64 f, .int .i64 o] W fun e W' => e = .returned (.tuple #[]) ∧ ∃ v', MI w0 p S a z (E ++ [freeE f o]) bad v' W' ∧ Went p v v' W W' := by
  obtain ⟨i55, hi55, hp55⟩ := Option.map_eq_some_iff.1 info44
  have hz7 : i55.zero.map (fun z => z.cells.size) = some 7 := congrArg Prod.fst hp55
  obtain ⟨z55, hz55, hzc⟩ := Option.map_eq_some_iff.1 hz7
  have hsz55 : i55.size = 7 := congrArg (fun x => x.2.1) hp55
  have hbt55 : i55.bytes = 56 := congrArg (fun x => x.2.2) hp55
  obtain ⟨A, c, rfl⟩ := h.form
  have c3 := h.blk.cell 3
  have c1 := h.blk.frozen 3
  simp only [List.getElem?_cons_zero, List.getElem?_cons_succ] at c3
  have hlt := h.lt
  obtain ⟨n, hn⟩ : ∃ n, n = E.length := ⟨_, rfl⟩
  have HE := Lib.hid (show n ≤ 1000000000 by omega)
  rw [← hn] at c3 h ⊢
  have HN := Lib.hid hn
  have H := Lib.hid h
  have HNEW := Lib.hid (show ∀ j u, (edV (freeE f o))[j]? = some u → (W.alloc (.cells #[.int .i64 f, .int .i64 o, .bool true, .int .u64 0, .int .u64 0, .int .u64 0, .int .u64 0] 70)).cell? ((⟨W.heap.size, 0, none⟩ : Addr).add j) = some u from World.news_of_block (cs := #[.int .i64 f, .int .i64 o, .bool true, .int .u64 0, .int .u64 0, .int .u64 0, .int .u64 0]) (heap_alloc_new _ _))
  have y4 : ∀ u ∈ edV (freeE f o), u.oneCell' = true := by intro u hu; simp [edV] at hu; rcases hu with rfl | rfl | rfl | rfl | rfl | rfl | rfl <;> rfl
  have HY := Lib.hid y4
  clear h hn y4 hE hp55 hz7
  go_enter Try.func70, Try.ntmps70
  go_wp2_with (first
    | (at_builtin
       refine wpList_append_own_at _ rfl (.tmp 11) (.tmp 15) 22 rfl (p + 1) 70 i55 z55 7 56 Try.underlying22 hi55 hz55 hsz55 hbt55 hzc (by omega) (.slice A n c) n (edsV E) rfl (by have h9 := (H.out.alloc (.cells #[.int .i64 f, .int .i64 o, .bool true, .int .u64 0, .int .u64 0, .int .u64 0, .int .u64 0] 70)).own; rw [← HN.out] at h9; exact h9) ⟨_, 0, none⟩ 1 1 (edV (freeE f o)) rfl rfl HNEW.out HY.out (by have := HE.out; unfold maxLen; omega) (by have := HE.out; omega) (by have := H.out.lt; simp; omega) ?_
       intro v' w' h2 h3 h4 h5
       obtain ⟨A', c', rfl⟩ := own_sl h2
       have hm := MI.app (e := freeE f o) (H.out.alloc (.cells #[.int .i64 f, .int .i64 o, .bool true, .int .u64 0, .int .u64 0, .int .u64 0, .int .u64 0] 70)) h3 (by rw [← HN.out]; exact h2) h5
       have hb9 := (H.out.alloc (.cells #[.int .i64 f, .int .i64 o, .bool true, .int .u64 0, .int .u64 0, .int .u64 0, .int .u64 0] 70)).grown_blk h3
       have d3 := hb9.cell 3
       have d4 := hb9.frozen 3
       simp only [List.getElem?_cons_zero, List.getElem?_cons_succ] at d3
       have HM := Lib.hid hm
       clear hm hb9 h2 h3 h4 h5))
  go_returns
  exact ⟨by first | rfl | simp, _, HM.out.1, (Went.alloc _ _).trans HM.out.2⟩
end Go.Proofs.Ytfjhcoeehjephaa
/- The maker's part: given up; a set. -/
namespace Go.Proofs.Ytfjhcoeehjephaa
open Go.RowKit
attribute [local go_sem ↓] Go.wp_at_zero Go.wp_at_succ

/-- what part says of a tree -/
def PartAt (t : Tr) : Prop := ∀ (w0 : World) (p S : Nat) (a z : Int) (E : List Ed) (v : Value) (W : World) (f o : Nat) (A : Option Addr) (n c : Nat),
  MI w0 p S a z E false v W → TrIn w0 t A n → Shp t → TrWf t → f < S → o < S → f ≠ o → S ≤ 2000 → E.length + 4 * (t.nodes * (2001 - S)) ≤ 1000000000 →
  Calls Try.prog 47 #[.pointer (some ⟨p, 0, none⟩), .agg #[.int .i64 t.kind, .int .u64 t.s0, .int .u64 t.s1, .int .u64 t.s2, .int .u64 t.s3, .int .i64 t.lo, .int .i64 t.hi, .slice A n c], .int .i64 (f : Int), .int .i64 (o : Int)] W fun e W' =>
    e = .returned (.tuple #[]) ∧ ∃ S' E' b v', Grew t f o S E S' E' b ∧ MI w0 p S' a z E' b v' W' ∧ Went p v v' W W'
theorem Went.drew {p : Nat} {v v' : Value} {w w' : World} (h : Went p v v' w w') : Went p v v' w w'.drew := ⟨h.size, h.same, h.row⟩
theorem Went.allocd {p : Nat} {v v' : Value} {w w' : World} (h : Went p v v' w w') (o : Obj) : Went p v v' w (w'.alloc o) := h.trans (Went.alloc _ _)
abbrev tbox (t : Tr) (A : Option Addr) (n c : Nat) : Obj := .cells #[.int .i64 t.kind, .int .u64 t.s0, .int .u64 t.s1, .int .u64 t.s2, .int .u64 t.s3, .int .i64 t.lo, .int .i64 t.hi, .slice A n c] 49

set_option maxRecDepth 100000 in
theorem part_bad (t : Tr) (w0 : World) (p S : Nat) (a z : Int) (E : List Ed) (v : Value) (W : World) (f o : Int) (A : Option Addr) (n c : Nat) (h : MI w0 p S a z E true v W) :
    Calls Try.prog 47 #[.pointer (some ⟨p, 0, none⟩), .agg #[.int .i64 t.kind, .int .u64 t.s0, .int .u64 t.s1, .int .u64 t.s2, .int .u64 t.s3, .int .i64 t.lo, .int .i64 t.hi, .slice A n c], .int .i64 f, .int .i64 o] W fun e W' =>
      e = .returned (.tuple #[]) ∧ MI w0 p S a z E true v W' ∧ Went p v v W W' := by
  have H := Lib.hid h
  have c4 := (h.alloc (tbox t A n c)).blk.cell 4
  simp only [List.getElem?_cons_zero, List.getElem?_cons_succ] at c4
  clear h
  go_enter Try.func47, Try.ntmps47
  go_wp2_with fail
  go_returns
  exact ⟨by first | rfl | simp, H.out.alloc _, Went.alloc _ _⟩

set_option maxRecDepth 100000 in
set_option maxHeartbeats 16000000 in
theorem part_set (t : Tr) (hk : t.kind = 1) : PartAt t := by
  intro w0 p S a z E v W f o A n c h ht hsh hwf hf ho hfo hS hE
  obtain ⟨i55, hi55, hp55⟩ := Option.map_eq_some_iff.1 info44
  have hz7 : i55.zero.map (fun z => z.cells.size) = some 7 := congrArg Prod.fst hp55
  obtain ⟨z55, hz55, hzc⟩ := Option.map_eq_some_iff.1 hz7
  have hsz55 : i55.size = 7 := congrArg (fun x => x.2.1) hp55
  have hbt55 : i55.bytes = 56 := congrArg (fun x => x.2.2) hp55
  have hgr := Lib.hid (grew_set hk hwf hfo hS (E := E))
  have e1 : (t.kind == 1) = true := by simpa using hk
  have hEl : E.length ≤ 1000000000 := by omega
  obtain ⟨W1, hW1⟩ : ∃ W1, W1 = W.alloc (tbox t A n c) := ⟨_, rfl⟩
  have h1 := h.alloc (tbox t A n c)
  have q0 : (W.alloc (tbox t A n c)).cell? ⟨W.heap.size, 0, none⟩ = some (.int .i64 t.kind) := by simp
  have q1 : (W.alloc (tbox t A n c)).cell? ⟨W.heap.size, 1, none⟩ = some (.int .u64 t.s0) := by simp
  have q2 : (W.alloc (tbox t A n c)).cell? ⟨W.heap.size, 2, none⟩ = some (.int .u64 t.s1) := by simp
  have q3 : (W.alloc (tbox t A n c)).cell? ⟨W.heap.size, 3, none⟩ = some (.int .u64 t.s2) := by simp
  have q4 : (W.alloc (tbox t A n c)).cell? ⟨W.heap.size, 4, none⟩ = some (.int .u64 t.s3) := by simp
  have hwn := Lib.hid (Went.alloc (p := p) (v := v) W (tbox t A n c))
  have hlt1 : W.heap.size < (W.alloc (tbox t A n c)).heap.size := by simp
  rw [← hW1] at h1 q0 q1 q2 q3 q4 hwn hlt1
  have hpl := h1.lt
  have c3 := h1.blk.cell 3
  have c4 := h1.blk.cell 4
  have c1 := h1.blk.frozen 3
  simp only [List.getElem?_cons_zero, List.getElem?_cons_succ] at c3 c4
  obtain ⟨m, hm⟩ : ∃ m, m = E.length := ⟨_, rfl⟩
  rw [← hm] at hEl
  have HN := Lib.hid hm
  have H := Lib.hid h1
  have HW1 := Lib.hid hW1
  have HEL := Lib.hid hEl
  clear hk h ht hsh hwf hf ho hfo hE hEl hm h1 hp55 hz7
  go_enter Try.func47, Try.ntmps47
  go_upto_region 1 with (fail)
  rw [← HW1.out]
  clear HW1 hW1
  go_upto_region 5 with (fail)
  have c3a : (W1.alloc (.cells #[.int .i64 (f : Int), .int .i64 (o : Int), .bool false, .int .u64 t.s0, .int .u64 t.s1, .int .u64 t.s2, .int .u64 t.s3] 70)).cell? ⟨p, 3, none⟩ = some v := (World.cell?_alloc_lt _ _ _ hpl).trans c3
  have y4 : ∀ u ∈ edV (setE t f o), u.oneCell' = true := by intro u hu; simp [edV] at hu; rcases hu with rfl | rfl | rfl | rfl | rfl | rfl | rfl <;> rfl
  have HY := Lib.hid y4
  clear y4
  go_region_law (first
    | (refine step_append_lies _ rfl (.tmp 31) (.tmp 37) 22 rfl (p + 1) 70 i55 z55 7 56 Try.underlying22 hi55 hz55 hsz55 hbt55 hzc (by omega) v m (edsV E) (by rfl) ?_ ⟨_, 0, none⟩ 1 1 (edV (setE t f o)) (by rfl) rfl ?_ HY.out (by omega) (by have := HEL.out; unfold maxLen; omega) (by have := HEL.out; omega) ?_ _ rfl ?_
       · have h9 := H.out.own
         rw [← HN.out] at h9
         repeat first | exact h9 | refine World.ownsRow.drew ?_ | refine World.ownsRow.alloc ?_ _
       · exact World.news_of_block (heap_alloc_new _ _)
       · have := H.out.lt
         simp <;> omega
       intro g5 c5 w5 hown5 hgrow5 hat5 hlt5
       have hm5 := MI.app (v' := .slice (some ⟨g5, 0, none⟩) (m + 1) c5) (w0 := w0) (p := p) (S := S) (a := a) (z := z) (E := E) (bad := false) (e := setE t f o) (by repeat first | exact H.out | refine MI.drew ?_ | refine MI.alloc ?_ _) hgrow5 (by rw [← HN.out]; exact hown5) (hat5.imp (fun h => h.symm) (fun h => congrArg some h))
       have hb9 := MI.grown_blk (w0 := w0) (p := p) (S := S) (a := a) (z := z) (E := E) (bad := false) (by repeat first | exact H.out | refine MI.drew ?_ | refine MI.alloc ?_ _) hgrow5
       have d3 := hb9.cell 3
       have d4 := hb9.frozen 3
       simp only [List.getElem?_cons_zero, List.getElem?_cons_succ] at d3
       have HM := Lib.hid (And.intro hm5.1 (Went.trans (w := W1) (v := v) (by repeat first | exact Went.refl _ _ _ | refine Went.drew ?_ | refine Went.allocd ?_ _) hm5.2))
       clear hm5 hb9 hown5 hgrow5 hat5 hlt5))
  all_goals
    go_wp2_with fail
    go_returns
    exact ⟨by first | rfl | simp, S, _, false, _, hgr.out, HM.out.1, hwn.out.trans HM.out.2⟩
end Go.Proofs.Ytfjhcoeehjephaa
/- The maker's part: one of several. -/
namespace Go.Proofs.Ytfjhcoeehjephaa
open Go.RowKit
attribute [local go_sem ↓] Go.wp_at_zero Go.wp_at_succ

theorem TrWf.kid {t k : Tr} (h : TrWf t) (hk : k ∈ t.kids) : TrWf k := by cases h with | mk _ _ _ _ h => exact h k hk
theorem few_room {x y a b n S S' K : Nat} (h1 : y ≤ x + 4 * (a * (1 + (S' - S)))) (hS : S ≤ S') (h2 : S' ≤ 2000) (hab : a + b ≤ n) (h : x + 4 * (n * (2001 - S)) ≤ K) : y + 4 * (b * (2001 - S')) ≤ K := by
  have h3 : a * (1 + (S' - S)) ≤ a * (2001 - S) := Nat.mul_le_mul_left a (by omega)
  have h4 : b * (2001 - S') ≤ b * (2001 - S) := Nat.mul_le_mul_left b (by omega)
  have h5 : (a + b) * (2001 - S) ≤ n * (2001 - S) := Nat.mul_le_mul_right _ hab
  rw [Nat.add_mul] at h5
  omega
abbrev kbox (k : Tr) (A : Option Addr) (n c : Nat) : Obj := .cells #[.int .i64 k.kind, .int .u64 k.s0, .int .u64 k.s1, .int .u64 k.s2, .int .u64 k.s3, .int .i64 k.lo, .int .i64 k.hi, .slice A n c] 49
/-- a cell of a block of the call's own that stays -/
theorem Went.cell {p : Nat} {v v' : Value} {w w' : World} (h : Went p v v' w w') {g j : Nat} (hg : g < w.heap.size) (hp : g ≠ p) (hv : v.ownBlock ≠ some g) : w'.cell? ⟨g, j, none⟩ = w.cell? ⟨g, j, none⟩ := by
  simp only [World.cell?, h.same g hg hp hv]

set_option maxRecDepth 100000 in
set_option maxHeartbeats 16000000 in
theorem part_alt (t : Tr) (hk : t.kind = 3) (ih : ∀ k, k ∈ t.kids → PartAt k) : PartAt t := by
  intro w0 p S a z E v W f o A n c h ht hsh hwf hf ho hfo hS hE
  have e1 : (t.kind == 1) = false := by simp [hk]
  have e2 : (t.kind == 2) = false := by simp [hk]
  have e3 : (t.kind == 3) = true := by simp [hk]
  obtain ⟨W1, hW1⟩ : ∃ W1, W1 = W.alloc (tbox t A n c) := ⟨_, rfl⟩
  have h1 := h.alloc (tbox t A n c)
  have q0 : (W.alloc (tbox t A n c)).cell? ⟨W.heap.size, 0, none⟩ = some (.int .i64 t.kind) := by simp
  have q7 : (W.alloc (tbox t A n c)).cell? ⟨W.heap.size, 7, none⟩ = some (.slice A n c) := by simp
  have hwn := Lib.hid (Went.alloc (p := p) (v := v) W (tbox t A n c))
  rw [← hW1] at h1 q0 q7 hwn
  have c4 := h1.blk.cell 4
  simp only [List.getElem?_cons_zero, List.getElem?_cons_succ] at c4
  obtain ⟨KA, KN, KC, hkk⟩ := ht.out
  have hlen := hkk.len
  have hle := hkk.le
  have HK := Lib.hid hkk
  have HIH := Lib.hid ih
  have HS := Lib.hid hsh
  have HWF := Lib.hid hwf
  have HF := Lib.hid (And.intro hf (And.intro ho hfo))
  have HE := Lib.hid hE
  have HTK := Lib.hid hk
  have HB := Lib.hid (AltI.begin (t := t) (E := E) hS hfo)
  have H1 := Lib.hid h1
  have HW1 := Lib.hid hW1
  have HLE := Lib.hid hlen
  clear hk h ht hkk hsh hwf hf ho hfo hE hS h1 ih hlen
  go_enter Try.func47, Try.ntmps47
  go_upto_region 1 with (fail)
  rw [← HW1.out]
  clear HW1 hW1
  go_upto_region 20 with (fail)
  go_loopw [81] (fun i wr => ∃ k S' E' b v', k ≤ n ∧ i = .int .i64 (k : Int) ∧ AltI t f o S E k S' E' b ∧ MI w0 p S' a z E' b v' wr ∧ Went p v v' W1 wr) (fun i _ => n - (intOf i).toNat)
  case atStart => exact ⟨0, S, E, false, v, by omega, rfl, HB.out, H1.out, Went.refl _ _ _⟩
  case round =>
    obtain ⟨k, S', E', b, v', hkn, rfl, hal, hmi, hwt⟩ := hrel
    obtain ⟨w3, rfl⟩ : ∃ w3 : World, w3 = wr := ⟨_, rfl⟩
    have HAL := Lib.hid hal
    have HMI := Lib.hid hmi
    have HWT := Lib.hid hwt
    clear hal hmi hwt
    by_cases hlt : k < n
    · obtain ⟨g, off, rfl, hbl, p0, p1, p2, p3, p4, p5, p6, p7⟩ := (HK.out.keep HMI.out.bel).eight hlt
      have hkid := HK.out.kid k hlt
      have hmem : t.kids.getD k noTr ∈ t.kids := getD_mem (by have := HLE.out; omega)
      have hnk := nodesK_next t.kids k (by have := HLE.out; omega)
      have hnl := nodesL_take_le t.kids (k + 1)
      have hnp := nodesL_pos (t.kids.take k)
      have hne := Tr.nodes_eq t
      have hroom := few_room (b := (t.kids.getD k noTr).nodes) HAL.out.few HAL.out.lo HAL.out.hi (by omega) HE.out
      have IH := HIH.out _ hmem
      have hsk := HS.out.kid hmem
      have hwk := HWF.out.kid hmem
      have HNX := Lib.hid (fun (S2 : Nat) (E2 : List Ed) (b2 : Bool) (hb : b = false) (hg : Grew (t.kids.getD k noTr) f o S' E' S2 E2 b2) => AltI.next HTK.out (hb ▸ HAL.out) (by have := HLE.out; omega) hg)
      clear hnk hnl hnp hne
      obtain ⟨kid, hkid'⟩ : ∃ kid, kid = t.kids.getD k noTr := ⟨_, rfl⟩
      rw [← hkid'] at p0 p1 p2 p3 p4 p5 p6 hkid IH hroom hsk hwk HNX
      have HIK := Lib.hid IH
      have HRO := Lib.hid hroom
      have HKI := Lib.hid (And.intro hkid (And.intro hsk hwk))
      have hmb := HMI.out.alloc (kbox kid (KA k) (KN k) (KC k))
      have HMB := Lib.hid hmb
      clear hkid' hmem hkid IH hroom hsk hwk hmb
      cases b
      · go_wp2_with (go_at_call 47; refine (HIK.out w0 p S' a z E' v' _ f o (KA k) (KN k) (KC k) HMB.out HKI.out.1 HKI.out.2.1 HKI.out.2.2 (by have := HF.out; have := HAL.out.lo; omega) (by have := HF.out; have := HAL.out.lo; omega) HF.out.2.2 HAL.out.hi HRO.out).mono ?_; rintro e w4 ⟨rfl, S2, E2, b2, v2, hg2, hm2, ht2⟩; have HG2 := Lib.hid hg2; have HM2 := Lib.hid hm2; have HT2 := Lib.hid ht2; clear hg2 hm2 ht2)
        go_roundw
        case rel => exact ⟨k + 1, S2, E2, b2, v2, by omega, by go_num, HNX.out S2 E2 b2 (by first | rfl | trivial) HG2.out, HM2.out, HWT.out.trans ((Went.alloc _ _).trans HT2.out)⟩
        case measure => simp [intOf]; omega
      · go_wp2_with (go_at_call 47; refine (part_bad kid w0 p S' a z E' v' _ f o (KA k) (KN k) (KC k) HMB.out).mono ?_; rintro e w4 ⟨rfl, hm2, ht2⟩; have HM2 := Lib.hid hm2; have HT2 := Lib.hid ht2; clear hm2 ht2)
        go_roundw
        case rel => exact ⟨k + 1, S', E', true, v', by omega, by go_num, HAL.out.stay (by have := HLE.out; omega), HM2.out, HWT.out.trans ((Went.alloc _ _).trans HT2.out)⟩
        case measure => simp [intOf]; omega
    · obtain rfl : k = n := by omega
      go_wp2_with fail
      go_returns
      exact ⟨by first | rfl | simp, S', E', b, v', HAL.out.done HTK.out HLE.out.symm, HMI.out, hwn.out.trans HWT.out⟩
end Go.Proofs.Ytfjhcoeehjephaa
