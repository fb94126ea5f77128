/- Mk, MkF, Pa1, Pa2, Pa3, RePl, Re1, Re2, Pa4 of this seat, in one text. -/
import Derived.Test.YtfjgfabochiflaaLangTc
import Derived.Test.YtfjgfabochiflaaLeavingTc
import Derived.Maps.AppendAt
import Derived.OwnWalk
import Derived.Deep.Cut
import Derived.Deep.CutRange
import Derived.Deep.CutBlock
import Derived.Deep.DrawnRows
import Derived.Deep.RegionLaw
/- The maker in memory; state and free. -/
namespace Go.Proofs.Ytfjgfabochiflaa
open Go.RowKit

structure MI (w0 : World) (p : Nat) (S : Nat) (a z : Int) (E : List Ed) (bad : Bool) (v : Value) (W : World) : Prop where
  blk : Blk W p 156 [.int .i64 (S : Int), .int .i64 a, .int .i64 z, v, .bool bad]
  own : W.ownsRow (p + 1) 203 7 v E.length (edsV E)
  bel : Below w0.heap.size w0 W
  p0 : w0.heap.size ≤ p
/-- what stays: all elder blocks but the maker's and its row's -/
structure Went (p : Nat) (v v' : Value) (w w' : World) : Prop where
  size : w.heap.size ≤ w'.heap.size
  same : ∀ b, b < w.heap.size → b ≠ p → v.ownBlock ≠ some b → w'.heap[b]? = w.heap[b]?
  row : ∀ b, v'.ownBlock = some b → v.ownBlock = some b ∨ w.heap.size ≤ b
theorem Went.refl (p : Nat) (v : Value) (w : World) : Went p v v w w := ⟨Nat.le_refl _, fun _ _ _ _ => rfl, fun _ h => .inl h⟩
theorem Went.trans {p : Nat} {v v' v2 : Value} {w w' w2 : World} (h : Went p v v' w w') (k : Went p v' v2 w' w2) : Went p v v2 w w2 :=
  ⟨Nat.le_trans h.size k.size, fun b hb hp hv => (k.same b (Nat.lt_of_lt_of_le hb h.size) hp (fun e => by
    rcases h.row b e with h9 | h9
    · exact hv h9
    · omega)).trans (h.same b hb hp hv), fun b e => by
    rcases k.row b e with h9 | h9
    · exact h.row b h9
    · exact .inr (Nat.le_trans h.size h9)⟩
theorem Went.alloc {p : Nat} {v : Value} (w : World) (o : Obj) : Went p v v w (w.alloc o) :=
  ⟨by simp, fun b hb _ _ => Below.heap_alloc w o b hb, fun _ h => .inl h⟩
/-- a block of the call's own -/
theorem Went.blk {p : Nat} {v v' : Value} {w w' : World} (h : Went p v v' w w') {g : Nat} {t : TypeId} {cur : List Value} (hb : Blk w g t cur) (hp : g ≠ p) (hv : v.ownBlock ≠ some g) : Blk w' g t cur := (h.same g hb.lt hp hv).trans hb
section
variable {w0 W W' : World} {p S : Nat} {a z : Int} {E : List Ed} {bad : Bool} {v v' : Value}
theorem MI.lt (h : MI w0 p S a z E bad v W) : p < W.heap.size := h.blk.lt
theorem MI.alloc (h : MI w0 p S a z E bad v W) (o : Obj) : MI w0 p S a z E bad v (W.alloc o) := ⟨h.blk.alloc o, h.own.alloc o, h.bel.alloc (Nat.le_trans h.p0 (Nat.le_of_lt h.lt)) o, h.p0⟩
theorem MI.drew (h : MI w0 p S a z E bad v W) : MI w0 p S a z E bad v W.drew := ⟨h.blk, h.own.drew, h.bel.drew, h.p0⟩
theorem MI.row_lt (h : MI w0 p S a z E bad v W) {b : Nat} (hb : v.ownBlock = some b) : p + 1 ≤ b ∧ b < W.heap.size := h.own.lt b hb
theorem MI.form (h : MI w0 p S a z E bad v W) : ∃ A c, v = .slice A E.length c := by
  rcases h.own.2 with ⟨h1, h2⟩ | ⟨g, cap, cur, h1, _⟩
  · exact ⟨none, 0, by rw [h1, h2]⟩
  · exact ⟨_, _, h1⟩
theorem own_sl {W : World} {base n : Nat} {e : TypeId} {size : Nat} {v : Value} {xs : List Value} (h : W.ownsRow base e size v n xs) : ∃ A c, v = .slice A n c := by
  rcases h.2 with ⟨h1, h2⟩ | ⟨g, cap, cur, h1, _⟩
  · exact ⟨none, 0, by rw [h1, h2]⟩
  · exact ⟨_, _, h1⟩
/-- a cell of the maker is stored to -/
theorem MI.set (h : MI w0 p S a z E bad v W) (k : Nat) (x : Value) (S2 : Nat) (a2 z2 : Int) (bad2 : Bool) (he : [Value.int .i64 (S : Int), .int .i64 a, .int .i64 z, v, .bool bad].set k x = [.int .i64 (S2 : Int), .int .i64 a2, .int .i64 z2, v, .bool bad2]) :
    MI w0 p S2 a2 z2 E bad2 v (W.setCell ⟨p, k, none⟩ x) ∧ Went p v v W (W.setCell ⟨p, k, none⟩ x) := by
  have hne : ∀ b, b ≠ p → (W.setCell ⟨p, k, none⟩ x).heap[b]? = W.heap[b]? := fun b hb => Below.heap_setCell _ _ _ b (by simpa using hb)
  have hsz : (W.setCell ⟨p, k, none⟩ x).heap.size = W.heap.size := by show (W.heap.modify p _).size = _; simp
  refine ⟨⟨?_, ?_, h.bel.setCell (p := ⟨p, k, none⟩) h.p0 _, h.p0⟩, by omega, fun b _ hp _ => hne b hp, fun b e => .inl e⟩
  · have := h.blk.set k x
    rwa [he] at this
  · have hg : W.grownBy (W.setCell ⟨p, k, none⟩ x) (some p) := ⟨rfl, rfl, rfl, by omega, fun b _ hb => hne b (fun e => hb (by rw [e]))⟩
    refine h.own.kept hg ?_
    cases hv : v.ownBlock with
    | none => left; rfl
    | some b => right; exact fun e => by have := (h.row_lt hv).1; cases e; omega
/-- an edge more -/
theorem MI.app (h : MI w0 p S a z E bad v W) {e : Ed} (hg : W.grownBy W' v.ownBlock) (hown : W'.ownsRow (p + 1) 203 7 v' (E.length + 1) (edsV E ++ edV e)) (hat : v'.ownBlock = v.ownBlock ∨ v'.ownBlock = some W.heap.size) :
    MI w0 p S a z (E ++ [e]) bad v' (W'.setCell ⟨p, 3, none⟩ v') ∧ Went p v v' W (W'.setCell ⟨p, 3, none⟩ v') := by
  have hpr : v.ownBlock ≠ some p := fun e => by have := (h.row_lt e).1; omega
  have hblk : Blk W' p 156 [.int .i64 (S : Int), .int .i64 a, .int .i64 z, v, .bool bad] := h.blk.same (hg.block p h.lt (fun e => hpr e.symm))
  have hne : ∀ b, b ≠ p → (W'.setCell ⟨p, 3, none⟩ v').heap[b]? = W'.heap[b]? := fun b hb => Below.heap_setCell _ _ _ b (by simpa using hb)
  have hsz : (W'.setCell ⟨p, 3, none⟩ v').heap.size = W'.heap.size := by show (W'.heap.modify p _).size = _; simp
  have hg2 : W'.grownBy (W'.setCell ⟨p, 3, none⟩ v') (some p) := ⟨rfl, rfl, rfl, by omega, fun b _ hb => hne b (fun e => hb (by rw [e]))⟩
  have hbl : Below w0.heap.size w0 W' := h.bel.grown hg (Nat.le_trans h.p0 (Nat.le_of_lt h.lt)) (fun k hk => by have := (h.row_lt hk).1; have := h.p0; omega)
  refine ⟨⟨?_, ?_, hbl.setCell (p := ⟨p, 3, none⟩) h.p0 _, h.p0⟩, by have := hg.size; omega, fun b hb hp hv => (hne b hp).trans (hg.block b hb (fun e => hv e.symm)), fun b e => ?_⟩
  · exact hblk.set 3 v'
  · rw [edsV_snoc, List.length_append]
    refine hown.kept hg2 ?_
    cases hv : v'.ownBlock with
    | none => left; rfl
    | some b => right; exact fun e => by have := (hown.lt b hv).1; cases e; omega
  · rcases hat with h9 | h9
    · exact .inl (h9 ▸ e)
    · rw [h9] at e; cases e; exact .inr (Nat.le_refl _)
end

set_option maxRecDepth 100000 in
theorem state_any (w0 : World) (p S : Nat) (a z : Int) (E : List Ed) (v : Value) (W : World) (bad : Bool) (h : MI w0 p S a z E bad v W) (hS : S < 2000) :
    Calls Try.prog 88 #[.pointer (some ⟨p, 0, none⟩)] W fun e W' => e = .returned (.int .i64 (S : Int)) ∧ MI w0 p (S + 1) a z E bad v W' ∧ Went p v v W W' := by
  have H := Lib.hid (h.set 0 (.int .i64 ((S + 1 : Nat) : Int)) (S + 1) a z bad rfl)
  have c0 := h.blk.cell 0
  have c1 := h.blk.frozen 0
  have d1 : decide (2000 ≤ (S : Int)) = false := by simp; omega
  have hlt := h.lt
  have he : ((S + 1 : Nat) : Int) = (S : Int) + 1 := by omega
  rw [he] at H
  simp only [List.getElem?_cons_zero] at c0
  clear h he
  go_enter Try.func88, Try.ntmps88
  go_wp2_with fail
  go_returns
  exact ⟨by first | rfl | simp, H.out.1, H.out.2⟩
set_option maxRecDepth 100000 in
theorem state_full (w0 : World) (p S : Nat) (a z : Int) (E : List Ed) (v : Value) (W : World) (bad : Bool) (h : MI w0 p S a z E bad v W) (hS : S = 2000) :
    Calls Try.prog 88 #[.pointer (some ⟨p, 0, none⟩)] W fun e W' => e = .returned (.int .i64 0) ∧ MI w0 p S a z E true v W' ∧ Went p v v W W' := by
  have H := Lib.hid (h.set 4 (.bool true) S a z true rfl)
  have c0 := h.blk.cell 0
  have c4 := h.blk.cell 4
  have c1 := h.blk.frozen 4
  have d1 : decide (2000 ≤ (S : Int)) = true := by simp; omega
  have hlt := h.lt
  simp only [List.getElem?_cons_zero, List.getElem?_cons_succ] at c0 c4
  clear h
  go_enter Try.func88, Try.ntmps88
  go_wp2_with fail
  go_returns
  exact ⟨by first | rfl | simp, H.out.1, H.out.2⟩
end Go.Proofs.Ytfjgfabochiflaa
/- The maker's free. -/
namespace Go.Proofs.Ytfjgfabochiflaa
open Go.RowKit

theorem MI.grown_blk {w0 W W' : World} {p S : Nat} {a z : Int} {E : List Ed} {bad : Bool} {v : Value} (h : MI w0 p S a z E bad v W) (hg : W.grownBy W' v.ownBlock) : Blk W' p 156 [.int .i64 (S : Int), .int .i64 a, .int .i64 z, v, .bool bad] :=
  h.blk.same (hg.block p h.lt (fun e => by have := (h.row_lt e.symm).1; omega))

set_option maxRecDepth 100000 in
set_option maxHeartbeats 4000000 in
theorem free_any (w0 : World) (p S : Nat) (a z : Int) (E : List Ed) (v : Value) (W : World) (bad : Bool) (f o : Int) (h : MI w0 p S a z E bad v W) (hE : E.length ≤ 1000000000) :
    Calls Try.prog 119 #[.pointer (some ⟨p, 0, none⟩), .int .i64 f, .int .i64 o] W fun e W' => e = .returned (.tuple #[]) ∧ ∃ v', MI w0 p S a z (E ++ [freeE f o]) bad v' W' ∧ Went p v v' W W' := by
  obtain ⟨i55, hi55, hp55⟩ := Option.map_eq_some_iff.1 info44
  have hz7 : i55.zero.map (fun z => z.cells.size) = some 7 := congrArg Prod.fst hp55
  obtain ⟨z55, hz55, hzc⟩ := Option.map_eq_some_iff.1 hz7
  have hsz55 : i55.size = 7 := congrArg (fun x => x.2.1) hp55
  have hbt55 : i55.bytes = 56 := congrArg (fun x => x.2.2) hp55
  obtain ⟨A, c, rfl⟩ := h.form
  have c3 := h.blk.cell 3
  have c1 := h.blk.frozen 3
  simp only [List.getElem?_cons_zero, List.getElem?_cons_succ] at c3
  have hlt := h.lt
  obtain ⟨n, hn⟩ : ∃ n, n = E.length := ⟨_, rfl⟩
  have HE := Lib.hid (show n ≤ 1000000000 by omega)
  rw [← hn] at c3 h ⊢
  have HN := Lib.hid hn
  have H := Lib.hid h
  have HNEW := Lib.hid (show ∀ j u, (edV (freeE f o))[j]? = some u → (W.alloc (.cells #[.int .i64 f, .int .i64 o, .bool true, .int .u64 0, .int .u64 0, .int .u64 0, .int .u64 0] 203)).cell? ((⟨W.heap.size, 0, none⟩ : Addr).add j) = some u from World.news_of_block (cs := #[.int .i64 f, .int .i64 o, .bool true, .int .u64 0, .int .u64 0, .int .u64 0, .int .u64 0]) (heap_alloc_new _ _))
  have y4 : ∀ u ∈ edV (freeE f o), u.oneCell' = true := by intro u hu; simp [edV] at hu; rcases hu with rfl | rfl | rfl | rfl | rfl | rfl | rfl <;> rfl
  have HY := Lib.hid y4
  clear h hn y4 hE hp55 hz7
  go_enter Try.func119, Try.ntmps119
  go_wp2_with (first
    | (at_builtin
       refine wpList_append_own_at _ rfl (.tmp 11) (.tmp 15) 116 rfl (p + 1) 203 i55 z55 7 56 Try.underlying116 hi55 hz55 hsz55 hbt55 hzc (by omega) (.slice A n c) n (edsV E) rfl (by have h9 := (H.out.alloc (.cells #[.int .i64 f, .int .i64 o, .bool true, .int .u64 0, .int .u64 0, .int .u64 0, .int .u64 0] 203)).own; rw [← HN.out] at h9; exact h9) ⟨_, 0, none⟩ 1 1 (edV (freeE f o)) rfl rfl HNEW.out HY.out (by have := HE.out; unfold maxLen; omega) (by have := HE.out; omega) (by have := H.out.lt; simp; omega) ?_
       intro v' w' h2 h3 h4 h5
       obtain ⟨A', c', rfl⟩ := own_sl h2
       have hm := MI.app (e := freeE f o) (H.out.alloc (.cells #[.int .i64 f, .int .i64 o, .bool true, .int .u64 0, .int .u64 0, .int .u64 0, .int .u64 0] 203)) h3 (by rw [← HN.out]; exact h2) h5
       have hb9 := (H.out.alloc (.cells #[.int .i64 f, .int .i64 o, .bool true, .int .u64 0, .int .u64 0, .int .u64 0, .int .u64 0] 203)).grown_blk h3
       have d3 := hb9.cell 3
       have d4 := hb9.frozen 3
       simp only [List.getElem?_cons_zero, List.getElem?_cons_succ] at d3
       have HM := Lib.hid hm
       clear hm hb9 h2 h3 h4 h5))
  go_returns
  exact ⟨by first | rfl | simp, _, HM.out.1, (Went.alloc _ _).trans HM.out.2⟩
end Go.Proofs.Ytfjgfabochiflaa
/- The maker's part: given up; a set. -/
namespace Go.Proofs.Ytfjgfabochiflaa
open Go.RowKit
attribute [local go_sem ↓] Go.wp_at_zero Go.wp_at_succ

/-- what part says of a tree -/
def PartAt (t : Tr) : Prop := ∀ (w0 : World) (p S : Nat) (a z : Int) (E : List Ed) (v : Value) (W : World) (f o : Nat) (A : Option Addr) (n c : Nat),
  MI w0 p S a z E false v W → TrIn w0 t A n → Shp t → TrWf t → f < S → o < S → f ≠ o → S ≤ 2000 → E.length + 4 * (t.nodes * (2001 - S)) ≤ 1000000000 →
  Calls Try.prog 89 #[.pointer (some ⟨p, 0, none⟩), .agg #[.int .i64 t.kind, .int .u64 t.s0, .int .u64 t.s1, .int .u64 t.s2, .int .u64 t.s3, .int .i64 t.lo, .int .i64 t.hi, .slice A n c], .int .i64 (f : Int), .int .i64 (o : Int)] W fun e W' =>
    e = .returned (.tuple #[]) ∧ ∃ S' E' b v', Grew t f o S E S' E' b ∧ MI w0 p S' a z E' b v' W' ∧ Went p v v' W W'
theorem Went.drew {p : Nat} {v v' : Value} {w w' : World} (h : Went p v v' w w') : Went p v v' w w'.drew := ⟨h.size, h.same, h.row⟩
theorem Went.allocd {p : Nat} {v v' : Value} {w w' : World} (h : Went p v v' w w') (o : Obj) : Went p v v' w (w'.alloc o) := h.trans (Went.alloc _ _)
abbrev tbox (t : Tr) (A : Option Addr) (n c : Nat) : Obj := .cells #[.int .i64 t.kind, .int .u64 t.s0, .int .u64 t.s1, .int .u64 t.s2, .int .u64 t.s3, .int .i64 t.lo, .int .i64 t.hi, .slice A n c] 29

set_option maxRecDepth 100000 in
theorem part_bad (t : Tr) (w0 : World) (p S : Nat) (a z : Int) (E : List Ed) (v : Value) (W : World) (f o : Int) (A : Option Addr) (n c : Nat) (h : MI w0 p S a z E true v W) :
    Calls Try.prog 89 #[.pointer (some ⟨p, 0, none⟩), .agg #[.int .i64 t.kind, .int .u64 t.s0, .int .u64 t.s1, .int .u64 t.s2, .int .u64 t.s3, .int .i64 t.lo, .int .i64 t.hi, .slice A n c], .int .i64 f, .int .i64 o] W fun e W' =>
      e = .returned (.tuple #[]) ∧ MI w0 p S a z E true v W' ∧ Went p v v W W' := by
  have H := Lib.hid h
  have c4 := (h.alloc (tbox t A n c)).blk.cell 4
  simp only [List.getElem?_cons_zero, List.getElem?_cons_succ] at c4
  clear h
  go_enter Try.func89, Try.ntmps89
  go_wp2_with fail
  go_returns
  exact ⟨by first | rfl | simp, H.out.alloc _, Went.alloc _ _⟩

set_option maxRecDepth 100000 in
set_option maxHeartbeats 16000000 in
theorem part_set (t : Tr) (hk : t.kind = 1) : PartAt t := by
  intro w0 p S a z E v W f o A n c h ht hsh hwf hf ho hfo hS hE
  obtain ⟨i55, hi55, hp55⟩ := Option.map_eq_some_iff.1 info44
  have hz7 : i55.zero.map (fun z => z.cells.size) = some 7 := congrArg Prod.fst hp55
  obtain ⟨z55, hz55, hzc⟩ := Option.map_eq_some_iff.1 hz7
  have hsz55 : i55.size = 7 := congrArg (fun x => x.2.1) hp55
  have hbt55 : i55.bytes = 56 := congrArg (fun x => x.2.2) hp55
  have hgr := Lib.hid (grew_set hk hwf hfo hS (E := E))
  have e1 : (t.kind == 1) = true := by simpa using hk
  have hEl : E.length ≤ 1000000000 := by omega
  obtain ⟨W1, hW1⟩ : ∃ W1, W1 = W.alloc (tbox t A n c) := ⟨_, rfl⟩
  have h1 := h.alloc (tbox t A n c)
  have q0 : (W.alloc (tbox t A n c)).cell? ⟨W.heap.size, 0, none⟩ = some (.int .i64 t.kind) := by simp
  have q1 : (W.alloc (tbox t A n c)).cell? ⟨W.heap.size, 1, none⟩ = some (.int .u64 t.s0) := by simp
  have q2 : (W.alloc (tbox t A n c)).cell? ⟨W.heap.size, 2, none⟩ = some (.int .u64 t.s1) := by simp
  have q3 : (W.alloc (tbox t A n c)).cell? ⟨W.heap.size, 3, none⟩ = some (.int .u64 t.s2) := by simp
  have q4 : (W.alloc (tbox t A n c)).cell? ⟨W.heap.size, 4, none⟩ = some (.int .u64 t.s3) := by simp
  have hwn := Lib.hid (Went.alloc (p := p) (v := v) W (tbox t A n c))
  have hlt1 : W.heap.size < (W.alloc (tbox t A n c)).heap.size := by simp
  rw [← hW1] at h1 q0 q1 q2 q3 q4 hwn hlt1
  have hpl := h1.lt
  have c3 := h1.blk.cell 3
  have c4 := h1.blk.cell 4
  have c1 := h1.blk.frozen 3
  simp only [List.getElem?_cons_zero, List.getElem?_cons_succ] at c3 c4
  obtain ⟨m, hm⟩ : ∃ m, m = E.length := ⟨_, rfl⟩
  rw [← hm] at hEl
  have HN := Lib.hid hm
  have H := Lib.hid h1
  have HW1 := Lib.hid hW1
  have HEL := Lib.hid hEl
  clear hk h ht hsh hwf hf ho hfo hE hEl hm h1 hp55 hz7
  go_enter Try.func89, Try.ntmps89
  go_upto_region 1 with (fail)
  rw [← HW1.out]
  clear HW1 hW1
  go_upto_region 5 with (fail)
  have c3a : (W1.alloc (.cells #[.int .i64 (f : Int), .int .i64 (o : Int), .bool false, .int .u64 t.s0, .int .u64 t.s1, .int .u64 t.s2, .int .u64 t.s3] 203)).cell? ⟨p, 3, none⟩ = some v := (World.cell?_alloc_lt _ _ _ hpl).trans c3
  have y4 : ∀ u ∈ edV (setE t f o), u.oneCell' = true := by intro u hu; simp [edV] at hu; rcases hu with rfl | rfl | rfl | rfl | rfl | rfl | rfl <;> rfl
  have HY := Lib.hid y4
  clear y4
  go_region_law (first
    | (refine step_append_lies _ rfl (.tmp 31) (.tmp 37) 116 rfl (p + 1) 203 i55 z55 7 56 Try.underlying116 hi55 hz55 hsz55 hbt55 hzc (by omega) v m (edsV E) (by rfl) ?_ ⟨_, 0, none⟩ 1 1 (edV (setE t f o)) (by rfl) rfl ?_ HY.out (by omega) (by have := HEL.out; unfold maxLen; omega) (by have := HEL.out; omega) ?_ _ rfl ?_
       · have h9 := H.out.own
         rw [← HN.out] at h9
         repeat first | exact h9 | refine World.ownsRow.drew ?_ | refine World.ownsRow.alloc ?_ _
       · exact World.news_of_block (heap_alloc_new _ _)
       · have := H.out.lt
         simp <;> omega
       intro g5 c5 w5 hown5 hgrow5 hat5 hlt5
       have hm5 := MI.app (v' := .slice (some ⟨g5, 0, none⟩) (m + 1) c5) (w0 := w0) (p := p) (S := S) (a := a) (z := z) (E := E) (bad := false) (e := setE t f o) (by repeat first | exact H.out | refine MI.drew ?_ | refine MI.alloc ?_ _) hgrow5 (by rw [← HN.out]; exact hown5) (hat5.imp (fun h => h.symm) (fun h => congrArg some h))
       have hb9 := MI.grown_blk (w0 := w0) (p := p) (S := S) (a := a) (z := z) (E := E) (bad := false) (by repeat first | exact H.out | refine MI.drew ?_ | refine MI.alloc ?_ _) hgrow5
       have d3 := hb9.cell 3
       have d4 := hb9.frozen 3
       simp only [List.getElem?_cons_zero, List.getElem?_cons_succ] at d3
       have HM := Lib.hid (And.intro hm5.1 (Went.trans (w := W1) (v := v) (by repeat first | exact Went.refl _ _ _ | refine Went.drew ?_ | refine Went.allocd ?_ _) hm5.2))
       clear hm5 hb9 hown5 hgrow5 hat5 hlt5))
  all_goals
    go_wp2_with fail
    go_returns
    exact ⟨by first | rfl | simp, S, _, false, _, hgr.out, HM.out.1, hwn.out.trans HM.out.2⟩
end Go.Proofs.Ytfjgfabochiflaa
/- The maker's part: one of several. -/
namespace Go.Proofs.Ytfjgfabochiflaa
open Go.RowKit
attribute [local go_sem ↓] Go.wp_at_zero Go.wp_at_succ

theorem TrWf.kid {t k : Tr} (h : TrWf t) (hk : k ∈ t.kids) : TrWf k := by cases h with | mk _ _ _ _ h => exact h k hk
theorem few_room {x y a b n S S' K : Nat} (h1 : y ≤ x + 4 * (a * (1 + (S' - S)))) (hS : S ≤ S') (h2 : S' ≤ 2000) (hab : a + b ≤ n) (h : x + 4 * (n * (2001 - S)) ≤ K) : y + 4 * (b * (2001 - S')) ≤ K := by
  have h3 : a * (1 + (S' - S)) ≤ a * (2001 - S) := Nat.mul_le_mul_left a (by omega)
  have h4 : b * (2001 - S') ≤ b * (2001 - S) := Nat.mul_le_mul_left b (by omega)
  have h5 : (a + b) * (2001 - S) ≤ n * (2001 - S) := Nat.mul_le_mul_right _ hab
  rw [Nat.add_mul] at h5
  omega
abbrev kbox (k : Tr) (A : Option Addr) (n c : Nat) : Obj := .cells #[.int .i64 k.kind, .int .u64 k.s0, .int .u64 k.s1, .int .u64 k.s2, .int .u64 k.s3, .int .i64 k.lo, .int .i64 k.hi, .slice A n c] 29
/-- a cell of a block of the call's own that stays -/
theorem Went.cell {p : Nat} {v v' : Value} {w w' : World} (h : Went p v v' w w') {g j : Nat} (hg : g < w.heap.size) (hp : g ≠ p) (hv : v.ownBlock ≠ some g) : w'.cell? ⟨g, j, none⟩ = w.cell? ⟨g, j, none⟩ := by
  simp only [World.cell?, h.same g hg hp hv]

set_option maxRecDepth 100000 in
set_option maxHeartbeats 16000000 in
theorem part_alt (t : Tr) (hk : t.kind = 3) (ih : ∀ k, k ∈ t.kids → PartAt k) : PartAt t := by
  intro w0 p S a z E v W f o A n c h ht hsh hwf hf ho hfo hS hE
  have e1 : (t.kind == 1) = false := by simp [hk]
  have e2 : (t.kind == 2) = false := by simp [hk]
  have e3 : (t.kind == 3) = true := by simp [hk]
  obtain ⟨W1, hW1⟩ : ∃ W1, W1 = W.alloc (tbox t A n c) := ⟨_, rfl⟩
  have h1 := h.alloc (tbox t A n c)
  have q0 : (W.alloc (tbox t A n c)).cell? ⟨W.heap.size, 0, none⟩ = some (.int .i64 t.kind) := by simp
  have q7 : (W.alloc (tbox t A n c)).cell? ⟨W.heap.size, 7, none⟩ = some (.slice A n c) := by simp
  have hwn := Lib.hid (Went.alloc (p := p) (v := v) W (tbox t A n c))
  rw [← hW1] at h1 q0 q7 hwn
  have c4 := h1.blk.cell 4
  simp only [List.getElem?_cons_zero, List.getElem?_cons_succ] at c4
  obtain ⟨KA, KN, KC, hkk⟩ := ht.out
  have hlen := hkk.len
  have hle := hkk.le
  have HK := Lib.hid hkk
  have HIH := Lib.hid ih
  have HS := Lib.hid hsh
  have HWF := Lib.hid hwf
  have HF := Lib.hid (And.intro hf (And.intro ho hfo))
  have HE := Lib.hid hE
  have HTK := Lib.hid hk
  have HB := Lib.hid (AltI.begin (t := t) (E := E) hS hfo)
  have H1 := Lib.hid h1
  have HW1 := Lib.hid hW1
  have HLE := Lib.hid hlen
  clear hk h ht hkk hsh hwf hf ho hfo hE hS h1 ih hlen
  go_enter Try.func89, Try.ntmps89
  go_upto_region 1 with (fail)
  rw [← HW1.out]
  clear HW1 hW1
  go_upto_region 20 with (fail)
  go_loopw [81] (fun i wr => ∃ k S' E' b v', k ≤ n ∧ i = .int .i64 (k : Int) ∧ AltI t f o S E k S' E' b ∧ MI w0 p S' a z E' b v' wr ∧ Went p v v' W1 wr) (fun i _ => n - (intOf i).toNat)
  case atStart => exact ⟨0, S, E, false, v, by omega, rfl, HB.out, H1.out, Went.refl _ _ _⟩
  case round =>
    obtain ⟨k, S', E', b, v', hkn, rfl, hal, hmi, hwt⟩ := hrel
    obtain ⟨w3, rfl⟩ : ∃ w3 : World, w3 = wr := ⟨_, rfl⟩
    have HAL := Lib.hid hal
    have HMI := Lib.hid hmi
    have HWT := Lib.hid hwt
    clear hal hmi hwt
    by_cases hlt : k < n
    · obtain ⟨g, off, rfl, hbl, p0, p1, p2, p3, p4, p5, p6, p7⟩ := (HK.out.keep HMI.out.bel).eight hlt
      have hkid := HK.out.kid k hlt
      have hmem : t.kids.getD k noTr ∈ t.kids := getD_mem (by have := HLE.out; omega)
      have hnk := nodesK_next t.kids k (by have := HLE.out; omega)
      have hnl := nodesL_take_le t.kids (k + 1)
      have hnp := nodesL_pos (t.kids.take k)
      have hne := Tr.nodes_eq t
      have hroom := few_room (b := (t.kids.getD k noTr).nodes) HAL.out.few HAL.out.lo HAL.out.hi (by omega) HE.out
      have IH := HIH.out _ hmem
      have hsk := HS.out.kid hmem
      have hwk := HWF.out.kid hmem
      have HNX := Lib.hid (fun (S2 : Nat) (E2 : List Ed) (b2 : Bool) (hb : b = false) (hg : Grew (t.kids.getD k noTr) f o S' E' S2 E2 b2) => AltI.next HTK.out (hb ▸ HAL.out) (by have := HLE.out; omega) hg)
      clear hnk hnl hnp hne
      obtain ⟨kid, hkid'⟩ : ∃ kid, kid = t.kids.getD k noTr := ⟨_, rfl⟩
      rw [← hkid'] at p0 p1 p2 p3 p4 p5 p6 hkid IH hroom hsk hwk HNX
      have HIK := Lib.hid IH
      have HRO := Lib.hid hroom
      have HKI := Lib.hid (And.intro hkid (And.intro hsk hwk))
      have hmb := HMI.out.alloc (kbox kid (KA k) (KN k) (KC k))
      have HMB := Lib.hid hmb
      clear hkid' hmem hkid IH hroom hsk hwk hmb
      cases b
      · go_wp2_with (go_at_call 89; refine (HIK.out w0 p S' a z E' v' _ f o (KA k) (KN k) (KC k) HMB.out HKI.out.1 HKI.out.2.1 HKI.out.2.2 (by have := HF.out; have := HAL.out.lo; omega) (by have := HF.out; have := HAL.out.lo; omega) HF.out.2.2 HAL.out.hi HRO.out).mono ?_; rintro e w4 ⟨rfl, S2, E2, b2, v2, hg2, hm2, ht2⟩; have HG2 := Lib.hid hg2; have HM2 := Lib.hid hm2; have HT2 := Lib.hid ht2; clear hg2 hm2 ht2)
        go_roundw
        case rel => exact ⟨k + 1, S2, E2, b2, v2, by omega, by go_num, HNX.out S2 E2 b2 (by first | rfl | trivial) HG2.out, HM2.out, HWT.out.trans ((Went.alloc _ _).trans HT2.out)⟩
        case measure => simp [intOf]; omega
      · go_wp2_with (go_at_call 89; refine (part_bad kid w0 p S' a z E' v' _ f o (KA k) (KN k) (KC k) HMB.out).mono ?_; rintro e w4 ⟨rfl, hm2, ht2⟩; have HM2 := Lib.hid hm2; have HT2 := Lib.hid ht2; clear hm2 ht2)
        go_roundw
        case rel => exact ⟨k + 1, S', E', true, v', by omega, by go_num, HAL.out.stay (by have := HLE.out; omega), HM2.out, HWT.out.trans ((Went.alloc _ _).trans HT2.out)⟩
        case measure => simp [intOf]; omega
    · obtain rfl : k = n := by omega
      go_wp2_with fail
      go_returns
      exact ⟨by first | rfl | simp, S', E', b, v', HAL.out.done HTK.out HLE.out.symm, HMI.out, hwn.out.trans HWT.out⟩
end Go.Proofs.Ytfjgfabochiflaa
/- The maker's part: a chain. -/
namespace Go.Proofs.Ytfjgfabochiflaa
open Go.RowKit
attribute [local go_sem ↓] Go.wp_at_zero Go.wp_at_succ

theorem room_less {y b S : Nat} {K : Nat} (h : y + 4 * (b * (2001 - S)) ≤ K) (d : Nat) : y + 4 * (b * (2001 - (S + d))) ≤ K := by
  have : b * (2001 - (S + d)) ≤ b * (2001 - S) := Nat.mul_le_mul_left b (by omega)
  omega

set_option maxRecDepth 100000 in
set_option maxHeartbeats 16000000 in
theorem part_none (t : Tr) (hk : t.kind = 2) (h0 : t.kids.length = 0) : PartAt t := by
  intro w0 p S a z E v W f o A n c h ht hsh hwf hf ho hfo hS hE
  have e1 : (t.kind == 1) = false := by simp [hk]
  have e2 : (t.kind == 2) = true := by simp [hk]
  obtain ⟨W1, hW1⟩ : ∃ W1, W1 = W.alloc (tbox t A n c) := ⟨_, rfl⟩
  have h1 := h.alloc (tbox t A n c)
  have q0 : (W.alloc (tbox t A n c)).cell? ⟨W.heap.size, 0, none⟩ = some (.int .i64 t.kind) := by simp
  have q7 : (W.alloc (tbox t A n c)).cell? ⟨W.heap.size, 7, none⟩ = some (.slice A n c) := by simp
  have hwn := Lib.hid (Went.alloc (p := p) (v := v) W (tbox t A n c))
  rw [← hW1] at h1 q0 q7 hwn
  have c4 := h1.blk.cell 4
  simp only [List.getElem?_cons_zero, List.getElem?_cons_succ] at c4
  obtain ⟨KA, KN, KC, hkk⟩ := ht.out
  obtain rfl : n = 0 := by have := hkk.len; omega
  have HG := Lib.hid (grew_empty hk h0 hfo hS (E := E))
  have H1 := Lib.hid h1
  have HW1 := Lib.hid hW1
  have HE := Lib.hid hE
  clear hk h ht hkk hsh hwf hf ho hfo hE hS h1 h0
  go_enter Try.func89, Try.ntmps89
  go_upto_region 1 with (fail)
  rw [← HW1.out]
  clear HW1 hW1
  go_upto_region 8 with (fail)
  go_loopw [2, 47] (fun fr i wr => fr = .int .i64 (f : Int) ∧ i = .int .i64 0 ∧ wr = W1) (fun i _ _ => 0)
  case atStart => exact ⟨rfl, rfl, rfl⟩
  case round =>
    obtain ⟨rfl, rfl, rfl⟩ := hrel
    go_wp2_with (go_at_call 119; refine (free_any w0 p S a z E v _ false f o H1.out (by have := HE.out; omega)).mono ?_; rintro e w4 ⟨rfl, v4, hm4, ht4⟩; have HM4 := Lib.hid hm4; have HT4 := Lib.hid ht4; clear hm4 ht4)
    go_returns
    exact ⟨by first | rfl | simp, S, _, false, v4, HG.out, HM4.out, hwn.out.trans HT4.out⟩

set_option maxRecDepth 100000 in
set_option maxHeartbeats 16000000 in
theorem part_cat (t : Tr) (hk : t.kind = 2) (h0 : t.kids.length ≠ 0) (ih : ∀ k, k ∈ t.kids → PartAt k) : PartAt t := by
  intro w0 p S a z E v W f o A n c h ht hsh hwf hf ho hfo hS hE
  have e1 : (t.kind == 1) = false := by simp [hk]
  have e2 : (t.kind == 2) = true := by simp [hk]
  obtain ⟨W1, hW1⟩ : ∃ W1, W1 = W.alloc (tbox t A n c) := ⟨_, rfl⟩
  have h1 := h.alloc (tbox t A n c)
  have q0 : (W.alloc (tbox t A n c)).cell? ⟨W.heap.size, 0, none⟩ = some (.int .i64 t.kind) := by simp
  have q7 : (W.alloc (tbox t A n c)).cell? ⟨W.heap.size, 7, none⟩ = some (.slice A n c) := by simp
  have hwn := Lib.hid (Went.alloc (p := p) (v := v) W (tbox t A n c))
  have hgl : W.heap.size < (W.alloc (tbox t A n c)).heap.size := by simp
  rw [← hW1] at h1 q0 q7 hwn hgl
  have c4 := h1.blk.cell 4
  simp only [List.getElem?_cons_zero, List.getElem?_cons_succ] at c4
  obtain ⟨KA, KN, KC, hkk⟩ := ht.out
  have hlen := hkk.len
  have hle := hkk.le
  have e70 : ((n : Int) == 0) = false := by simp; omega
  have HQ := Lib.hid (fun (v' : Value) (wr : World) (hw : Went p v v' W1 wr) => (hw.cell hgl (by have := h.lt; omega) (fun e => by have := (h.row_lt e).2; omega) : wr.cell? ⟨W.heap.size, 7, none⟩ = _).trans q7)
  have HK := Lib.hid hkk
  have HIH := Lib.hid ih
  have HS := Lib.hid hsh
  have HWF := Lib.hid hwf
  have HF := Lib.hid (And.intro hf (And.intro ho hfo))
  have HE := Lib.hid hE
  have HTK := Lib.hid hk
  have HB := Lib.hid (CatI.begin (t := t) (E := E) (f := f) (o := o) hS)
  have H1 := Lib.hid h1
  have HW1 := Lib.hid hW1
  have HLE := Lib.hid hlen
  have HGL := Lib.hid hgl
  clear hk h ht hkk hsh hwf hf ho hfo hE hS h1 ih hlen hgl
  go_enter Try.func89, Try.ntmps89
  go_upto_region 1 with (fail)
  rw [← HW1.out]
  clear HW1 hW1
  go_upto_region 8 with (fail)
  go_loopw [2, 47] (fun fr i wr => ∃ (k cur S' : Nat) (E' : List Ed) (b : Bool) (v' : Value), k ≤ n ∧ i = .int .i64 (k : Int) ∧ fr = .int .i64 (cur : Int) ∧ CatI t f o S E k cur S' E' b ∧ MI w0 p S' a z E' b v' wr ∧ Went p v v' W1 wr) (fun _ i _ => n - (intOf i).toNat)
  case atStart => exact ⟨0, f, S, E, false, v, by omega, rfl, rfl, HB.out, H1.out, Went.refl _ _ _⟩
  case round =>
    obtain ⟨k, cur, S', E', b, v', hkn, rfl, rfl, hal, hmi, hwt⟩ := hrel
    obtain ⟨w3, rfl⟩ : ∃ w3 : World, w3 = wr := ⟨_, rfl⟩
    have qr := HQ.out v' w3 hwt
    have HAL := Lib.hid hal
    have HMI := Lib.hid hmi
    have HWT := Lib.hid hwt
    clear hal hmi hwt
    by_cases hlt : k < n
    · obtain ⟨g, off, rfl, hbl, p0, p1, p2, p3, p4, p5, p6, p7⟩ := (HK.out.keep HMI.out.bel).eight hlt
      have hkid := HK.out.kid k hlt
      have hmem : t.kids.getD k noTr ∈ t.kids := getD_mem (by have := HLE.out; omega)
      have hnk := nodesK_next t.kids k (by have := HLE.out; omega)
      have hnl := nodesL_take_le t.kids (k + 1)
      have hnp := nodesL_pos (t.kids.take k)
      have hne := Tr.nodes_eq t
      have hroom := few_room (b := (t.kids.getD k noTr).nodes) HAL.out.few HAL.out.lo HAL.out.hi (by omega) HE.out
      have IH := HIH.out _ hmem
      have hsk := HS.out.kid hmem
      have hwk := HWF.out.kid hmem
      have HNX := Lib.hid (fun (S2 : Nat) (E2 : List Ed) (b2 : Bool) (hb : b = false) (hk : k + 1 < n) (hg : Grew (t.kids.getD k noTr) cur S' (S' + 1) E' S2 E2 b2) => CatI.next HTK.out (hb ▸ HAL.out) (by have := HLE.out; omega) HF.out.1 rfl hg)
      have HLA := Lib.hid (fun (S2 : Nat) (E2 : List Ed) (b2 : Bool) (hb : b = false) (hk : k + 1 = n) (hg : Grew (t.kids.getD k noTr) cur o S' E' S2 E2 b2) => CatI.last HTK.out (hb ▸ HAL.out) (by have := HLE.out; omega) HF.out.1 HF.out.2.2 HF.out.2.1 hg)
      have HCU := Lib.hid (fun (hb : b = false) => (HAL.out.at_ hb).1 (by have := HLE.out; omega))
      clear hnk hnl hnp hne
      obtain ⟨kid, hkid'⟩ : ∃ kid, kid = t.kids.getD k noTr := ⟨_, rfl⟩
      rw [← hkid'] at p0 p1 p2 p3 p4 p5 p6 hkid IH hroom hsk hwk HNX HLA
      have HIK := Lib.hid IH
      have HRO := Lib.hid hroom
      have HKI := Lib.hid (And.intro hkid (And.intro hsk hwk))
      have hmb := HMI.out.alloc (kbox kid (KA k) (KN k) (KC k))
      have HMB := Lib.hid hmb
      have hg3 : W.heap.size < w3.heap.size := Nat.lt_of_lt_of_le HGL.out HWT.out.size
      -- the kid's box behind the call of state
      have HBX := Lib.hid (fun (w4 : World) (hw : Went p v' v' (w3.alloc (kbox kid (KA k) (KN k) (KC k))) w4) (j : Nat) => (hw.cell (j := j) (g := w3.heap.size) (by simp) (by have := HMI.out.lt; omega) (fun e => by have := (HMI.out.row_lt e).2; omega)).trans (cell_of_row _ _ _ _ _ _ (heap_alloc_new w3 _)))
      clear hkid' hmem hkid IH hroom hsk hwk hmb
      by_cases hlast : k + 1 = n
      · have d58 : decide ((k : Int) < (n : Int) - 1) = false := by simp; omega
        cases b
        · go_wp2_with (go_at_call 89; refine (HIK.out w0 p S' a z E' v' _ cur o (KA k) (KN k) (KC k) HMB.out HKI.out.1 HKI.out.2.1 HKI.out.2.2 (by have := HF.out; have := HAL.out.lo; have := HCU.out (by first | rfl | trivial); omega) (by have := HF.out; have := HAL.out.lo; omega) (by have := HF.out; have := HCU.out (by first | rfl | trivial); omega) HAL.out.hi HRO.out).mono ?_; rintro e w4 ⟨rfl, S2, E2, b2, v2, hg2, hm2, ht2⟩; have HG2 := Lib.hid hg2; have HM2 := Lib.hid hm2; have HT2 := Lib.hid ht2; clear hg2 hm2 ht2)
          go_roundw
          case rel => exact ⟨k + 1, o, S2, E2, b2, v2, by omega, by go_num, by first | rfl | go_num, HLA.out S2 E2 b2 (by first | rfl | trivial) hlast HG2.out, HM2.out, HWT.out.trans ((Went.alloc _ _).trans HT2.out)⟩
          case measure => simp [intOf]; omega
        · go_wp2_with (go_at_call 89; refine (part_bad kid w0 p S' a z E' v' _ cur o (KA k) (KN k) (KC k) HMB.out).mono ?_; rintro e w4 ⟨rfl, hm2, ht2⟩; have HM2 := Lib.hid hm2; have HT2 := Lib.hid ht2; clear hm2 ht2)
          go_roundw
          case rel => exact ⟨k + 1, o, S', E', true, v', by omega, by go_num, by first | rfl | go_num, HAL.out.stay (by have := HLE.out; omega), HM2.out, HWT.out.trans ((Went.alloc _ _).trans HT2.out)⟩
          case measure => simp [intOf]; omega
      · have d58 : decide ((k : Int) < (n : Int) - 1) = true := by simp; omega
        by_cases hfull : S' = 2000
        · have HNL := Lib.hid (fun (hb : b = false) => CatI.none_left (nx := 0) HTK.out (hb ▸ HAL.out) (by have := HLE.out; omega) hfull)
          have HFU := Lib.hid hfull
          clear hfull
          go_wp2_with (first
            | (go_at_call 88; refine (state_full w0 p S' a z E' v' _ b HMB.out HFU.out).mono ?_; rintro e w4 ⟨rfl, hm4, ht4⟩; have r0 := HBX.out w4 ht4 0; have r1 := HBX.out w4 ht4 1; have r2 := HBX.out w4 ht4 2; have r3 := HBX.out w4 ht4 3; have r4 := HBX.out w4 ht4 4; have r5 := HBX.out w4 ht4 5; have r6 := HBX.out w4 ht4 6; have r7 := HBX.out w4 ht4 7; simp at r0 r1 r2 r3 r4 r5 r6 r7; have HM4 := Lib.hid hm4; have HT4 := Lib.hid ht4; clear hm4 ht4)
            | (go_at_call 89; refine (part_bad kid w0 p S' a z E' v' _ cur 0 (KA k) (KN k) (KC k) HM4.out).mono ?_; rintro e w5 ⟨rfl, hm2, ht2⟩; have HM2 := Lib.hid hm2; have HT2 := Lib.hid ht2; clear hm2 ht2))
          go_roundw
          case rel =>
            refine ⟨k + 1, 0, S', E', true, v', by omega, by go_num, by first | rfl | go_num, ?_, HM2.out, HWT.out.trans ((Went.alloc _ _).trans (HT4.out.trans HT2.out))⟩
            cases b
            · exact HNL.out (by first | rfl | trivial)
            · exact HAL.out.stay (by have := HLE.out; omega)
          case measure => simp [intOf]; omega
        · obtain rfl : b = false := by
            cases b
            · rfl
            · exact absurd (HAL.out.full rfl).1 hfull
          have HS2 := Lib.hid (show S' < 2000 by have := HAL.out.hi; omega)
          clear hfull
          go_wp2_with (first
            | (go_at_call 88; refine (state_any w0 p S' a z E' v' _ false HMB.out HS2.out).mono ?_; rintro e w4 ⟨rfl, hm4, ht4⟩; have r0 := HBX.out w4 ht4 0; have r1 := HBX.out w4 ht4 1; have r2 := HBX.out w4 ht4 2; have r3 := HBX.out w4 ht4 3; have r4 := HBX.out w4 ht4 4; have r5 := HBX.out w4 ht4 5; have r6 := HBX.out w4 ht4 6; have r7 := HBX.out w4 ht4 7; simp at r0 r1 r2 r3 r4 r5 r6 r7; have HM4 := Lib.hid hm4; have HT4 := Lib.hid ht4; clear hm4 ht4)
            | (go_at_call 89; refine (HIK.out w0 p (S' + 1) a z E' v' _ cur S' (KA k) (KN k) (KC k) HM4.out HKI.out.1 HKI.out.2.1 HKI.out.2.2 (by have := HF.out; have := HAL.out.lo; have := HCU.out (by first | rfl | trivial); omega) (by omega) (by have := HF.out; have := HAL.out.lo; have := HCU.out (by first | rfl | trivial); omega) (by have := HS2.out; omega) (room_less HRO.out 1)).mono ?_; rintro e w5 ⟨rfl, S2, E2, b2, v2, hg2, hm2, ht2⟩; have HG2 := Lib.hid hg2; have HM2 := Lib.hid hm2; have HT2 := Lib.hid ht2; clear hg2 hm2 ht2))
          go_roundw
          case rel => exact ⟨k + 1, S', S2, E2, b2, v2, by omega, by go_num, by first | rfl | go_num, HNX.out S2 E2 b2 (by first | rfl | trivial) (by omega) HG2.out, HM2.out, HWT.out.trans ((Went.alloc _ _).trans (HT4.out.trans HT2.out))⟩
          case measure => simp [intOf]; omega
    · obtain rfl : k = n := by omega
      go_wp2_with fail
      go_returns
      exact ⟨by first | rfl | simp, S', E', b, v', HAL.out.done HTK.out HLE.out.symm (by have := HLE.out; omega), HMI.out, hwn.out.trans HWT.out⟩
end Go.Proofs.Ytfjgfabochiflaa
/- The maker's repeat: its words, plain; state and part, given up or not. -/
namespace Go.Proofs.Ytfjgfabochiflaa
open Go.RowKit

/-- what state says: l, then so many -/
def StA (S : Nat) (b : Bool) (l S2 : Nat) (b2 : Bool) : Prop := (S < 2000 ∧ l = S ∧ S2 = S + 1 ∧ b2 = b) ∨ (S = 2000 ∧ l = 0 ∧ S2 = S ∧ b2 = true)
theorem state_gen (w0 : World) (p S : Nat) (a z : Int) (E : List Ed) (v : Value) (W : World) (bad : Bool) (h : MI w0 p S a z E bad v W) (hS : S ≤ 2000) :
    Calls Try.prog 88 #[.pointer (some ⟨p, 0, none⟩)] W fun e W' => ∃ l S2 b2, e = .returned (.int .i64 ((l : Nat) : Int)) ∧ StA S bad l S2 b2 ∧ MI w0 p S2 a z E b2 v W' ∧ Went p v v W W' := by
  by_cases h2 : S = 2000
  · refine (state_full w0 p S a z E v W bad h h2).mono ?_
    rintro e W' ⟨rfl, h3, h4⟩
    exact ⟨0, S, true, rfl, .inr ⟨h2, rfl, rfl, rfl⟩, h3, h4⟩
  · refine (state_any w0 p S a z E v W bad h (by omega)).mono ?_
    rintro e W' ⟨rfl, h3, h4⟩
    exact ⟨S, S + 1, bad, rfl, .inl ⟨by omega, rfl, rfl, rfl⟩, h3, h4⟩
theorem StA.le {S : Nat} {b : Bool} {l S2 : Nat} {b2 : Bool} (h : StA S b l S2 b2) (hS : S ≤ 2000) : S2 ≤ 2000 := by rcases h with ⟨_, _, rfl, _⟩ | ⟨_, _, rfl, _⟩ <;> omega
/-- what part says, given up or not -/
def PtA (t : Tr) (f o S : Nat) (E : List Ed) (bad : Bool) (S' : Nat) (E' : List Ed) (b : Bool) : Prop := (bad = false → Grew t f o S E S' E' b) ∧ (bad = true → S' = S ∧ E' = E ∧ b = true)
theorem part_gen {t : Tr} (hp : PartAt t) (w0 : World) (p S : Nat) (a z : Int) (E : List Ed) (v : Value) (W : World) (bad : Bool) (f o : Nat) (A : Option Addr) (n c : Nat)
    (h : MI w0 p S a z E bad v W) (ht : TrIn w0 t A n) (hs : Shp t) (hw : TrWf t) (hb : bad = false → f < S ∧ o < S ∧ f ≠ o ∧ S ≤ 2000 ∧ E.length + 4 * (t.nodes * (2001 - S)) ≤ 1000000000) :
    Calls Try.prog 89 #[.pointer (some ⟨p, 0, none⟩), .agg #[.int .i64 t.kind, .int .u64 t.s0, .int .u64 t.s1, .int .u64 t.s2, .int .u64 t.s3, .int .i64 t.lo, .int .i64 t.hi, .slice A n c], .int .i64 (f : Int), .int .i64 (o : Int)] W fun e W' =>
    e = .returned (.tuple #[]) ∧ ∃ S' E' b v', PtA t f o S E bad S' E' b ∧ MI w0 p S' a z E' b v' W' ∧ Went p v v' W W' := by
  cases bad
  · obtain ⟨h1, h2, h3, h4, h5⟩ := hb rfl
    refine (hp w0 p S a z E v W f o A n c h ht hs hw h1 h2 h3 h4 h5).mono ?_
    rintro e W' ⟨rfl, S', E', b, v', h6, h7, h8⟩
    exact ⟨rfl, S', E', b, v', ⟨fun _ => h6, fun h => (by cases h)⟩, h7, h8⟩
  · refine (part_bad t w0 p S a z E v W f o A n c h).mono ?_
    rintro e W' ⟨rfl, h7, h8⟩
    exact ⟨rfl, S, E, true, v, ⟨fun h => (by cases h), fun _ => ⟨rfl, rfl, rfl⟩⟩, h7, h8⟩
section
variable {t kd : Tr} {f o S c fx : Nat} {E : List Ed} {a i cur S' S1 S2 S3 l ag nx bg : Nat} {E' E3 : List Ed} {b b1 b2 b3 : Bool}
theorem cap_rep {x y n d : Nat} (h1 : y ≤ x + 4 * ((n + 1) * d)) {r : Nat} (hd : d + 1 ≤ r) {K : Nat} (h : x + 4 * ((1 + n) * r) ≤ K) (hn : 1 ≤ n) : y + 8 ≤ K := by
  have h3 : (n + 1) * (d + 1) ≤ (n + 1) * r := Nat.mul_le_mul_left _ hd
  rw [Nat.mul_add] at h3
  rw [Nat.add_comm 1 n] at h
  omega
/-- room for the edges -/
theorem RepI.cap (hr : RepT t kd c) (h : RepI t kd f S E i cur S' E' b) (hE : E.length + 4 * (t.nodes * (2001 - S)) ≤ 1000000000) : E'.length + 8 ≤ 1000000000 := by
  have h1 := h.hi
  have h2 := h.lo
  rw [hr.nodes] at hE
  exact cap_rep h.few (by omega) hE (Tr.nodes_pos kd)
theorem cap_part {x y n d r m K : Nat} (h1 : y ≤ x + 4 * ((n + 1) * d)) (hd : d + r ≤ m) (h : x + 4 * ((1 + n) * m) ≤ K) (hr : 1 ≤ r) : y + 4 + 4 * (n * r) ≤ K := by
  have h3 : (n + 1) * (d + r) ≤ (n + 1) * m := Nat.mul_le_mul_left _ hd
  rw [Nat.mul_add, Nat.add_mul n 1 r] at h3
  rw [Nat.add_comm 1 n] at h
  omega
/-- the premises of a part's call -/
theorem RepI.goes (hr : RepT t kd c) (h : RepI t kd f S E i cur S' E' b) (hE : E.length + 4 * (t.nodes * (2001 - S)) ≤ 1000000000) (hf : f < S) (hst : StA S' b nx S1 b1) :
    b1 = false → cur < S1 ∧ nx < S1 ∧ cur ≠ nx ∧ S1 ≤ 2000 ∧ E'.length + 4 * (kd.nodes * (2001 - S1)) ≤ 1000000000 := fun hb => by
  have h1 := h.hi
  have h2 := h.lo
  rcases hst with ⟨h3, rfl, rfl, rfl⟩ | ⟨_, _, _, h3⟩
  · have h4 := h.at_ hb
    rw [hr.nodes] at hE
    have := cap_part h.few (show nx - S + (2001 - (nx + 1)) ≤ 2001 - S by omega) hE (by omega)
    omega
  · rw [hb] at h3; cases h3
theorem RepI.step (hr : RepT t kd c) (h : RepI t kd f S E i cur S' E' false) (hi : i < c) (hf : f < S) (hst : StA S' false nx S1 b1) (hp : PtA kd cur nx S1 E' b1 S2 E3 b2) : RepI t kd f S E (i + 1) nx S2 E3 b2 := by
  rcases hst with ⟨h3, rfl, rfl, rfl⟩ | ⟨h3, rfl, rfl, rfl⟩
  · exact h.next hr hi hf rfl (hp.1 rfl)
  · obtain ⟨rfl, rfl, rfl⟩ := hp.2 rfl
    exact h.none_left hr hi h3
/-- the loop that goes round: the premises of its part's call -/
theorem RepI.goes2 (hr : RepT t kd c) (h : RepI t kd f S E i cur S' E' b) (hE : E.length + 4 * (t.nodes * (2001 - S)) ≤ 1000000000) (hst : StA S' b l S1 b1) (hst2 : StA S1 b1 ag S2 b2) :
    b2 = false → l < S2 ∧ ag < S2 ∧ l ≠ ag ∧ S2 ≤ 2000 ∧ (E' ++ [freeE cur l]).length + 4 * (kd.nodes * (2001 - S2)) ≤ 1000000000 := fun hb => by
  have h1 := h.hi
  have h2 := h.lo
  rcases hst2 with ⟨h3, rfl, rfl, rfl⟩ | ⟨_, _, _, h3⟩
  · rcases hst with ⟨h4, rfl, rfl, rfl⟩ | ⟨_, _, _, h4⟩
    · rw [hr.nodes] at hE
      have := cap_part h.few (show l - S + (2001 - (l + 1 + 1)) ≤ 2001 - S by omega) hE (by omega)
      rw [List.length_append]
      simp only [List.length_cons, List.length_nil]
      omega
    · rw [hb] at h4; cases h4
  · rw [hb] at h3; cases h3
/-- behind the part that goes round there is room for some edges more -/
theorem RepI.cap2 (hr : RepT t kd c) (h : RepI t kd f S E i cur S' E' b) (hE : E.length + 4 * (t.nodes * (2001 - S)) ≤ 1000000000) (hst : StA S' b l S1 b1) (hst2 : StA S1 b1 ag S2 b2)
    (hp : PtA kd l ag S2 (E' ++ [freeE cur l]) b2 S3 E3 b3) : E3.length + 3 ≤ 1000000000 := by
  have h9 := h.cap hr hE
  have h1 := h.hi
  have h2 := h.lo
  cases hb : b2
  · have h8 := hp.1 hb
    have h6 := h8.few
    have h7 := h8.hi
    have h5 := h8.lo
    rcases hst2 with ⟨h3, rfl, rfl, rfl⟩ | ⟨_, _, _, h3⟩
    · rcases hst with ⟨h4, rfl, rfl, rfl⟩ | ⟨_, _, _, h4⟩
      · rw [hr.nodes] at hE
        have := cap_part h.few (show l - S + (1 + (S3 - (l + 1 + 1))) ≤ 2001 - S by omega) hE (by omega)
        rw [List.length_append] at h6
        simp only [List.length_cons, List.length_nil] at h6
        omega
      · rw [hb] at h4; cases h4
    · rw [hb] at h3; cases h3
  · obtain ⟨_, rfl, _⟩ := hp.2 hb
    rw [List.length_append]
    simp only [List.length_cons, List.length_nil]
    omega
/-- what goes round is made -/
theorem RepI.ends (hr : RepT t kd c) (h : RepI t kd f S E i cur S' E' b) (hhi : t.hi < 0) (hfx : (fx : Int) = max (t.lo - 1) 0) (hi : b = false → i = fx) (hf : f < S) (ho : o < S) (hfo : f ≠ o) (hst : StA S' b l S1 b1) (hst2 : StA S1 b1 ag S2 b2)
    (hp : PtA kd l ag S2 (E' ++ [freeE cur l]) b2 S3 E3 b3) : Grew t f o S E S3 (E3 ++ freeE ag l :: freeE ag o :: (if decide (t.lo = 0) = true then [freeE l o] else [])) b3 := by
  have hM : (freeE (cur : Int) l :: freeE ag l :: freeE ag o :: (if decide (t.lo = 0) = true then [freeE (l : Int) o] else [])).length ≤ 4 := by split <;> simp
  cases b
  · obtain rfl := hi rfl
    have hc := hr.c1
    have hl := hr.lo0
    rcases hst with ⟨h3, rfl, rfl, rfl⟩ | ⟨h3, rfl, rfl, rfl⟩
    · rcases hst2 with ⟨h4, rfl, rfl, rfl⟩ | ⟨h4, rfl, rfl, rfl⟩
      · exact h.around hr hhi hfx hf ho hfo (by omega) rfl rfl (hp.1 rfl)
      · obtain ⟨rfl, rfl, rfl⟩ := hp.2 rfl
        have := h.no_round (o := o) hr (by omega) (show 2000 = l + 1 by omega) (by omega) (by omega) hM
        simpa using this
    · rcases hst2 with ⟨h4, rfl, rfl, rfl⟩ | ⟨h4, rfl, rfl, rfl⟩
      · omega
      · obtain ⟨rfl, rfl, rfl⟩ := hp.2 rfl
        have := h.no_round (o := o) hr (by omega) h3.symm (by omega) (by omega) hM
        simpa using this
  · have hS := (h.full rfl).1
    rcases hst with ⟨h3, _⟩ | ⟨h3, rfl, rfl, rfl⟩
    · omega
    · rcases hst2 with ⟨h4, _⟩ | ⟨h4, rfl, rfl, rfl⟩
      · omega
      · obtain ⟨rfl, rfl, rfl⟩ := hp.2 rfl
        have := h.given_up (o := o) hr hM
        simpa using this
/-- the loop behind -/
theorem RepJ.from (h : RepI t kd f S E i cur S' E' b) (ho : o < S) (hfo : f ≠ o) (hi : b = false → i = a) : RepJ t kd f o S E a a cur S' E' b := by
  cases b
  · obtain rfl := hi rfl
    exact RepJ.begin h ho hfo rfl
  · refine ⟨h.lo, h.hi, ?_, h.full, fun h => (by cases h), fun h => (by cases h)⟩
    have := h.few
    simp only [if_true]
    omega
theorem RepJ.cap (hr : RepT t kd c) (h : RepJ t kd f o S E a i cur S' E' b) (hE : E.length + 4 * (t.nodes * (2001 - S)) ≤ 1000000000) : E'.length + 6 ≤ 1000000000 := by
  have h1 := h.hi
  have h2 := h.lo
  rw [hr.nodes] at hE
  have h3 : (if b = true then 2 else 0) ≤ 2 := by split <;> omega
  have h4 := h.few
  have := cap_rep (y := E'.length - 2) (x := E.length) (n := kd.nodes) (d := S' - S) (by omega) (by omega) hE (Tr.nodes_pos kd)
  omega
theorem RepJ.goes (hr : RepT t kd c) (h : RepJ t kd f o S E a i cur S' E' false) (hE : E.length + 4 * (t.nodes * (2001 - S)) ≤ 1000000000) (hst : StA S' false nx S1 b1) (hst2 : StA S1 b1 bg S2 b2) :
    b2 = false → bg < S2 ∧ nx < S2 ∧ bg ≠ nx ∧ S2 ≤ 2000 ∧ (E' ++ [freeE cur o] ++ [freeE cur bg]).length + 4 * (kd.nodes * (2001 - S2)) ≤ 1000000000 := fun hb => by
  have h1 := h.hi
  have h2 := h.lo
  rcases hst2 with ⟨h3, rfl, rfl, rfl⟩ | ⟨_, _, _, h3⟩
  · rcases hst with ⟨h4, rfl, rfl, rfl⟩ | ⟨_, _, _, h4⟩
    · rw [hr.nodes] at hE
      have h6 := h.few
      simp only [Bool.false_eq_true, if_false, Nat.add_zero] at h6
      have := cap_part h6 (show nx - S + (2001 - (nx + 1 + 1)) ≤ 2001 - S by omega) hE (by omega)
      rw [List.length_append, List.length_append]
      simp only [List.length_cons, List.length_nil]
      omega
    · rw [hb] at h4; cases h4
  · rw [hb] at h3; cases h3
theorem RepJ.step (hr : RepT t kd c) (h : RepJ t kd f o S E a i cur S' E' false) (hai : a ≤ i) (hi : i < c) (hf : f < S) (ho : o < S) (hfo : f ≠ o) (hst : StA S' false nx S1 b1) (hst2 : StA S1 b1 bg S2 b2)
    (hp : PtA kd bg nx S2 (E' ++ [freeE cur o] ++ [freeE cur bg]) b2 S3 E3 b3) : RepJ t kd f o S E a (i + 1) nx S3 E3 b3 := by
  rcases hst with ⟨h3, rfl, rfl, rfl⟩ | ⟨h3, rfl, rfl, rfl⟩
  · rcases hst2 with ⟨h4, rfl, rfl, rfl⟩ | ⟨h4, rfl, rfl, rfl⟩
    · exact h.next hr hai hi hf ho hfo rfl rfl (hp.1 rfl)
    · obtain ⟨rfl, rfl, rfl⟩ := hp.2 rfl
      exact h.none_left hr hi (by omega) (by omega) (by omega) (by omega)
  · rcases hst2 with ⟨h4, rfl, rfl, rfl⟩ | ⟨h4, rfl, rfl, rfl⟩
    · omega
    · obtain ⟨rfl, rfl, rfl⟩ := hp.2 rfl
      exact h.none_left hr hi (by omega) (by omega) (by omega) (by omega)
end
end Go.Proofs.Ytfjgfabochiflaa
/- The maker's repeat: round and round. -/
namespace Go.Proofs.Ytfjgfabochiflaa
open Go.RowKit
attribute [local go_sem ↓] Go.wp_at_zero Go.wp_at_succ

/-- what repeat says of a tree -/
def RepAt (t : Tr) : Prop := ∀ (w0 : World) (p S : Nat) (a z : Int) (E : List Ed) (v : Value) (W : World) (f o : Nat) (A : Option Addr) (n c : Nat),
  MI w0 p S a z E false v W → TrIn w0 t A n → Shp t → TrWf t → f < S → o < S → f ≠ o → S ≤ 2000 → E.length + 4 * (t.nodes * (2001 - S)) ≤ 1000000000 →
  Calls Try.prog 120 #[.pointer (some ⟨p, 0, none⟩), .agg #[.int .i64 t.kind, .int .u64 t.s0, .int .u64 t.s1, .int .u64 t.s2, .int .u64 t.s3, .int .i64 t.lo, .int .i64 t.hi, .slice A n c], .int .i64 (f : Int), .int .i64 (o : Int)] W fun e W' =>
    e = .returned (.tuple #[]) ∧ ∃ S' E' b v', Grew t f o S E S' E' b ∧ MI w0 p S' a z E' b v' W' ∧ Went p v v' W W'

set_option maxRecDepth 100000 in
set_option maxHeartbeats 16000000 in
theorem rep_opens (t : Tr) (hk : t.kind = 4) (hhi : t.hi < 0) (ih : ∀ k, k ∈ t.kids → PartAt k) : RepAt t := by
  intro w0 p S a z E v W f o A n c h ht hsh hwf hf ho hfo hS hE
  have hr := repT_of hsh.ok hk
  obtain ⟨W1, hW1⟩ : ∃ W1, W1 = W.alloc (tbox t A n c) := ⟨_, rfl⟩
  have h1 := h.alloc (tbox t A n c)
  have q5 : (W.alloc (tbox t A n c)).cell? ⟨W.heap.size, 5, none⟩ = some (.int .i64 t.lo) := by simp
  have q6 : (W.alloc (tbox t A n c)).cell? ⟨W.heap.size, 6, none⟩ = some (.int .i64 t.hi) := by simp
  have q7 : (W.alloc (tbox t A n c)).cell? ⟨W.heap.size, 7, none⟩ = some (.slice A n c) := by simp
  have hwn := Went.alloc (p := p) (v := v) W (tbox t A n c)
  have hgl : W.heap.size < (W.alloc (tbox t A n c)).heap.size := by simp
  rw [← hW1] at h1 q5 q6 q7 hwn hgl
  obtain ⟨KA, KN, KC, hkk⟩ := ht.out
  have hlen := hkk.len
  obtain rfl : n = 1 := by have := hr.one; omega
  obtain ⟨g, off, rfl, hbl, p0, p1, p2, p3, p4, p5, p6, p7⟩ := (hkk.keep h1.bel).eight (k := 0) (by omega)
  simp only [Nat.zero_mul, Nat.add_zero] at p0 p1 p2 p3 p4 p5 p6 p7
  have hkid := hkk.kid 0 (by omega)
  have hmem : t.kids.getD 0 noTr ∈ t.kids := getD_mem (by omega)
  have IH := ih _ hmem
  have hsk := hsh.kid hmem
  have hwk := hwf.kid hmem
  obtain ⟨kid, hkid'⟩ : ∃ kid, kid = t.kids.getD 0 noTr := ⟨_, rfl⟩
  obtain ⟨tms, htms⟩ : ∃ tms, tms = t.times := ⟨_, rfl⟩
  rw [← hkid'] at p0 p1 p2 p3 p4 p5 p6 hkid IH hsk hwk hr
  rw [← htms] at hr
  obtain ⟨ka, hka⟩ : ∃ x, x = KA 0 := ⟨_, rfl⟩
  obtain ⟨kn, hkn⟩ : ∃ x, x = KN 0 := ⟨_, rfl⟩
  obtain ⟨kc, hkc⟩ : ∃ x, x = KC 0 := ⟨_, rfl⟩
  rw [← hka, ← hkn] at hkid
  rw [← hka, ← hkn, ← hkc] at p7
  obtain ⟨W2, hW2⟩ : ∃ W2, W2 = W1.alloc (kbox kid ka kn kc) := ⟨_, rfl⟩
  have h2 := h1.alloc (kbox kid ka kn kc)
  have hwn2 := hwn.allocd (kbox kid ka kn kc)
  have hq5 : (W1.alloc (kbox kid ka kn kc)).cell? ⟨W.heap.size, 5, none⟩ = some (.int .i64 t.lo) := (World.cell?_alloc_lt _ _ _ hgl).trans q5
  have hq6 : (W1.alloc (kbox kid ka kn kc)).cell? ⟨W.heap.size, 6, none⟩ = some (.int .i64 t.hi) := (World.cell?_alloc_lt _ _ _ hgl).trans q6
  have hr8 : ∀ j, (W1.alloc (kbox kid ka kn kc)).cell? ⟨W1.heap.size, j, none⟩ = _ := fun j => cell_of_row _ _ _ _ _ _ (heap_alloc_new W1 _)
  have hgl2 : W.heap.size < (W1.alloc (kbox kid ka kn kc)).heap.size := by simp; omega
  have hgl3 : W1.heap.size < (W1.alloc (kbox kid ka kn kc)).heap.size := by simp
  rw [← hW2] at h2 hwn2 hq5 hq6 hr8 hgl2 hgl3
  have HQ5 := Lib.hid (fun (v' : Value) (wr : World) (hw : Went p v v' W2 wr) => (hw.cell (g := W.heap.size) hgl2 (by have := h.lt; omega) (fun e => by have := (h.row_lt e).2; omega)).trans hq5)
  have HQ6 := Lib.hid (fun (v' : Value) (wr : World) (hw : Went p v v' W2 wr) => (hw.cell (g := W.heap.size) hgl2 (by have := h.lt; omega) (fun e => by have := (h.row_lt e).2; omega)).trans hq6)
  have HBX := Lib.hid (fun (v' : Value) (wr : World) (hw : Went p v v' W2 wr) (j : Nat) => (hw.cell (g := W1.heap.size) (j := j) hgl3 (by have := h1.lt; omega) (fun e => by have := (h1.row_lt e).2; omega)).trans (hr8 j))
  obtain ⟨fx, hfx⟩ : ∃ fx : Nat, (fx : Int) = max (t.lo - 1) 0 := ⟨(max (t.lo - 1) 0).toNat, by omega⟩
  have hl0 := hr.lo0
  have hl20 := hr.lo20
  have hc1 := hr.c1
  have hfxc : fx ≤ tms := by omega
  have hmx2 : (if t.lo - 1 < 0 then 0 else t.lo - 1) = (fx : Int) := by rw [hfx]; split <;> omega
  have dhi : decide (t.hi < 0) = true := by simpa using hhi
  have HFX := Lib.hid (And.intro hfx hfxc)
  have hmx := hfx.symm
  have HRT := Lib.hid hr
  have HIK := Lib.hid IH
  have HF := Lib.hid (And.intro hf (And.intro ho (And.intro hfo (And.intro hE hhi))))
  have HKI := Lib.hid (And.intro hkid (And.intro hsk hwk))
  have HB := Lib.hid (RepI.begin (t := t) (kd := kid) (E := E) (f := f) hS)
  have H2 := Lib.hid h2
  have HWN := Lib.hid hwn2
  have HW1 := Lib.hid hW1
  have HW2 := Lib.hid hW2
  clear hk h ht hkk hsh hwf hf ho hfo hE hS h1 ih hlen hgl hr hkid' htms hkid IH hsk hwk hka hkn hkc hwn h2 hwn2 hr8 hgl2 hgl3 hfx hfxc hc1 hmem hhi
  go_enter Try.func120, Try.ntmps120
  go_upto_region 1 with (fail)
  rw [← HW1.out]
  clear HW1 hW1
  go_upto_region 2 with (fail)
  rw [← HW2.out]
  have HN2 := Lib.hid hW2
  clear HW2 hW2
  go_upto_region 6 with (fail)
  clear hq5 hq6
  go_loopw [2, 10] (fun fr iv wr => ∃ (i cur S' : Nat) (E' : List Ed) (b : Bool) (v' : Value), i ≤ fx ∧ iv = .int .i64 (i : Int) ∧ fr = .int .i64 (cur : Int) ∧ RepI t kid f S E i cur S' E' b ∧ MI w0 p S' a z E' b v' wr ∧ Went p v v' W2 wr) (fun _ iv _ => fx - (intOf iv).toNat)
  case atStart => exact ⟨0, f, S, E, false, v, by omega, rfl, rfl, HB.out, H2.out, Went.refl _ _ _⟩
  case round =>
    obtain ⟨i, cur, S', E', b, v', hin, rfl, rfl, hal, hmi, hwt⟩ := hrel
    obtain ⟨w3, rfl⟩ : ∃ w3 : World, w3 = wr := ⟨_, rfl⟩
    have qr5 := HQ5.out v' w3 hwt
    have qr6 := HQ6.out v' w3 hwt
    have m4 := hmi.blk.cell 4
    simp only [List.getElem?_cons_zero, List.getElem?_cons_succ] at m4
    have r0 := HBX.out v' w3 hwt 0
    have r1 := HBX.out v' w3 hwt 1
    have r2 := HBX.out v' w3 hwt 2
    have r3 := HBX.out v' w3 hwt 3
    have r4 := HBX.out v' w3 hwt 4
    have r5 := HBX.out v' w3 hwt 5
    have r6 := HBX.out v' w3 hwt 6
    have r7 := HBX.out v' w3 hwt 7
    simp at r0 r1 r2 r3 r4 r5 r6 r7
    have HAL := Lib.hid hal
    have HMI := Lib.hid hmi
    have HWT := Lib.hid hwt
    clear hal hmi hwt
    by_cases hgo : i < fx ∧ b = false
    · obtain ⟨hlt, rfl⟩ := hgo
      go_wp2_with (first
        | (go_at_call 88; refine (state_gen w0 p S' a z E' v' _ false HMI.out HAL.out.hi).mono ?_; rintro e w4 ⟨l1, S1, b1, rfl, hst, hm4, ht4⟩; have s0 := HBX.out v' w4 (HWT.out.trans ht4) 0; have s1 := HBX.out v' w4 (HWT.out.trans ht4) 1; have s2 := HBX.out v' w4 (HWT.out.trans ht4) 2; have s3 := HBX.out v' w4 (HWT.out.trans ht4) 3; have s4 := HBX.out v' w4 (HWT.out.trans ht4) 4; have s5 := HBX.out v' w4 (HWT.out.trans ht4) 5; have s6 := HBX.out v' w4 (HWT.out.trans ht4) 6; have s7 := HBX.out v' w4 (HWT.out.trans ht4) 7; simp at s0 s1 s2 s3 s4 s5 s6 s7; have HST := Lib.hid hst; have HM4 := Lib.hid hm4; have HT4 := Lib.hid (HWT.out.trans ht4); clear hst hm4 ht4)
        | (go_at_call 89; refine (part_gen HIK.out w0 p S1 a z E' v' _ b1 cur l1 ka kn kc HM4.out HKI.out.1 HKI.out.2.1 HKI.out.2.2 (HAL.out.goes HRT.out HF.out.2.2.2.1 HF.out.1 HST.out)).mono ?_; rintro e w5 ⟨rfl, S2, E2, b2, v2, hg2, hm2, ht2⟩; have HG2 := Lib.hid hg2; have HM2 := Lib.hid hm2; have HT2 := Lib.hid ht2; clear hg2 hm2 ht2))
      go_roundw
      case rel => exact ⟨i + 1, l1, S2, E2, b2, v2, by omega, by go_num, rfl, HAL.out.step HRT.out (by have := HFX.out.2; omega) HF.out.1 HST.out HG2.out, HM2.out, HT4.out.trans HT2.out⟩
      case measure => simp [intOf]; omega
    · have hend : b = false → i = fx := fun hb => by
        have : ¬ i < fx := fun h => hgo ⟨h, hb⟩
        omega
      have HEND := Lib.hid hend
      clear hend hgo
      by_cases hlo : t.lo = 0
      · have HLO := Lib.hid hlo
        have elo : (t.lo == 0) = true := by simpa using hlo
        clear hlo
        by_cases hlt : i < fx
        · obtain rfl : b = true := by
            cases b
            · exact absurd (HEND.out rfl) (by omega)
            · rfl
          have d1 : decide ((i : Int) < (fx : Int)) = true := by simpa using hlt
          go_wp2_with (first
            | (go_at_call 119; refine (free_any w0 p S3 a z _ v9 _ b3 l1 o HM9.out (by have := HCP.out; rw [List.length_append, List.length_append]; simp only [List.length_cons, List.length_nil]; omega)).mono ?_; rintro e w10 ⟨rfl, v10, hm10, ht10⟩; have HM10 := Lib.hid hm10; have HT10 := Lib.hid (HT9.out.trans ht10); clear hm10 ht10)
            | (go_at_call 119; refine (free_any w0 p S3 a z _ v8 _ b3 l2 o HM8.out (by have := HCP.out; rw [List.length_append]; simp only [List.length_cons, List.length_nil]; omega)).mono ?_; rintro e w9 ⟨rfl, v9, hm9, ht9⟩; have s5 := HQ5.out v9 w9 (HT8.out.trans ht9); have HM9 := Lib.hid hm9; have HT9 := Lib.hid (HT8.out.trans ht9); clear hm9 ht9)
            | (go_at_call 119; refine (free_any w0 p S3 a z E3 v7 _ b3 l2 l1 HM7.out (by have := HCP.out; omega)).mono ?_; rintro e w8 ⟨rfl, v8, hm8, ht8⟩; have HM8 := Lib.hid hm8; have HT8 := Lib.hid (HT7.out.trans ht8); clear hm8 ht8)
            | (go_at_call 89; refine (part_gen HIK.out w0 p S2 a z _ v6 _ b2 l1 l2 ka kn kc HM6.out HKI.out.1 HKI.out.2.1 HKI.out.2.2 (HAL.out.goes2 HRT.out HF.out.2.2.2.1 HST.out HST2.out)).mono ?_; rintro e w7 ⟨rfl, S3, E3, b3, v7, hg7, hm7, ht7⟩; have HG7 := Lib.hid hg7; have HM7 := Lib.hid hm7; have HT7 := Lib.hid (HT6.out.trans ht7); have HCP := Lib.hid (HAL.out.cap2 HRT.out HF.out.2.2.2.1 HST.out HST2.out hg7); clear hg7 hm7 ht7)
            | (go_at_call 119; refine (free_any w0 p S2 a z E' v' _ b2 cur l1 HM5.out (by have := HAL.out.cap HRT.out HF.out.2.2.2.1; omega)).mono ?_; rintro e w6 ⟨rfl, v6, hm6, ht6⟩; have s0 := HBX.out v6 w6 (HT5.out.trans ht6) 0; have s1 := HBX.out v6 w6 (HT5.out.trans ht6) 1; have s2 := HBX.out v6 w6 (HT5.out.trans ht6) 2; have s3 := HBX.out v6 w6 (HT5.out.trans ht6) 3; have s4 := HBX.out v6 w6 (HT5.out.trans ht6) 4; have s5 := HBX.out v6 w6 (HT5.out.trans ht6) 5; have s6 := HBX.out v6 w6 (HT5.out.trans ht6) 6; have s7 := HBX.out v6 w6 (HT5.out.trans ht6) 7; simp at s0 s1 s2 s3 s4 s5 s6 s7; have HM6 := Lib.hid hm6; have HT6 := Lib.hid (HT5.out.trans ht6); clear hm6 ht6)
            | (go_at_call 88; refine (state_gen w0 p S1 a z E' v' _ b1 HM4.out (HST.out.le HAL.out.hi)).mono ?_; rintro e w5 ⟨l2, S2, b2, rfl, hst, hm5, ht5⟩; have HST2 := Lib.hid hst; have HM5 := Lib.hid hm5; have HT5 := Lib.hid (HT4.out.trans ht5); clear hst hm5 ht5)
            | (go_at_call 88; refine (state_gen w0 p S' a z E' v' _ true HMI.out HAL.out.hi).mono ?_; rintro e w4 ⟨l1, S1, b1, rfl, hst, hm4, ht4⟩; have HST := Lib.hid hst; have HM4 := Lib.hid hm4; have HT4 := Lib.hid (HWT.out.trans ht4); clear hst hm4 ht4))
          go_returns
          have hge := HAL.out.ends HRT.out HF.out.2.2.2.2 HFX.out.1 (by first | exact HEND.out | (intro h; cases h)) HF.out.1 HF.out.2.1 HF.out.2.2.1 HST.out HST2.out HG7.out
          rw [if_pos (by have := HLO.out; simpa using this)] at hge
          refine ⟨by first | rfl | simp, S3, _, b3, v10, hge, ?_, HWN.out.trans HT10.out⟩
          have := HM10.out
          simpa only [List.append_assoc, List.cons_append, List.nil_append] using this
        · have d1 : decide ((i : Int) < (fx : Int)) = false := by simpa using hlt
          go_wp2_with (first
            | (go_at_call 119; refine (free_any w0 p S3 a z _ v9 _ b3 l1 o HM9.out (by have := HCP.out; rw [List.length_append, List.length_append]; simp only [List.length_cons, List.length_nil]; omega)).mono ?_; rintro e w10 ⟨rfl, v10, hm10, ht10⟩; have HM10 := Lib.hid hm10; have HT10 := Lib.hid (HT9.out.trans ht10); clear hm10 ht10)
            | (go_at_call 119; refine (free_any w0 p S3 a z _ v8 _ b3 l2 o HM8.out (by have := HCP.out; rw [List.length_append]; simp only [List.length_cons, List.length_nil]; omega)).mono ?_; rintro e w9 ⟨rfl, v9, hm9, ht9⟩; have s5 := HQ5.out v9 w9 (HT8.out.trans ht9); have HM9 := Lib.hid hm9; have HT9 := Lib.hid (HT8.out.trans ht9); clear hm9 ht9)
            | (go_at_call 119; refine (free_any w0 p S3 a z E3 v7 _ b3 l2 l1 HM7.out (by have := HCP.out; omega)).mono ?_; rintro e w8 ⟨rfl, v8, hm8, ht8⟩; have HM8 := Lib.hid hm8; have HT8 := Lib.hid (HT7.out.trans ht8); clear hm8 ht8)
            | (go_at_call 89; refine (part_gen HIK.out w0 p S2 a z _ v6 _ b2 l1 l2 ka kn kc HM6.out HKI.out.1 HKI.out.2.1 HKI.out.2.2 (HAL.out.goes2 HRT.out HF.out.2.2.2.1 HST.out HST2.out)).mono ?_; rintro e w7 ⟨rfl, S3, E3, b3, v7, hg7, hm7, ht7⟩; have HG7 := Lib.hid hg7; have HM7 := Lib.hid hm7; have HT7 := Lib.hid (HT6.out.trans ht7); have HCP := Lib.hid (HAL.out.cap2 HRT.out HF.out.2.2.2.1 HST.out HST2.out hg7); clear hg7 hm7 ht7)
            | (go_at_call 119; refine (free_any w0 p S2 a z E' v' _ b2 cur l1 HM5.out (by have := HAL.out.cap HRT.out HF.out.2.2.2.1; omega)).mono ?_; rintro e w6 ⟨rfl, v6, hm6, ht6⟩; have s0 := HBX.out v6 w6 (HT5.out.trans ht6) 0; have s1 := HBX.out v6 w6 (HT5.out.trans ht6) 1; have s2 := HBX.out v6 w6 (HT5.out.trans ht6) 2; have s3 := HBX.out v6 w6 (HT5.out.trans ht6) 3; have s4 := HBX.out v6 w6 (HT5.out.trans ht6) 4; have s5 := HBX.out v6 w6 (HT5.out.trans ht6) 5; have s6 := HBX.out v6 w6 (HT5.out.trans ht6) 6; have s7 := HBX.out v6 w6 (HT5.out.trans ht6) 7; simp at s0 s1 s2 s3 s4 s5 s6 s7; have HM6 := Lib.hid hm6; have HT6 := Lib.hid (HT5.out.trans ht6); clear hm6 ht6)
            | (go_at_call 88; refine (state_gen w0 p S1 a z E' v' _ b1 HM4.out (HST.out.le HAL.out.hi)).mono ?_; rintro e w5 ⟨l2, S2, b2, rfl, hst, hm5, ht5⟩; have HST2 := Lib.hid hst; have HM5 := Lib.hid hm5; have HT5 := Lib.hid (HT4.out.trans ht5); clear hst hm5 ht5)
            | (go_at_call 88; refine (state_gen w0 p S' a z E' v' _ b HMI.out HAL.out.hi).mono ?_; rintro e w4 ⟨l1, S1, b1, rfl, hst, hm4, ht4⟩; have HST := Lib.hid hst; have HM4 := Lib.hid hm4; have HT4 := Lib.hid (HWT.out.trans ht4); clear hst hm4 ht4))
          go_returns
          have hge := HAL.out.ends HRT.out HF.out.2.2.2.2 HFX.out.1 (by first | exact HEND.out | (intro h; cases h)) HF.out.1 HF.out.2.1 HF.out.2.2.1 HST.out HST2.out HG7.out
          rw [if_pos (by have := HLO.out; simpa using this)] at hge
          refine ⟨by first | rfl | simp, S3, _, b3, v10, hge, ?_, HWN.out.trans HT10.out⟩
          have := HM10.out
          simpa only [List.append_assoc, List.cons_append, List.nil_append] using this
      · have HLO := Lib.hid hlo
        have elo : (t.lo == 0) = false := by simpa using hlo
        clear hlo
        by_cases hlt : i < fx
        · obtain rfl : b = true := by
            cases b
            · exact absurd (HEND.out rfl) (by omega)
            · rfl
          have d1 : decide ((i : Int) < (fx : Int)) = true := by simpa using hlt
          go_wp2_with (first
            | (go_at_call 119; refine (free_any w0 p S3 a z _ v8 _ b3 l2 o HM8.out (by have := HCP.out; rw [List.length_append]; simp only [List.length_cons, List.length_nil]; omega)).mono ?_; rintro e w9 ⟨rfl, v9, hm9, ht9⟩; have s5 := HQ5.out v9 w9 (HT8.out.trans ht9); have HM9 := Lib.hid hm9; have HT9 := Lib.hid (HT8.out.trans ht9); clear hm9 ht9)
            | (go_at_call 119; refine (free_any w0 p S3 a z E3 v7 _ b3 l2 l1 HM7.out (by have := HCP.out; omega)).mono ?_; rintro e w8 ⟨rfl, v8, hm8, ht8⟩; have HM8 := Lib.hid hm8; have HT8 := Lib.hid (HT7.out.trans ht8); clear hm8 ht8)
            | (go_at_call 89; refine (part_gen HIK.out w0 p S2 a z _ v6 _ b2 l1 l2 ka kn kc HM6.out HKI.out.1 HKI.out.2.1 HKI.out.2.2 (HAL.out.goes2 HRT.out HF.out.2.2.2.1 HST.out HST2.out)).mono ?_; rintro e w7 ⟨rfl, S3, E3, b3, v7, hg7, hm7, ht7⟩; have HG7 := Lib.hid hg7; have HM7 := Lib.hid hm7; have HT7 := Lib.hid (HT6.out.trans ht7); have HCP := Lib.hid (HAL.out.cap2 HRT.out HF.out.2.2.2.1 HST.out HST2.out hg7); clear hg7 hm7 ht7)
            | (go_at_call 119; refine (free_any w0 p S2 a z E' v' _ b2 cur l1 HM5.out (by have := HAL.out.cap HRT.out HF.out.2.2.2.1; omega)).mono ?_; rintro e w6 ⟨rfl, v6, hm6, ht6⟩; have s0 := HBX.out v6 w6 (HT5.out.trans ht6) 0; have s1 := HBX.out v6 w6 (HT5.out.trans ht6) 1; have s2 := HBX.out v6 w6 (HT5.out.trans ht6) 2; have s3 := HBX.out v6 w6 (HT5.out.trans ht6) 3; have s4 := HBX.out v6 w6 (HT5.out.trans ht6) 4; have s5 := HBX.out v6 w6 (HT5.out.trans ht6) 5; have s6 := HBX.out v6 w6 (HT5.out.trans ht6) 6; have s7 := HBX.out v6 w6 (HT5.out.trans ht6) 7; simp at s0 s1 s2 s3 s4 s5 s6 s7; have HM6 := Lib.hid hm6; have HT6 := Lib.hid (HT5.out.trans ht6); clear hm6 ht6)
            | (go_at_call 88; refine (state_gen w0 p S1 a z E' v' _ b1 HM4.out (HST.out.le HAL.out.hi)).mono ?_; rintro e w5 ⟨l2, S2, b2, rfl, hst, hm5, ht5⟩; have HST2 := Lib.hid hst; have HM5 := Lib.hid hm5; have HT5 := Lib.hid (HT4.out.trans ht5); clear hst hm5 ht5)
            | (go_at_call 88; refine (state_gen w0 p S' a z E' v' _ true HMI.out HAL.out.hi).mono ?_; rintro e w4 ⟨l1, S1, b1, rfl, hst, hm4, ht4⟩; have HST := Lib.hid hst; have HM4 := Lib.hid hm4; have HT4 := Lib.hid (HWT.out.trans ht4); clear hst hm4 ht4))
          go_returns
          have hge := HAL.out.ends HRT.out HF.out.2.2.2.2 HFX.out.1 (by first | exact HEND.out | (intro h; cases h)) HF.out.1 HF.out.2.1 HF.out.2.2.1 HST.out HST2.out HG7.out
          rw [if_neg (by have := HLO.out; simpa using this)] at hge
          refine ⟨by first | rfl | simp, S3, _, b3, v9, hge, ?_, HWN.out.trans HT9.out⟩
          have := HM9.out
          simpa only [List.append_assoc, List.cons_append, List.nil_append] using this
        · have d1 : decide ((i : Int) < (fx : Int)) = false := by simpa using hlt
          go_wp2_with (first
            | (go_at_call 119; refine (free_any w0 p S3 a z _ v8 _ b3 l2 o HM8.out (by have := HCP.out; rw [List.length_append]; simp only [List.length_cons, List.length_nil]; omega)).mono ?_; rintro e w9 ⟨rfl, v9, hm9, ht9⟩; have s5 := HQ5.out v9 w9 (HT8.out.trans ht9); have HM9 := Lib.hid hm9; have HT9 := Lib.hid (HT8.out.trans ht9); clear hm9 ht9)
            | (go_at_call 119; refine (free_any w0 p S3 a z E3 v7 _ b3 l2 l1 HM7.out (by have := HCP.out; omega)).mono ?_; rintro e w8 ⟨rfl, v8, hm8, ht8⟩; have HM8 := Lib.hid hm8; have HT8 := Lib.hid (HT7.out.trans ht8); clear hm8 ht8)
            | (go_at_call 89; refine (part_gen HIK.out w0 p S2 a z _ v6 _ b2 l1 l2 ka kn kc HM6.out HKI.out.1 HKI.out.2.1 HKI.out.2.2 (HAL.out.goes2 HRT.out HF.out.2.2.2.1 HST.out HST2.out)).mono ?_; rintro e w7 ⟨rfl, S3, E3, b3, v7, hg7, hm7, ht7⟩; have HG7 := Lib.hid hg7; have HM7 := Lib.hid hm7; have HT7 := Lib.hid (HT6.out.trans ht7); have HCP := Lib.hid (HAL.out.cap2 HRT.out HF.out.2.2.2.1 HST.out HST2.out hg7); clear hg7 hm7 ht7)
            | (go_at_call 119; refine (free_any w0 p S2 a z E' v' _ b2 cur l1 HM5.out (by have := HAL.out.cap HRT.out HF.out.2.2.2.1; omega)).mono ?_; rintro e w6 ⟨rfl, v6, hm6, ht6⟩; have s0 := HBX.out v6 w6 (HT5.out.trans ht6) 0; have s1 := HBX.out v6 w6 (HT5.out.trans ht6) 1; have s2 := HBX.out v6 w6 (HT5.out.trans ht6) 2; have s3 := HBX.out v6 w6 (HT5.out.trans ht6) 3; have s4 := HBX.out v6 w6 (HT5.out.trans ht6) 4; have s5 := HBX.out v6 w6 (HT5.out.trans ht6) 5; have s6 := HBX.out v6 w6 (HT5.out.trans ht6) 6; have s7 := HBX.out v6 w6 (HT5.out.trans ht6) 7; simp at s0 s1 s2 s3 s4 s5 s6 s7; have HM6 := Lib.hid hm6; have HT6 := Lib.hid (HT5.out.trans ht6); clear hm6 ht6)
            | (go_at_call 88; refine (state_gen w0 p S1 a z E' v' _ b1 HM4.out (HST.out.le HAL.out.hi)).mono ?_; rintro e w5 ⟨l2, S2, b2, rfl, hst, hm5, ht5⟩; have HST2 := Lib.hid hst; have HM5 := Lib.hid hm5; have HT5 := Lib.hid (HT4.out.trans ht5); clear hst hm5 ht5)
            | (go_at_call 88; refine (state_gen w0 p S' a z E' v' _ b HMI.out HAL.out.hi).mono ?_; rintro e w4 ⟨l1, S1, b1, rfl, hst, hm4, ht4⟩; have HST := Lib.hid hst; have HM4 := Lib.hid hm4; have HT4 := Lib.hid (HWT.out.trans ht4); clear hst hm4 ht4))
          go_returns
          have hge := HAL.out.ends HRT.out HF.out.2.2.2.2 HFX.out.1 (by first | exact HEND.out | (intro h; cases h)) HF.out.1 HF.out.2.1 HF.out.2.2.1 HST.out HST2.out HG7.out
          rw [if_neg (by have := HLO.out; simpa using this)] at hge
          refine ⟨by first | rfl | simp, S3, _, b3, v9, hge, ?_, HWN.out.trans HT9.out⟩
          have := HM9.out
          simpa only [List.append_assoc, List.cons_append, List.nil_append] using this
end Go.Proofs.Ytfjgfabochiflaa
/- The maker's repeat: from so many to so many times. -/
namespace Go.Proofs.Ytfjgfabochiflaa
open Go.RowKit
attribute [local go_sem ↓] Go.wp_at_zero Go.wp_at_succ

set_option maxRecDepth 100000 in
set_option maxHeartbeats 16000000 in
theorem rep_shuts (t : Tr) (hk : t.kind = 4) (hhi : ¬ t.hi < 0) (ih : ∀ k, k ∈ t.kids → PartAt k) : RepAt t := by
  intro w0 p S a z E v W f o A n c h ht hsh hwf hf ho hfo hS hE
  have hr := repT_of hsh.ok hk
  obtain ⟨W1, hW1⟩ : ∃ W1, W1 = W.alloc (tbox t A n c) := ⟨_, rfl⟩
  have h1 := h.alloc (tbox t A n c)
  have q5 : (W.alloc (tbox t A n c)).cell? ⟨W.heap.size, 5, none⟩ = some (.int .i64 t.lo) := by simp
  have q6 : (W.alloc (tbox t A n c)).cell? ⟨W.heap.size, 6, none⟩ = some (.int .i64 t.hi) := by simp
  have q7 : (W.alloc (tbox t A n c)).cell? ⟨W.heap.size, 7, none⟩ = some (.slice A n c) := by simp
  have hwn := Went.alloc (p := p) (v := v) W (tbox t A n c)
  have hgl : W.heap.size < (W.alloc (tbox t A n c)).heap.size := by simp
  rw [← hW1] at h1 q5 q6 q7 hwn hgl
  obtain ⟨KA, KN, KC, hkk⟩ := ht.out
  have hlen := hkk.len
  obtain rfl : n = 1 := by have := hr.one; omega
  obtain ⟨g, off, rfl, hbl, p0, p1, p2, p3, p4, p5, p6, p7⟩ := (hkk.keep h1.bel).eight (k := 0) (by omega)
  simp only [Nat.zero_mul, Nat.add_zero] at p0 p1 p2 p3 p4 p5 p6 p7
  have hkid := hkk.kid 0 (by omega)
  have hmem : t.kids.getD 0 noTr ∈ t.kids := getD_mem (by omega)
  have IH := ih _ hmem
  have hsk := hsh.kid hmem
  have hwk := hwf.kid hmem
  obtain ⟨kid, hkid'⟩ : ∃ kid, kid = t.kids.getD 0 noTr := ⟨_, rfl⟩
  obtain ⟨tms, htms⟩ : ∃ tms, tms = t.times := ⟨_, rfl⟩
  rw [← hkid'] at p0 p1 p2 p3 p4 p5 p6 hkid IH hsk hwk hr
  rw [← htms] at hr
  obtain ⟨ka, hka⟩ : ∃ x, x = KA 0 := ⟨_, rfl⟩
  obtain ⟨kn, hkn⟩ : ∃ x, x = KN 0 := ⟨_, rfl⟩
  obtain ⟨kc, hkc⟩ : ∃ x, x = KC 0 := ⟨_, rfl⟩
  rw [← hka, ← hkn] at hkid
  rw [← hka, ← hkn, ← hkc] at p7
  obtain ⟨W2, hW2⟩ : ∃ W2, W2 = W1.alloc (kbox kid ka kn kc) := ⟨_, rfl⟩
  have h2 := h1.alloc (kbox kid ka kn kc)
  have hwn2 := hwn.allocd (kbox kid ka kn kc)
  have hq5 : (W1.alloc (kbox kid ka kn kc)).cell? ⟨W.heap.size, 5, none⟩ = some (.int .i64 t.lo) := (World.cell?_alloc_lt _ _ _ hgl).trans q5
  have hq6 : (W1.alloc (kbox kid ka kn kc)).cell? ⟨W.heap.size, 6, none⟩ = some (.int .i64 t.hi) := (World.cell?_alloc_lt _ _ _ hgl).trans q6
  have hr8 : ∀ j, (W1.alloc (kbox kid ka kn kc)).cell? ⟨W1.heap.size, j, none⟩ = _ := fun j => cell_of_row _ _ _ _ _ _ (heap_alloc_new W1 _)
  have hgl2 : W.heap.size < (W1.alloc (kbox kid ka kn kc)).heap.size := by simp; omega
  have hgl3 : W1.heap.size < (W1.alloc (kbox kid ka kn kc)).heap.size := by simp
  rw [← hW2] at h2 hwn2 hq5 hq6 hr8 hgl2 hgl3
  have HQ5 := Lib.hid (fun (v' : Value) (wr : World) (hw : Went p v v' W2 wr) => (hw.cell (g := W.heap.size) hgl2 (by have := h.lt; omega) (fun e => by have := (h.row_lt e).2; omega)).trans hq5)
  have HQ6 := Lib.hid (fun (v' : Value) (wr : World) (hw : Went p v v' W2 wr) => (hw.cell (g := W.heap.size) hgl2 (by have := h.lt; omega) (fun e => by have := (h.row_lt e).2; omega)).trans hq6)
  have HBX := Lib.hid (fun (v' : Value) (wr : World) (hw : Went p v v' W2 wr) (j : Nat) => (hw.cell (g := W1.heap.size) (j := j) hgl3 (by have := h1.lt; omega) (fun e => by have := (h1.row_lt e).2; omega)).trans (hr8 j))
  obtain ⟨gx, hgx⟩ : ∃ gx : Nat, (gx : Int) = t.hi := ⟨t.hi.toNat, by omega⟩
  obtain ⟨fx, hfx⟩ : ∃ fx : Nat, (fx : Int) = t.lo := ⟨t.lo.toNat, by have := hr.lo0; omega⟩
  have hl0 := hr.lo0
  have hl20 := hr.lo20
  have hc1 := hr.c1
  have hfxc : fx ≤ tms := by omega
  have hgxc : gx ≤ tms := by omega
  have hrh := hr.hi
  have hfg : fx ≤ gx := by omega
  have dhi : decide (t.hi < 0) = false := by simpa using hhi
  have HFX := Lib.hid (And.intro hfx (And.intro hfxc (And.intro hgx (And.intro hgxc hfg))))
  have HRT := Lib.hid hr
  have HIK := Lib.hid IH
  have HF := Lib.hid (And.intro hf (And.intro ho (And.intro hfo (And.intro hE hhi))))
  have HKI := Lib.hid (And.intro hkid (And.intro hsk hwk))
  have HB := Lib.hid (RepI.begin (t := t) (kd := kid) (E := E) (f := f) hS)
  have H2 := Lib.hid h2
  have HWN := Lib.hid hwn2
  have HW1 := Lib.hid hW1
  have HW2 := Lib.hid hW2
  have hfx20 : fx ≤ 20 := by omega
  have hgx20 : gx ≤ 20 := by omega
  have HGX := Lib.hid hgx
  clear hrh hfg hgxc hgx hk h ht hkk hsh hwf hf ho hfo hE hS h1 ih hlen hgl hr hkid' htms hkid IH hsk hwk hka hkn hkc hwn h2 hwn2 hr8 hgl2 hgl3 hfx hfxc hc1 hmem hhi
  go_enter Try.func120, Try.ntmps120
  go_upto_region 1 with (fail)
  rw [← HW1.out]
  clear HW1 hW1
  go_upto_region 2 with (fail)
  rw [← HW2.out]
  have HN2 := Lib.hid hW2
  clear HW2 hW2
  go_upto_region 6 with (fail)
  clear hq5 hq6
  go_loopw [2, 10] (fun fr iv wr => ∃ (i cur S' : Nat) (E' : List Ed) (b : Bool) (v' : Value), i ≤ fx ∧ iv = .int .i64 (i : Int) ∧ fr = .int .i64 (cur : Int) ∧ RepI t kid f S E i cur S' E' b ∧ MI w0 p S' a z E' b v' wr ∧ Went p v v' W2 wr) (fun _ iv _ => fx - (intOf iv).toNat)
  case atStart => exact ⟨0, f, S, E, false, v, by omega, rfl, rfl, HB.out, H2.out, Went.refl _ _ _⟩
  case round =>
    obtain ⟨i, cur, S', E', b, v', hin, rfl, rfl, hal, hmi, hwt⟩ := hrel
    obtain ⟨w3, rfl⟩ : ∃ w3 : World, w3 = wr := ⟨_, rfl⟩
    have qr5 := HQ5.out v' w3 hwt
    have qr6 := HQ6.out v' w3 hwt
    have m4 := hmi.blk.cell 4
    simp only [List.getElem?_cons_zero, List.getElem?_cons_succ] at m4
    have r0 := HBX.out v' w3 hwt 0
    have r1 := HBX.out v' w3 hwt 1
    have r2 := HBX.out v' w3 hwt 2
    have r3 := HBX.out v' w3 hwt 3
    have r4 := HBX.out v' w3 hwt 4
    have r5 := HBX.out v' w3 hwt 5
    have r6 := HBX.out v' w3 hwt 6
    have r7 := HBX.out v' w3 hwt 7
    simp at r0 r1 r2 r3 r4 r5 r6 r7
    have HAL := Lib.hid hal
    have HMI := Lib.hid hmi
    have HWT := Lib.hid hwt
    clear hal hmi hwt
    by_cases hgo : i < fx ∧ b = false
    · obtain ⟨hlt, rfl⟩ := hgo
      have d0 : decide ((i : Int) < t.lo) = true := by have := HFX.out.1; simp; omega
      go_wp2_with (first
        | (go_at_call 88; refine (state_gen w0 p S' a z E' v' _ false HMI.out HAL.out.hi).mono ?_; rintro e w4 ⟨l1, S1, b1, rfl, hst, hm4, ht4⟩; have s0 := HBX.out v' w4 (HWT.out.trans ht4) 0; have s1 := HBX.out v' w4 (HWT.out.trans ht4) 1; have s2 := HBX.out v' w4 (HWT.out.trans ht4) 2; have s3 := HBX.out v' w4 (HWT.out.trans ht4) 3; have s4 := HBX.out v' w4 (HWT.out.trans ht4) 4; have s5 := HBX.out v' w4 (HWT.out.trans ht4) 5; have s6 := HBX.out v' w4 (HWT.out.trans ht4) 6; have s7 := HBX.out v' w4 (HWT.out.trans ht4) 7; simp at s0 s1 s2 s3 s4 s5 s6 s7; have HST := Lib.hid hst; have HM4 := Lib.hid hm4; have HT4 := Lib.hid (HWT.out.trans ht4); clear hst hm4 ht4)
        | (go_at_call 89; refine (part_gen HIK.out w0 p S1 a z E' v' _ b1 cur l1 ka kn kc HM4.out HKI.out.1 HKI.out.2.1 HKI.out.2.2 (HAL.out.goes HRT.out HF.out.2.2.2.1 HF.out.1 HST.out)).mono ?_; rintro e w5 ⟨rfl, S2, E2, b2, v2, hg2, hm2, ht2⟩; have HG2 := Lib.hid hg2; have HM2 := Lib.hid hm2; have HT2 := Lib.hid ht2; clear hg2 hm2 ht2))
      go_roundw
      case rel => exact ⟨i + 1, l1, S2, E2, b2, v2, by omega, by go_num, rfl, HAL.out.step HRT.out (by have := HFX.out.2.1; omega) HF.out.1 HST.out HG2.out, HM2.out, HT4.out.trans HT2.out⟩
      case measure => simp [intOf]; omega
    · have hend : b = false → i = fx := fun hb => by
        have : ¬ i < fx := fun h => hgo ⟨h, hb⟩
        omega
      have HEND := Lib.hid hend
      clear hend hgo
      by_cases hlt : i < fx
      · obtain rfl : b = true := by
          cases b
          · exact absurd (HEND.out rfl) (by omega)
          · rfl
        have d1 : decide ((i : Int) < t.lo) = true := by have := HFX.out.1; simp; omega
        go_upto_region 21 with (fail)
        go_loopw [2, 14] (fun fr iv wr => ∃ (i cur S' : Nat) (E' : List Ed) (b : Bool) (v' : Value), fx ≤ i ∧ i ≤ gx ∧ iv = .int .i64 (i : Int) ∧ fr = .int .i64 (cur : Int) ∧ RepJ t kid f o S E fx i cur S' E' b ∧ MI w0 p S' a z E' b v' wr ∧ Went p v v' W2 wr) (fun _ iv _ => gx - (intOf iv).toNat)
        case atStart => exact ⟨fx, cur, S', E', _, v', by omega, HFX.out.2.2.2.2, by first | rfl | rw [HFX.out.1], rfl, RepJ.from HAL.out HF.out.2.1 HF.out.2.2.1 (by first | exact HEND.out | (intro h; cases h)), HMI.out, HWT.out⟩
        case round =>
          clear HAL HMI HWT HEND d1 qr5 qr6 m4 r0 r1 r2 r3 r4 r5 r6 r7
          obtain ⟨i, cur, S', E', b, v', hin0, hin, rfl, rfl, hal, hmi, hwt⟩ := hrel
          obtain ⟨w3, rfl⟩ : ∃ w3 : World, w3 = wr := ⟨_, rfl⟩
          have qr6 := HQ6.out v' w3 hwt
          have m4 := hmi.blk.cell 4
          simp only [List.getElem?_cons_zero, List.getElem?_cons_succ] at m4
          have HAL := Lib.hid hal
          have HMI := Lib.hid hmi
          have HWT := Lib.hid hwt
          clear hal hmi hwt
          by_cases hgo : i < gx ∧ b = false
          · obtain ⟨hlt, rfl⟩ := hgo
            have d2 : decide ((i : Int) < t.hi) = true := by have := HGX.out; simp; omega
            have HI := Lib.hid (And.intro hin0 hlt)
            go_wp2_with (first
              | (go_at_call 89; refine (part_gen HIK.out w0 p S2 a z _ v7 _ b2 l2 l1 ka kn kc HM7.out HKI.out.1 HKI.out.2.1 HKI.out.2.2 (HAL.out.goes HRT.out HF.out.2.2.2.1 HST.out HST2.out)).mono ?_; rintro e w8 ⟨rfl, S3, E3, b3, v8, hg8, hm8, ht8⟩; have HG8 := Lib.hid hg8; have HM8 := Lib.hid hm8; have HT8 := Lib.hid (HT7.out.trans ht8); clear hg8 hm8 ht8)
              | (go_at_call 119; refine (free_any w0 p S2 a z _ v6 _ b2 cur l2 HM6.out (by have := HAL.out.cap HRT.out HF.out.2.2.2.1; rw [List.length_append]; simp only [List.length_cons, List.length_nil]; omega)).mono ?_; rintro e w7 ⟨rfl, v7, hm7, ht7⟩; have s0 := HBX.out v7 w7 (HT6.out.trans ht7) 0; have s1 := HBX.out v7 w7 (HT6.out.trans ht7) 1; have s2 := HBX.out v7 w7 (HT6.out.trans ht7) 2; have s3 := HBX.out v7 w7 (HT6.out.trans ht7) 3; have s4 := HBX.out v7 w7 (HT6.out.trans ht7) 4; have s5 := HBX.out v7 w7 (HT6.out.trans ht7) 5; have s6 := HBX.out v7 w7 (HT6.out.trans ht7) 6; have s7 := HBX.out v7 w7 (HT6.out.trans ht7) 7; simp at s0 s1 s2 s3 s4 s5 s6 s7; have HM7 := Lib.hid hm7; have HT7 := Lib.hid (HT6.out.trans ht7); clear hm7 ht7)
              | (go_at_call 119; refine (free_any w0 p S2 a z E' v' _ b2 cur o HM5.out (by have := HAL.out.cap HRT.out HF.out.2.2.2.1; omega)).mono ?_; rintro e w6 ⟨rfl, v6, hm6, ht6⟩; have HM6 := Lib.hid hm6; have HT6 := Lib.hid (HT5.out.trans ht6); clear hm6 ht6)
              | (go_at_call 88; refine (state_gen w0 p S1 a z E' v' _ b1 HM4.out (HST.out.le HAL.out.hi)).mono ?_; rintro e w5 ⟨l2, S2, b2, rfl, hst, hm5, ht5⟩; have HST2 := Lib.hid hst; have HM5 := Lib.hid hm5; have HT5 := Lib.hid (HT4.out.trans ht5); clear hst hm5 ht5)
              | (go_at_call 88; refine (state_gen w0 p S' a z E' v' _ false HMI.out HAL.out.hi).mono ?_; rintro e w4 ⟨l1, S1, b1, rfl, hst, hm4, ht4⟩; have HST := Lib.hid hst; have HM4 := Lib.hid hm4; have HT4 := Lib.hid (HWT.out.trans ht4); clear hst hm4 ht4))
            go_roundw
            case rel => exact ⟨i + 1, l1, S3, E3, b3, v8, by omega, by omega, by go_num, rfl, HAL.out.step HRT.out HI.out.1 (by have := HFX.out.2.2.2.1; have := HI.out; omega) HF.out.1 HF.out.2.1 HF.out.2.2.1 HST.out HST2.out HG8.out, HM8.out, HT8.out⟩
            case measure => simp [intOf]; omega
          · have hend : b = false → (i : Int) = t.hi := fun hb => by
              have : ¬ i < gx := fun h => hgo ⟨h, hb⟩
              have := HGX.out
              omega
            have HEND := Lib.hid hend
            clear hend hgo
            by_cases hlt : i < gx
            · obtain rfl : b = true := by
                cases b
                · exact absurd (HEND.out rfl) (by have := HGX.out; omega)
                · rfl
              have d2 : decide ((i : Int) < t.hi) = true := by have := HGX.out; simp; omega
              go_wp2_with (go_at_call 119; refine (free_any w0 p S' a z E' v' _ true cur o HMI.out (by have := HAL.out.cap HRT.out HF.out.2.2.2.1; omega)).mono ?_; rintro e w4 ⟨rfl, v4, hm4, ht4⟩; have HM4 := Lib.hid hm4; have HT4 := Lib.hid (HWT.out.trans ht4); clear hm4 ht4)
              go_returns
              exact ⟨by first | rfl | simp, S', _, _, v4, HAL.out.done HRT.out HFX.out.1 (by first | exact HEND.out | (intro h; cases h)) (by have := HFX.out; omega) HF.out.2.1 HF.out.2.2.1, HM4.out, HWN.out.trans HT4.out⟩
            · have d2 : decide ((i : Int) < t.hi) = false := by have := HGX.out; simp; omega
              go_wp2_with (go_at_call 119; refine (free_any w0 p S' a z E' v' _ b cur o HMI.out (by have := HAL.out.cap HRT.out HF.out.2.2.2.1; omega)).mono ?_; rintro e w4 ⟨rfl, v4, hm4, ht4⟩; have HM4 := Lib.hid hm4; have HT4 := Lib.hid (HWT.out.trans ht4); clear hm4 ht4)
              go_returns
              exact ⟨by first | rfl | simp, S', _, _, v4, HAL.out.done HRT.out HFX.out.1 (by first | exact HEND.out | (intro h; cases h)) (by have := HFX.out; omega) HF.out.2.1 HF.out.2.2.1, HM4.out, HWN.out.trans HT4.out⟩
      · have d1 : decide ((i : Int) < t.lo) = false := by have := HFX.out.1; simp; omega
        go_upto_region 21 with (fail)
        go_loopw [2, 14] (fun fr iv wr => ∃ (i cur S' : Nat) (E' : List Ed) (b : Bool) (v' : Value), fx ≤ i ∧ i ≤ gx ∧ iv = .int .i64 (i : Int) ∧ fr = .int .i64 (cur : Int) ∧ RepJ t kid f o S E fx i cur S' E' b ∧ MI w0 p S' a z E' b v' wr ∧ Went p v v' W2 wr) (fun _ iv _ => gx - (intOf iv).toNat)
        case atStart => exact ⟨fx, cur, S', E', _, v', by omega, HFX.out.2.2.2.2, by first | rfl | rw [HFX.out.1], rfl, RepJ.from HAL.out HF.out.2.1 HF.out.2.2.1 (by first | exact HEND.out | (intro h; cases h)), HMI.out, HWT.out⟩
        case round =>
          clear HAL HMI HWT HEND d1 qr5 qr6 m4 r0 r1 r2 r3 r4 r5 r6 r7
          obtain ⟨i, cur, S', E', b, v', hin0, hin, rfl, rfl, hal, hmi, hwt⟩ := hrel
          obtain ⟨w3, rfl⟩ : ∃ w3 : World, w3 = wr := ⟨_, rfl⟩
          have qr6 := HQ6.out v' w3 hwt
          have m4 := hmi.blk.cell 4
          simp only [List.getElem?_cons_zero, List.getElem?_cons_succ] at m4
          have HAL := Lib.hid hal
          have HMI := Lib.hid hmi
          have HWT := Lib.hid hwt
          clear hal hmi hwt
          by_cases hgo : i < gx ∧ b = false
          · obtain ⟨hlt, rfl⟩ := hgo
            have d2 : decide ((i : Int) < t.hi) = true := by have := HGX.out; simp; omega
            have HI := Lib.hid (And.intro hin0 hlt)
            go_wp2_with (first
              | (go_at_call 89; refine (part_gen HIK.out w0 p S2 a z _ v7 _ b2 l2 l1 ka kn kc HM7.out HKI.out.1 HKI.out.2.1 HKI.out.2.2 (HAL.out.goes HRT.out HF.out.2.2.2.1 HST.out HST2.out)).mono ?_; rintro e w8 ⟨rfl, S3, E3, b3, v8, hg8, hm8, ht8⟩; have HG8 := Lib.hid hg8; have HM8 := Lib.hid hm8; have HT8 := Lib.hid (HT7.out.trans ht8); clear hg8 hm8 ht8)
              | (go_at_call 119; refine (free_any w0 p S2 a z _ v6 _ b2 cur l2 HM6.out (by have := HAL.out.cap HRT.out HF.out.2.2.2.1; rw [List.length_append]; simp only [List.length_cons, List.length_nil]; omega)).mono ?_; rintro e w7 ⟨rfl, v7, hm7, ht7⟩; have s0 := HBX.out v7 w7 (HT6.out.trans ht7) 0; have s1 := HBX.out v7 w7 (HT6.out.trans ht7) 1; have s2 := HBX.out v7 w7 (HT6.out.trans ht7) 2; have s3 := HBX.out v7 w7 (HT6.out.trans ht7) 3; have s4 := HBX.out v7 w7 (HT6.out.trans ht7) 4; have s5 := HBX.out v7 w7 (HT6.out.trans ht7) 5; have s6 := HBX.out v7 w7 (HT6.out.trans ht7) 6; have s7 := HBX.out v7 w7 (HT6.out.trans ht7) 7; simp at s0 s1 s2 s3 s4 s5 s6 s7; have HM7 := Lib.hid hm7; have HT7 := Lib.hid (HT6.out.trans ht7); clear hm7 ht7)
              | (go_at_call 119; refine (free_any w0 p S2 a z E' v' _ b2 cur o HM5.out (by have := HAL.out.cap HRT.out HF.out.2.2.2.1; omega)).mono ?_; rintro e w6 ⟨rfl, v6, hm6, ht6⟩; have HM6 := Lib.hid hm6; have HT6 := Lib.hid (HT5.out.trans ht6); clear hm6 ht6)
              | (go_at_call 88; refine (state_gen w0 p S1 a z E' v' _ b1 HM4.out (HST.out.le HAL.out.hi)).mono ?_; rintro e w5 ⟨l2, S2, b2, rfl, hst, hm5, ht5⟩; have HST2 := Lib.hid hst; have HM5 := Lib.hid hm5; have HT5 := Lib.hid (HT4.out.trans ht5); clear hst hm5 ht5)
              | (go_at_call 88; refine (state_gen w0 p S' a z E' v' _ false HMI.out HAL.out.hi).mono ?_; rintro e w4 ⟨l1, S1, b1, rfl, hst, hm4, ht4⟩; have HST := Lib.hid hst; have HM4 := Lib.hid hm4; have HT4 := Lib.hid (HWT.out.trans ht4); clear hst hm4 ht4))
            go_roundw
            case rel => exact ⟨i + 1, l1, S3, E3, b3, v8, by omega, by omega, by go_num, rfl, HAL.out.step HRT.out HI.out.1 (by have := HFX.out.2.2.2.1; have := HI.out; omega) HF.out.1 HF.out.2.1 HF.out.2.2.1 HST.out HST2.out HG8.out, HM8.out, HT8.out⟩
            case measure => simp [intOf]; omega
          · have hend : b = false → (i : Int) = t.hi := fun hb => by
              have : ¬ i < gx := fun h => hgo ⟨h, hb⟩
              have := HGX.out
              omega
            have HEND := Lib.hid hend
            clear hend hgo
            by_cases hlt : i < gx
            · obtain rfl : b = true := by
                cases b
                · exact absurd (HEND.out rfl) (by have := HGX.out; omega)
                · rfl
              have d2 : decide ((i : Int) < t.hi) = true := by have := HGX.out; simp; omega
              go_wp2_with (go_at_call 119; refine (free_any w0 p S' a z E' v' _ true cur o HMI.out (by have := HAL.out.cap HRT.out HF.out.2.2.2.1; omega)).mono ?_; rintro e w4 ⟨rfl, v4, hm4, ht4⟩; have HM4 := Lib.hid hm4; have HT4 := Lib.hid (HWT.out.trans ht4); clear hm4 ht4)
              go_returns
              exact ⟨by first | rfl | simp, S', _, _, v4, HAL.out.done HRT.out HFX.out.1 (by first | exact HEND.out | (intro h; cases h)) (by have := HFX.out; omega) HF.out.2.1 HF.out.2.2.1, HM4.out, HWN.out.trans HT4.out⟩
            · have d2 : decide ((i : Int) < t.hi) = false := by have := HGX.out; simp; omega
              go_wp2_with (go_at_call 119; refine (free_any w0 p S' a z E' v' _ b cur o HMI.out (by have := HAL.out.cap HRT.out HF.out.2.2.2.1; omega)).mono ?_; rintro e w4 ⟨rfl, v4, hm4, ht4⟩; have HM4 := Lib.hid hm4; have HT4 := Lib.hid (HWT.out.trans ht4); clear hm4 ht4)
              go_returns
              exact ⟨by first | rfl | simp, S', _, _, v4, HAL.out.done HRT.out HFX.out.1 (by first | exact HEND.out | (intro h; cases h)) (by have := HFX.out; omega) HF.out.2.1 HF.out.2.2.1, HM4.out, HWN.out.trans HT4.out⟩
end Go.Proofs.Ytfjgfabochiflaa
/- The maker's part: of any tree. -/
namespace Go.Proofs.Ytfjgfabochiflaa
open Go.RowKit
attribute [local go_sem ↓] Go.wp_at_zero Go.wp_at_succ

set_option maxRecDepth 100000 in
set_option maxHeartbeats 16000000 in
theorem part_rep (t : Tr) (hk : t.kind = 4) (hrep : RepAt t) : PartAt t := by
  intro w0 p S a z E v W f o A n c h ht hsh hwf hf ho hfo hS hE
  have e1 : (t.kind == 1) = false := by simp [hk]
  have e2 : (t.kind == 2) = false := by simp [hk]
  have e3 : (t.kind == 3) = false := by simp [hk]
  obtain ⟨W1, hW1⟩ : ∃ W1, W1 = W.alloc (tbox t A n c) := ⟨_, rfl⟩
  have h1 := h.alloc (tbox t A n c)
  have q0 : (W.alloc (tbox t A n c)).cell? ⟨W.heap.size, 0, none⟩ = some (.int .i64 t.kind) := by simp
  have q1 : (W.alloc (tbox t A n c)).cell? ⟨W.heap.size, 1, none⟩ = some (.int .u64 t.s0) := by simp
  have q2 : (W.alloc (tbox t A n c)).cell? ⟨W.heap.size, 2, none⟩ = some (.int .u64 t.s1) := by simp
  have q3 : (W.alloc (tbox t A n c)).cell? ⟨W.heap.size, 3, none⟩ = some (.int .u64 t.s2) := by simp
  have q4 : (W.alloc (tbox t A n c)).cell? ⟨W.heap.size, 4, none⟩ = some (.int .u64 t.s3) := by simp
  have q5 : (W.alloc (tbox t A n c)).cell? ⟨W.heap.size, 5, none⟩ = some (.int .i64 t.lo) := by simp
  have q6 : (W.alloc (tbox t A n c)).cell? ⟨W.heap.size, 6, none⟩ = some (.int .i64 t.hi) := by simp
  have q7 : (W.alloc (tbox t A n c)).cell? ⟨W.heap.size, 7, none⟩ = some (.slice A n c) := by simp
  have hwn := Lib.hid (Went.alloc (p := p) (v := v) W (tbox t A n c))
  rw [← hW1] at h1 q0 q1 q2 q3 q4 q5 q6 q7 hwn
  have c4 := h1.blk.cell 4
  simp only [List.getElem?_cons_zero, List.getElem?_cons_succ] at c4
  have HR := Lib.hid (hrep w0 p S a z E v W1 f o A n c h1 ht hsh hwf hf ho hfo hS hE)
  have HW1 := Lib.hid hW1
  clear hk h ht hsh hwf hf ho hfo hE hS h1 hrep
  go_enter Try.func89, Try.ntmps89
  go_upto_region 1 with (fail)
  rw [← HW1.out]
  clear HW1 hW1
  go_wp2_with (go_at_call 120; refine HR.out.mono ?_; rintro e w4 ⟨rfl, S2, E2, b2, v2, hg2, hm2, ht2⟩; have HG2 := Lib.hid hg2; have HM2 := Lib.hid hm2; have HT2 := Lib.hid ht2; clear hg2 hm2 ht2)
  go_returns
  exact ⟨by first | rfl | simp, S2, E2, b2, v2, HG2.out, HM2.out, hwn.out.trans HT2.out⟩

/-- what the maker's part makes of any tree -/
theorem part_any (t : Tr) : PartAt t := by
  induction t using Tr.ind with
  | h t ih =>
    intro w0 p S a z E v W f o A n c h ht hsh
    have hok := hsh.ok
    have hk : t.kind = 1 ∨ t.kind = 2 ∨ t.kind = 3 ∨ t.kind = 4 := by
      unfold OkT at hok
      omega
    rcases hk with hk | hk | hk | hk
    · exact part_set t hk w0 p S a z E v W f o A n c h ht hsh
    · by_cases h0 : t.kids.length = 0
      · exact part_none t hk h0 w0 p S a z E v W f o A n c h ht hsh
      · exact part_cat t hk h0 ih w0 p S a z E v W f o A n c h ht hsh
    · exact part_alt t hk ih w0 p S a z E v W f o A n c h ht hsh
    · by_cases hh : t.hi < 0
      · exact part_rep t hk (rep_opens t hk hh ih) w0 p S a z E v W f o A n c h ht hsh
      · exact part_rep t hk (rep_shuts t hk hh ih) w0 p S a z E v W f o A n c h ht hsh
end Go.Proofs.Ytfjgfabochiflaa
