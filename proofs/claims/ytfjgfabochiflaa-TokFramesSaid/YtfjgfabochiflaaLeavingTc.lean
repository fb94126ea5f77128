/- nfa.leaving. -/
import Derived.Test.YtfjgfabochiflaaNfaTc
import Derived.OwnWalk
import Derived.Deep.Cut
import Derived.Deep.CutRange
import Derived.Deep.CutBlock
import Derived.Deep.DrawnRows
import Derived.Deep.RegionLaw
namespace Go.Proofs.Ytfjgfabochiflaa
open Go.RowKit
attribute [local go_sem ↓] Go.wp_at_zero Go.wp_at_succ

theorem info22 : (Try.prog.info? 116).map (fun i => (i.zero, i.size, i.bytes)) = some (some (.slice none 0 0), 1, 24) := by kernel_rfl
theorem info44 : (Try.prog.info? 203).map (fun i => (i.zero.map (fun z => z.cells.size), i.size, i.bytes)) = some (some 7, 7, 56) := by kernel_rfl
theorem info4 : (Try.prog.info? 4).map (fun i => (i.zero, i.size, i.bytes)) = some (some (.bool false), 1, 1) := by kernel_rfl
theorem info3 : (Try.prog.info? 3).map (fun i => (i.zero, i.size, i.bytes)) = some (some (.int .i64 0), 1, 8) := by kernel_rfl
theorem made_one (v : Value) (n : Nat) : madeCells #[v] n = Array.replicate n v := by
  have h : ∀ k, (#[v] : Array Value)[k % 1]! = v := fun k => by rw [Nat.mod_one]; rfl
  unfold madeCells
  apply Array.ext
  · simp
  · intro i h1 h2
    rw [Array.getElem_map]
    exact (h _).trans (by simp)
theorem make_one (t e : TypeId) (v : Value) (bytes : Nat) (ht : Try.prog.underlying t = some (.slice e)) (hi : (Try.prog.info? e).map (fun i => (i.zero, i.size, i.bytes)) = some (some v, 1, bytes)) (hv : v.cells = #[v]) (S : Nat) (hS : S ≤ 2000) (hb : bytes ≤ 64) (W : World) :
    (Instr.makeSlice t (.int .i64 (S : Int)) (.int .i64 (S : Int))).run Try.prog W = .ok (.slice (some ⟨W.heap.size, 0, none⟩) S S) (W.alloc (.cells (Array.replicate S v) e)) := by
  obtain ⟨i, hi, hz, h1, h2⟩ := info_parts hi
  have hm : (i.bytes : Int) * (S : Int) ≤ 128000 := by
    have : i.bytes * S ≤ 64 * 2000 := Nat.mul_le_mul (by omega) hS
    rw [← Int.natCast_mul]
    omega
  rw [run_makeSlice W t e i v ht hi hz .i64 .i64 (S : Int) (S : Int) (by omega) (Int.le_refl _) (by rw [h1, Int.toNat_natCast]; omega) (by omega) (by omega)]
  rw [h1, hv, Nat.mul_one, made_one, Int.toNat_natCast]

/-- the rows of edges, read-only -/
structure RowsE (w : World) (A : Option Addr) (S : Nat) (E : List Ed) (RA : Nat → Option Addr) (rc : Nat → Nat) : Prop where
  arr : Arr w w.heap.size 1 A S (fun k _ => .slice (RA k) (leave E k).length (rc k))
  row : ∀ k, k < S → Arr w w.heap.size 7 (RA k) (leave E k).length (EdC (leave E k))
theorem RowsE.keep {w w' : World} {A : Option Addr} {S : Nat} {E : List Ed} {RA : Nat → Option Addr} {rc : Nat → Nat} (h : RowsE w A S E RA rc) (hb : Below w.heap.size w w') : RowsE w' A S E RA rc :=
  ⟨(h.arr.below hb).more hb.size, fun k hk => ((h.row k hk).below hb).more hb.size⟩
def sA : Value → Option Addr
  | .slice A _ _ => A
  | _ => none
def sC : Value → Nat
  | .slice _ _ c => c
  | _ => 0
theorem sA_block {v : Value} {a : Addr} (h : sA v = some a) : v.ownBlock = some a.block := by
  unfold sA at h
  split at h
  · subst h; rfl
  · cases h
theorem rowsE_of {w1 W : World} {g S : Nat} {vs : List Value} {E : List Ed} (h : RW w1 W g S vs (leave E)) : RowsE W (some ⟨g, 0, none⟩) S E (fun k => sA (vs.getD k undef)) (fun k => sC (vs.getD k undef)) := by
  have hv : ∀ k, k < S → vs.getD k undef = .slice (sA (vs.getD k undef)) (leave E k).length (sC (vs.getD k undef)) := fun k hk => by
    rcases (h.own k hk).2 with ⟨h1, h2⟩ | ⟨g, cap, cur, h1, _⟩
    · rw [h1, h2]; rfl
    · rw [h1]; rfl
  refine ⟨fun _ => ⟨g, 0, rfl, h.lt, fun k j hk hj => ?_⟩, fun k hk => ?_⟩
  · obtain rfl : j = 0 := by omega
    have := h.cell hk
    rw [show 0 + (k * 1 + 0) = k by omega, this]
    exact congrArg some (hv k hk)
  · have := h.own k hk
    rw [hv k hk] at this
    exact own_eds this

set_option maxRecDepth 100000 in
set_option maxHeartbeats 16000000 in
theorem leaving_ok (A : Option Addr) (n c S : Nat) (a z : Int) (E : List Ed) (w : World) (h : NfaIn w A n ⟨(S : Int), a, z, E⟩) (hr : RightN ⟨(S : Int), a, z, E⟩) :
    Calls Try.prog 124 #[.agg #[.int .i64 (S : Int), .int .i64 a, .int .i64 z, .slice A n c]] w fun e w' => ∃ g RA rc, e = .returned (.slice (some ⟨g, 0, none⟩) S S) ∧ RowsE w' (some ⟨g, 0, none⟩) S E RA rc ∧ Below w.heap.size w w' ∧ w.heap.size ≤ g ∧ g < w'.heap.size ∧ ∀ k a, k < S → RA k = some a → w.heap.size ≤ a.block ∧ a.block < w'.heap.size := by
  obtain ⟨i44, hi44', hp44⟩ := Option.map_eq_some_iff.1 info44
  have hz7 : i44.zero.map (fun z => z.cells.size) = some 7 := congrArg Prod.fst hp44
  obtain ⟨z44, hz44, hzc⟩ := Option.map_eq_some_iff.1 hz7
  have hsz44 : i44.size = 7 := congrArg (fun x => x.2.1) hp44
  have hbt44 : i44.bytes = 56 := congrArg (fun x => x.2.2) hp44
  have hb0 : Below w.heap.size w (w.alloc (.cells #[.int .i64 (S : Int), .int .i64 a, .int .i64 z, .slice A n c] 118)) := (Below.refl _ _).alloc (Nat.le_refl _) _
  have hsz : w.heap.size < (w.alloc (.cells #[.int .i64 (S : Int), .int .i64 a, .int .i64 z, .slice A n c] 118)).heap.size := by simp
  have q0 : (w.alloc (.cells #[.int .i64 (S : Int), .int .i64 a, .int .i64 z, .slice A n c] 118)).cell? ⟨w.heap.size, 0, none⟩ = some (.int .i64 (S : Int)) := by simp
  have q3 : (w.alloc (.cells #[.int .i64 (S : Int), .int .i64 a, .int .i64 z, .slice A n c] 118)).cell? ⟨w.heap.size, 3, none⟩ = some (.slice A n c) := by simp
  have hl : E.length = n := h.len
  have hfew : E.length ≤ 16000 := hr.few
  have hS : S ≤ 2000 := by have : (S : Int) ≤ 2000 := hr.hi; omega
  have H1 := Lib.hid (show Arr _ _ 7 A n (EdC E) from (h.keep hb0).arr)
  have HB := Lib.hid hb0
  have HOK := Lib.hid hr.ok
  have hmk := fun W => make_one 207 116 (.slice none 0 0) 24 Try.underlying207 info22 rfl S hS (by omega) W
  clear h hb0 hr
  go_enter Try.func124, Try.ntmps124
  go_wp2_with fail
  have hsw : w.heap.size + 1 = (w.alloc (.cells #[.int .i64 (S : Int), .int .i64 a, .int .i64 z, .slice A n c] 118)).heap.size := by simp
  generalize w.alloc (.cells #[.int .i64 (S : Int), .int .i64 a, .int .i64 z, .slice A n c] 118) = w1 at H1 HB q0 q3 hsz hsw ⊢
  rw [hsw]
  have hrep : Array.replicate S (Value.slice none 0 0) = (List.replicate S (Value.slice none 0 0)).toArray := by simp
  have HRW0 := Lib.hid (show RW w1 (w1.alloc (.cells (Array.replicate S (.slice none 0 0)) 116)) w1.heap.size S (List.replicate S (.slice none 0 0)) (fun _ => []) by
    rw [hrep]
    exact
    ⟨Blk.new _ _ _, by simp, fun i hi => by simp [hi]; exact World.ownsRow_nil _ _ _ _, fun i j hi hj _ b hb => by simp [hi, Value.ownBlock] at hb, (Below.refl _ _).alloc (Nat.le_refl _) _⟩)
  clear hrep
  generalize w1.alloc (.cells (Array.replicate S (.slice none 0 0)) 116) = w2 at HRW0 ⊢
  obtain ⟨g, hg⟩ : ∃ g, g = w1.heap.size := ⟨_, rfl⟩
  rw [← hg] at HRW0 ⊢
  have HG := Lib.hid hg
  clear hg hsw
  go_loopw [12] (fun i wr => ∃ (k : Nat) (vs : List Value), k ≤ n ∧ i = .int .i64 k ∧ RW w1 wr g S vs (leave (E.take k))) (fun i _ => n - (intOf i).toNat)
  case atStart => exact ⟨0, _, by omega, rfl, HRW0.out⟩
  case round =>
    obtain ⟨k, vs, hk, rfl, hrw⟩ := hrel
    obtain ⟨w3, rfl⟩ : ∃ w3 : World, w3 = wr := ⟨_, rfl⟩
    have HRW := Lib.hid hrw
    clear hrw
    by_cases hlt : k < n
    · have hbe : Below w1.heap.size w1 w3 := by rw [← HG.out]; exact HRW.out.bel
      obtain ⟨b, o, rfl, hbl, p0, p1, p2, p3, p4, p5, p6⟩ := (H1.out.below hbe).seven hlt
      have hnb : ¬ BadE (S : Int) (E.getD k noEd) := fun h9 => HOK.out ⟨k, by omega, h9⟩
      have hls : ∀ j, leave (E.take (k + 1)) j = if (E.getD k noEd).src = (j : Int) then leave (E.take k) j ++ [E.getD k noEd] else leave (E.take k) j := fun j => by
        rw [List.take_succ_eq_append_getElem (by omega : k < E.length), leave_snoc]
        have : E.getD k noEd = E[k]'(by omega) := by simp [show k < E.length by omega]
        rw [this]
      obtain ⟨e, he⟩ : ∃ e, e = E.getD k noEd := ⟨_, rfl⟩
      rw [← he] at p0 p1 p2 p3 p4 p5 p6 hnb hls
      have HLS := Lib.hid hls
      clear he hls
      obtain ⟨x, y, f, s0, s1, s2, s3⟩ := e
      simp only at p0 p1 p2 p3 p4 p5 p6
      unfold BadE at hnb
      simp only at hnb
      obtain ⟨i, rfl⟩ := Int.eq_ofNat_of_zero_le (show 0 ≤ x by omega)
      have hi : i < S := by omega
      have hiS : (i : Int) < (S : Int) := by omega
      go_wp2_with fail
      have HX1 := Lib.hid (HRW.out.alloc (.cells #[.int .i64 (i : Int), .int .i64 y, .bool f, .int .u64 s0, .int .u64 s1, .int .u64 s2, .int .u64 s3] 203))
      have hblk := Blk.new w3 203 [.int .i64 (i : Int), .int .i64 y, .bool f, .int .u64 s0, .int .u64 s1, .int .u64 s2, .int .u64 s3]
      obtain ⟨eb, heb⟩ : ∃ eb, eb = w3.heap.size := ⟨_, rfl⟩
      have hebf : some eb ≠ (vs.getD i undef).ownBlock := far_own (HRW.out.own i hi) (by omega)
      have hseb : eb < (w3.alloc (.cells #[.int .i64 (i : Int), .int .i64 y, .bool f, .int .u64 s0, .int .u64 s1, .int .u64 s2, .int .u64 s3] 203)).heap.size := by simp [heb]
      rw [← heb] at hblk ⊢
      have HBL := Lib.hid hblk
      clear hblk heb
      change Hid (Blk (w3.alloc (.cells #[.int .i64 (i : Int), .int .i64 y, .bool f, .int .u64 s0, .int .u64 s1, .int .u64 s2, .int .u64 s3] 203)) eb 203 _) at HBL
      generalize w3.alloc (.cells #[.int .i64 (i : Int), .int .i64 y, .bool f, .int .u64 s0, .int .u64 s1, .int .u64 s2, .int .u64 s3] 203) = W1 at HX1 HBL hseb ⊢
      have c0 := HBL.out.cell 0
      have c1 := HBL.out.cell 1
      have c2 := HBL.out.cell 2
      have c3 := HBL.out.cell 3
      have c4 := HBL.out.cell 4
      have c5 := HBL.out.cell 5
      have c6 := HBL.out.cell 6
      simp only [List.getElem?_cons_zero, List.getElem?_cons_succ] at c0 c1 c2 c3 c4 c5 c6
      have g0 := HX1.out.cell hi
      have g1 := HX1.out.blk.frozen i
      have g0a : (W1.alloc (.cells #[.int .i64 (i : Int), .int .i64 y, .bool f, .int .u64 s0, .int .u64 s1, .int .u64 s2, .int .u64 s3] 203)).cell? ⟨g, i, none⟩ = some (vs.getD i undef) := (World.cell?_alloc_lt _ _ _ HX1.out.lt).trans g0
      have c0a : (W1.alloc (.cells #[.int .i64 (i : Int), .int .i64 y, .bool f, .int .u64 s0, .int .u64 s1, .int .u64 s2, .int .u64 s3] 203)).cell? ⟨eb, 0, none⟩ = some (.int .i64 (i : Int)) := (World.cell?_alloc_lt _ _ _ hseb).trans c0
      obtain ⟨v, hv⟩ : ∃ v, v = vs.getD i undef := ⟨_, rfl⟩
      have hown := HX1.out.own i hi
      rw [← hv] at g0 g0a hown hebf
      have hll : (leave (E.take k) i).length ≤ 16000 := Nat.le_trans (leave_len _ _) (by rw [List.length_take]; omega)
      obtain ⟨m, hm⟩ : ∃ m, m = (leave (E.take k) i).length := ⟨_, rfl⟩
      rw [← hm] at hown hll
      have HOW := Lib.hid hown
      have HV := Lib.hid (And.intro hv hm)
      have y1 : (0 : Nat) < 1 := by omega
      have y2 : m + 1 ≤ maxLen := by unfold maxLen; omega
      have y3 : (m + 1) * 56 ≤ 140737488355328 := by omega
      have y4 : ∀ u ∈ edV ⟨(i : Int), y, f, s0, s1, s2, s3⟩, u.oneCell' = true := by intro u hu; simp [edV] at hu; rcases hu with rfl | rfl | rfl | rfl | rfl | rfl | rfl <;> rfl
      have y5 : (0 : Nat) < 7 := by omega
      have hfun : (fun j => if j = i then leave (E.take k) j ++ [⟨(i : Int), y, f, s0, s1, s2, s3⟩] else leave (E.take k) j) = leave (E.take (k + 1)) := by
        funext j
        rw [HLS.out j]
        by_cases e9 : j = i
        · rw [if_pos e9, if_pos (by rw [e9])]
        · rw [if_neg e9, if_neg (fun h9 => e9 (by have h8 : (i : Int) = (j : Int) := h9; omega))]
      have HFUN := Lib.hid hfun
      clear hbe p0 p1 p2 p3 p4 p5 p6 hv hm hown hnb hfun
      go_region_law (first
        | (refine step_append_lies _ rfl (.tmp 23) (.tmp 25) 116 rfl (g + 1) 203 i44 z44 7 56 Try.underlying116 hi44' hz44 hsz44 hbt44 hzc y5 v m (edsV (leave (E.take k) i)) (by rfl) ?_ ⟨_, 0, none⟩ 1 1 (edV ⟨(i : Int), y, f, s0, s1, s2, s3⟩) (by rfl) rfl ?_ y4 y1 y2 y3 ?_ _ rfl ?_
           · repeat first | exact HOW.out | refine World.ownsRow.drew ?_ | refine World.ownsRow.alloc ?_ _
           · exact World.news_of_block (heap_alloc_new _ _)
           · have := HX1.out.lt
             simp <;> omega
           intro g5 c9 w5 hown5 hgrow5 hat5 hlt5
           have hgr := hgrow5
           have hat := hat5
           rw [HV.out.1] at hgr hat
           have hm5 : RM w1 w5 g S vs (leave (E.take k)) i ⟨(i : Int), y, f, s0, s1, s2, s3⟩ (.slice (some ⟨g5, 0, none⟩) (m + 1) c9) := RW.app (g5 := g5) (by repeat first | exact HX1.out | refine RW.drew ?_ | refine RW.alloc ?_ _) hi hgr (by rw [edsV_snoc, ← HV.out.2]; exact hown5) hat
           have d0 := hm5.blk.frozen i
           have d1 : w5.cell? ⟨g, i, none⟩ = some v := by
             rw [hm5.blk.cell, ← HX1.out.blk.cell]
             exact g0
           have d2 : w5.cell? ⟨eb, 0, none⟩ = some (.int .i64 (i : Int)) := by
             rw [hgrow5.cell_far ⟨eb, 0, none⟩ (by simp <;> omega) hebf]
             exact (World.cell?_alloc_lt _ _ _ hseb).trans c0))
      all_goals
        have hrw6 := hm5.store hi
        rw [HFUN.out] at hrw6
        have HR6 := Lib.hid hrw6
        clear hrw6 hm5 hgr hat hown5 hgrow5
        go_wp2_with fail
        go_roundw
        case rel => exact ⟨k + 1, _, by omega, by go_num, HR6.out⟩
        case measure => simp [intOf]; omega
    · obtain rfl : k = n := by omega
      rw [List.take_of_length_le (by omega)] at HRW
      go_wp2_with fail
      go_returns
      have hgw : w.heap.size < g := by rw [HG.out]; exact hsz
      exact ⟨g, _, _, rfl, rowsE_of HRW.out, HB.out.trans (HRW.out.bel.mono (by rw [HG.out]; exact Nat.le_of_lt hsz)), Nat.le_of_lt hgw, HRW.out.lt, fun k9 a9 h9 e9 => by have := (HRW.out.own k9 h9).lt a9.block (sA_block e9); omega⟩
end Go.Proofs.Ytfjgfabochiflaa
