/- dfa.Build. -/
import Derived.Test.YtfjhcoeehjephaaBxMe
import Derived.Test.YtfjhcoeehjephaaBuTMe
import Derived.Test.YtfjhcoeehjephaaRegL
import Derived.Deep.DrawnRows
import Derived.Deep.RegionHeld3
import Derived.Test.YtfjhcoeehjephaaLeavingMe
import Derived.Deep.Cut
import Derived.Deep.CutRange
import Derived.Deep.CutBlock
import Derived.Test.YtfjhcoeehjephaaNfaMe
namespace Go.Proofs.Ytfjhcoeehjephaa
open Go.RowKit Go.Maps Go.WideMaps
attribute [local go_sem ↓] Go.wp_at_zero Go.wp_at_succ
attribute [local go_sem ↓] load_box store_box load_dfa store_dfa build_dfa

theorem info36 : (Try.prog.info? 36).map (fun i => (i.zero, i.size, i.bytes)) = some (some (.slice none 0 0), 1, 24) := by kernel_rfl
theorem info46 : (Try.prog.info? 46).map (fun i => (i.zero.map (fun z => z.cells.size), i.size, i.bytes)) = some (some 4, 4, 32) := by kernel_rfl

set_option maxRecDepth 100000 in
set_option maxHeartbeats 64000000 in
theorem build_d (A : Option Addr) (n c S : Nat) (a z : Int) (E : List Ed) (W : World) (h : NfaIn W A n ⟨(S : Int), a, z, E⟩) (hr : RightN ⟨(S : Int), a, z, E⟩) (hU : ∀ e ∈ E, (quadOf e).ok) :
    Calls Try.prog 10 #[.agg #[.int .i64 (S : Int), .int .i64 a, .int .i64 z, .slice A n c]] W fun e w' => DfaSays E S a z w' e ∧ Below W.heap.size W w' := by
  obtain ⟨i70, hi70, hp70⟩ := Option.map_eq_some_iff.1 info44
  have hz7 : i70.zero.map (fun z => z.cells.size) = some 7 := congrArg Prod.fst hp70
  obtain ⟨z70, hz70, hzc70⟩ := Option.map_eq_some_iff.1 hz7
  have hsz70 : i70.size = 7 := congrArg (fun x => x.2.1) hp70
  have hbt70 : i70.bytes = 56 := congrArg (fun x => x.2.2) hp70
  obtain ⟨i46, hi46, hp46⟩ := Option.map_eq_some_iff.1 info46
  have hz4 : i46.zero.map (fun z => z.cells.size) = some 4 := congrArg Prod.fst hp46
  obtain ⟨z46, hz46, hzc46⟩ := Option.map_eq_some_iff.1 hz4
  have hsz46 : i46.size = 4 := congrArg (fun x => x.2.1) hp46
  have hbt46 : i46.bytes = 32 := congrArg (fun x => x.2.2) hp46
  obtain ⟨i3, hi3, hz3, hsz3, hbt3⟩ := info_parts info3
  have hzV := zeroV30
  have hl : E.length = n := h.len
  have hfew : E.length ≤ 16000 := hr.few
  have hS : S ≤ 2000 := by have : (S : Int) ≤ 2000 := hr.hi; omega
  have hb0 : Below W.heap.size W ((W.alloc (.cells #[.int .i64 (S : Int), .int .i64 a, .int .i64 z, .slice A n c] 24)).alloc (.cells zs30 30)) := ((Below.refl _ _).alloc (Nat.le_refl _) _).alloc (by simp) _
  have hk0 : Blk ((W.alloc (.cells #[.int .i64 (S : Int), .int .i64 a, .int .i64 z, .slice A n c] 24)).alloc (.cells zs30 30)) W.heap.size 24 [.int .i64 (S : Int), .int .i64 a, .int .i64 z, .slice A n c] := (Blk.new W 24 [.int .i64 (S : Int), .int .i64 a, .int .i64 z, .slice A n c]).alloc _
  have hk1 : Blk ((W.alloc (.cells #[.int .i64 (S : Int), .int .i64 a, .int .i64 z, .slice A n c] 24)).alloc (.cells zs30 30)) (W.heap.size + 1) 30 (dV (fun _ => 0) (.slice none 0 0) (.slice none 0 0)) := by
    have := Blk.new (W.alloc (.cells #[.int .i64 (S : Int), .int .i64 a, .int .i64 z, .slice A n c] 24)) 30 (dV (fun _ => 0) (.slice none 0 0) (.slice none 0 0))
    rw [World.size_alloc] at this
    exact this
  have HIN := Lib.hid (h.keep hb0)
  have H1 := Lib.hid h.arr
  have HB := Lib.hid hb0
  have HK := Lib.hid (And.intro hk0 hk1)
  have HR := Lib.hid hr
  have HUU := Lib.hid hU
  have HNR := Lib.hid (fun w1 h9 => nright_any A n c (S : Int) a z E w1 h9)
  have HRY := Lib.hid (rightN_yes hr)
  have c0 := hk0.cell 0
  have c1 := hk0.cell 1
  have c2 := hk0.cell 2
  have c3 := hk0.cell 3
  simp only [List.getElem?_cons_zero, List.getElem?_cons_succ] at c0 c1 c2 c3
  have hmF := fun W => make_one 27 36 (.slice none 0 0) 24 Try.underlying27 info36 rfl S hS (by omega) W
  have hmO := fun W => make_one 71 22 (.slice none 0 0) 24 Try.underlying71 info22 rfl S hS (by omega) W
  clear h hb0 hr hU hk0 hk1
  go_enter Try.func10, Try.ntmps10
  go_upto_region 3 with (go_at_call 31; refine (HNR.out _ HIN.out).mono ?_; rintro e w1 ⟨rfl, hb1⟩; rw [HRY.out])
  have hk0 := HK.out.1.below hb1 HK.out.1.lt
  have hk1 := HK.out.2.below hb1 HK.out.2.lt
  have hbw := HB.out.trans (hb1.mono HB.out.size)
  have hs2 : W.heap.size + 1 + 1 ≤ w1.heap.size := by have := hb1.size; simpa using this
  clear c0 c1 c2 c3
  have c0 := hk0.cell 0
  have c1 := hk0.cell 1
  have c2 := hk0.cell 2
  have c3 := hk0.cell 3
  simp only [List.getElem?_cons_zero, List.getElem?_cons_succ] at c0 c1 c2 c3
  have HK0 := Lib.hid hk0
  have HK1 := Lib.hid hk1
  have HBW := Lib.hid hbw
  clear HK HB HIN HNR HRY hb1 hk0 hk1 hbw
  have hlw : W.heap.size < w1.heap.size := by omega
  have hlw1 : W.heap.size + 1 < w1.heap.size := by omega
  go_upto_region 7 with (fail)
  have hrF : Array.replicate S (Value.slice none 0 0) = (List.replicate S (Value.slice none 0 0)).toArray := by simp
  have hBI : BI W W.heap.size (W.heap.size + 1) w1.heap.size (w1.heap.size + 1) S [.int .i64 (S : Int), .int .i64 a, .int .i64 z, .slice A n c] (dV (fun _ => 0) (.slice none 0 0) (.slice none 0 0)) (List.replicate S (.slice none 0 0)) (List.replicate S (.slice none 0 0)) (List.replicate S (.slice none 0 0)) (List.replicate S (.slice none 0 0)) (.slice none 0 0) (fun _ => []) (fun _ => []) [] ((w1.alloc (.cells (Array.replicate S (.slice none 0 0)) 36)).alloc (.cells (Array.replicate S (.slice none 0 0)) 22)) := by
    rw [hrF]
    refine ⟨(HBW.out.alloc HBW.out.size _).alloc (by have := HBW.out.size; simp; omega) _, Nat.le_refl _, by omega, HBW.out.size, by have := HBW.out.size; omega, (HK0.out.alloc _).alloc _, (HK1.out.alloc _).alloc _, (Blk.new _ _ _).alloc _, ?_, by simp, by simp, fun i hi => ?_, fun i hi => ?_, World.ownsRow_nil _ _ _ _, fun i j hi hj _ b hb => ?_, fun i j hi hj _ b hb => ?_⟩
    · have := Blk.new (w1.alloc (.cells (List.replicate S (Value.slice none 0 0)).toArray 36)) 22 (List.replicate S (Value.slice none 0 0))
      rw [World.size_alloc] at this
      exact this
    · simp [hi]; exact World.ownsRow_nil _ _ _ _
    · simp [hi]; exact World.ownsRow_nil _ _ _ _
    · simp [hi, Value.ownBlock] at hb
    · simp [hi, Value.ownBlock] at hb
  have HBI := Lib.hid hBI
  obtain ⟨gF, hgF⟩ : ∃ g, g = w1.heap.size := ⟨_, rfl⟩
  rw [← hgF] at HBI hlw hlw1 hs2 ⊢
  generalize (w1.alloc (.cells (Array.replicate S (.slice none 0 0)) 36)).alloc (.cells (Array.replicate S (.slice none 0 0)) 22) = w2 at HBI ⊢
  obtain ⟨gO, hgO⟩ : ∃ g, g = gF + 1 := ⟨_, rfl⟩
  rw [← hgO] at HBI ⊢
  clear hgO hrF hBI hgF c0 c1 c2 c3 hmF hmO HK0 HK1 HBW hs2
  go_loopw [6, 41] (fun sv i wr => ∃ (k : Nat) (vF vO : List Value), k ≤ n ∧ i = .int .i64 k ∧ BI W W.heap.size (W.heap.size + 1) gF gO S [.int .i64 (S : Int), .int .i64 a, .int .i64 z, .slice A n c] (dV (fun _ => 0) (.slice none 0 0) (.slice none 0 0)) vF vF vO vO sv (freeD (E.take k)) (overE (E.take k)) (setsOf (E.take k)) wr) (fun _ i _ => n - (intOf i).toNat)
  case atStart => exact ⟨0, _, _, by omega, rfl, HBI.out⟩
  case round =>
    obtain ⟨k, vF, vO, hk, rfl, hbi⟩ := hrel
    obtain ⟨w3, rfl⟩ : ∃ w3 : World, w3 = wr := ⟨_, rfl⟩
    have HI := Lib.hid hbi
    clear hbi
    by_cases hlt : k < n
    · have d1 : decide ((k : Int) < (n : Int)) = true := by simp; omega
      obtain ⟨b, o, rfl, hbl, p0, p1, p2, p3, p4, p5, p6⟩ := (H1.out.below HI.out.bel).seven hlt
      have hnb : ¬ BadE (S : Int) (E.getD k noEd) := fun h9 => HR.out.ok ⟨k, show k < E.length by omega, h9⟩
      have htk := take_next E k noEd (by omega)
      obtain ⟨e, he⟩ : ∃ e, e = E.getD k noEd := ⟨_, rfl⟩
      rw [← he] at p0 p1 p2 p3 p4 p5 p6 hnb htk
      have HTK := Lib.hid htk
      clear he htk
      obtain ⟨x, y, f, s0, s1, s2, s3⟩ := e
      simp only at p0 p1 p2 p3 p4 p5 p6
      unfold BadE at hnb
      simp only at hnb
      obtain ⟨i, rfl⟩ := Int.eq_ofNat_of_zero_le (show 0 ≤ x by omega)
      have hi : i < S := by omega
      have hiS : (i : Int) < (S : Int) := by omega
      go_upto_region 9 with (fail)
      have HX1 := Lib.hid (HI.out.alloc (.cells #[.int .i64 (i : Int), .int .i64 y, .bool f, .int .u64 s0, .int .u64 s1, .int .u64 s2, .int .u64 s3] 70))
      have hblk := Blk.new w3 70 [.int .i64 (i : Int), .int .i64 y, .bool f, .int .u64 s0, .int .u64 s1, .int .u64 s2, .int .u64 s3]
      obtain ⟨eb, heb⟩ : ∃ eb, eb = w3.heap.size := ⟨_, rfl⟩
      have hseb : eb < (w3.alloc (.cells #[.int .i64 (i : Int), .int .i64 y, .bool f, .int .u64 s0, .int .u64 s1, .int .u64 s2, .int .u64 s3] 70)).heap.size := by simp [heb]
      have hebF : some eb ≠ (vF.getD i undef).ownBlock := far_own (HI.out.ownF i hi) (by omega)
      have hebO : some eb ≠ (vO.getD i undef).ownBlock := far_own (HI.out.ownO i hi) (by omega)
      rw [← heb] at hblk ⊢
      have HBL := Lib.hid hblk
      clear hblk heb hbl p0 p1 p2 p3 p4 p5 p6
      change Hid (Blk (w3.alloc (.cells #[.int .i64 (i : Int), .int .i64 y, .bool f, .int .u64 s0, .int .u64 s1, .int .u64 s2, .int .u64 s3] 70)) eb 70 _) at HBL
      generalize w3.alloc (.cells #[.int .i64 (i : Int), .int .i64 y, .bool f, .int .u64 s0, .int .u64 s1, .int .u64 s2, .int .u64 s3] 70) = w4 at HX1 HBL hseb ⊢
      have c0 := HBL.out.cell 0
      have c1 := HBL.out.cell 1
      have c2 := HBL.out.cell 2
      have c3 := HBL.out.cell 3
      have c4 := HBL.out.cell 4
      have c5 := HBL.out.cell 5
      have c6 := HBL.out.cell 6
      simp only [List.getElem?_cons_zero, List.getElem?_cons_succ] at c0 c1 c2 c3 c4 c5 c6
      cases f
      · have g0 := HX1.out.cellO hi
        have g1 := HX1.out.blkO.frozen i
        have hgOl := HX1.out.blkO.lt
        have hown := HX1.out.ownO i hi
        have hfun : (fun j => if j = i then overE (E.take k) j ++ [⟨(i : Int), y, false, s0, s1, s2, s3⟩] else overE (E.take k) j) = overE (E.take (k + 1)) := by
          funext j
          rw [HTK.out, overE_snoc]
          by_cases e9 : j = i
          · rw [if_pos e9, if_pos ⟨rfl, by rw [e9]⟩]
          · rw [if_neg e9, if_neg (fun h9 => e9 (by have h8 : (i : Int) = (j : Int) := h9.2; omega))]
        have hfre : freeD (E.take k) = freeD (E.take (k + 1)) := by
          funext j
          rw [HTK.out, freeD_snoc, if_neg (fun h9 => by have := h9.1; cases this)]
        have hset : setsOf (E.take k) ++ [⟨s0, s1, s2, s3⟩] = setsOf (E.take (k + 1)) := by rw [HTK.out, setsOf_snoc, if_neg (by simp)]; rfl
        have HF := Lib.hid (And.intro hfun (And.intro hfre hset))
        have hll : (overE (E.take k) i).length ≤ 16000 := Nat.le_trans (overE_len _ _) (by rw [List.length_take]; omega)
        have hsl : (setsOf (E.take k)).length ≤ 16000 := Nat.le_trans (setsOf_len _) (by rw [List.length_take]; omega)
        have g0a : (w4.alloc (.cells #[.int .i64 (i : Int), .int .i64 y, .bool false, .int .u64 s0, .int .u64 s1, .int .u64 s2, .int .u64 s3] 70)).cell? ⟨gO, i, none⟩ = some (vO.getD i undef) := (World.cell?_alloc_lt _ _ _ hgOl).trans g0
        have c0a : (w4.alloc (.cells #[.int .i64 (i : Int), .int .i64 y, .bool false, .int .u64 s0, .int .u64 s1, .int .u64 s2, .int .u64 s3] 70)).cell? ⟨eb, 0, none⟩ = some (.int .i64 (i : Int)) := (World.cell?_alloc_lt _ _ _ hseb).trans c0
        obtain ⟨v, hv⟩ : ∃ v, v = vO.getD i undef := ⟨_, rfl⟩
        obtain ⟨m, hm⟩ : ∃ m, m = (overE (E.take k) i).length := ⟨_, rfl⟩
        obtain ⟨ms, hms⟩ : ∃ m, m = (setsOf (E.take k)).length := ⟨_, rfl⟩
        rw [← hv] at g0 g0a hown hebO
        rw [← hm] at hown hll
        rw [← hms] at hsl
        have HOW := Lib.hid hown
        have HV := Lib.hid (And.intro hv (And.intro hm hms))
        have hcl : W.heap.size ≤ w4.heap.size := HX1.out.bel.size
        have y1 : (0 : Nat) < 1 := by omega
        have y2 : m + 1 ≤ maxLen := by unfold maxLen; omega
        have y3 : (m + 1) * 56 ≤ 140737488355328 := by omega
        have y4 : ∀ u ∈ edV ⟨(i : Int), y, false, s0, s1, s2, s3⟩, u.oneCell' = true := by intro u hu; simp [edV] at hu; rcases hu with rfl | rfl | rfl | rfl | rfl | rfl | rfl <;> rfl
        have y5 : (0 : Nat) < 7 := by omega
        clear hv hm hown hfun hfre hset hnb hms
        go_upto_region 11 with (fail)
        go_cut [] from 60 to 71 (fun wx => ∃ w6 : World, w6 = wx ∧ ∃ (vF' vO' : List Value), BI W W.heap.size (W.heap.size + 1) gF gO S [.int .i64 (S : Int), .int .i64 a, .int .i64 z, .slice (some ⟨b, o, none⟩) n c] (dV (fun _ => 0) (.slice none 0 0) (.slice none 0 0)) vF' vF' vO' vO' u6 (freeD (E.take (k + 1))) (overE (E.take (k + 1))) (setsOf (E.take k)) wx ∧ Blk wx eb 70 [.int .i64 (i : Int), .int .i64 y, .bool false, .int .u64 s0, .int .u64 s1, .int .u64 s2, .int .u64 s3])
        case first =>
            refine wp_region_L (S := SL [(12, fun W' => W'.cell? ⟨eb, 0, none⟩ = some (.int .i64 (i : Int)) ∧ W'.cell? ⟨eb, 1, none⟩ = some (.int .i64 y) ∧ W'.cell? ⟨eb, 2, none⟩ = some (.bool false) ∧ W'.cell? ⟨eb, 3, none⟩ = some (.int .u64 s0) ∧ W'.cell? ⟨eb, 4, none⟩ = some (.int .u64 s1) ∧ W'.cell? ⟨eb, 5, none⟩ = some (.int .u64 s2) ∧ W'.cell? ⟨eb, 6, none⟩ = some (.int .u64 s3) ∧ W'.cell? ⟨gO, i, none⟩ = some v)]) (by kernel_rfl) (SL.cons ⟨c0, c1, c2, c3, c4, c5, c6, g0⟩ SL.nil) (fun hHeld => ?_)
            refine takeP (i := 0) (v := ?v0_101) (List.getElem?_toArray.trans rfl) (by kernel_rfl) (by kernel_rfl) (by kernel_rfl) (fun _ _ _ h => h) (by kernel_rfl) (Or.inl ⟨by rfl, ?hy0_101⟩) hHeld (fun hHeld => ?rest0_101)
            case hy0_101 => (intro W hSw; go_simp <;> (with_reducible rfl))
            simp only [Act.put, List.setIfInBounds_toArray, List.set_cons_zero, List.set_cons_succ]
            refine takeP (i := 1) (v := ?v1_102) (List.getElem?_toArray.trans rfl) (by kernel_rfl) (by kernel_rfl) (by kernel_rfl) (fun _ _ _ h => h) (by kernel_rfl) (Or.inl ⟨by rfl, ?hy1_102⟩) hHeld (fun hHeld => ?rest1_102)
            case hy1_102 => (intro W hSw; go_simp <;> (with_reducible rfl))
            simp only [Act.put, List.setIfInBounds_toArray, List.set_cons_zero, List.set_cons_succ]
            refine takeP (i := 3) (v := ?v3_103) (List.getElem?_toArray.trans rfl) (by kernel_rfl) (by kernel_rfl) (by kernel_rfl) (fun _ _ _ h => h) (by kernel_rfl) (Or.inl ⟨by rfl, ?hy3_103⟩) hHeld (fun hHeld => ?rest3_103)
            case hy3_103 => (intro W hSw; go_simp <;> (with_reducible rfl))
            simp only [Act.put, List.setIfInBounds_toArray, List.set_cons_zero, List.set_cons_succ]
            refine takeP (i := 4) (v := ?v4_104) (List.getElem?_toArray.trans rfl) (by kernel_rfl) (by kernel_rfl) (by kernel_rfl) (fun _ _ _ h => h) (by kernel_rfl) (Or.inl ⟨by rfl, ?hy4_104⟩) hHeld (fun hHeld => ?rest4_104)
            case hy4_104 => (intro W hSw; go_simp <;> (with_reducible rfl))
            simp only [Act.put, List.setIfInBounds_toArray, List.set_cons_zero, List.set_cons_succ]
            refine takeL (i := 2) (v := ?v2_105) 12 (fun W' => W'.cell? ⟨eb, 0, none⟩ = some (.int .i64 (i : Int)) ∧ W'.cell? ⟨eb, 1, none⟩ = some (.int .i64 y) ∧ W'.cell? ⟨eb, 2, none⟩ = some (.bool false) ∧ W'.cell? ⟨eb, 3, none⟩ = some (.int .u64 s0) ∧ W'.cell? ⟨eb, 4, none⟩ = some (.int .u64 s1) ∧ W'.cell? ⟨eb, 5, none⟩ = some (.int .u64 s2) ∧ W'.cell? ⟨eb, 6, none⟩ = some (.int .u64 s3) ∧ W'.cell? ⟨gO, i, none⟩ = some v) [2, 11, 12] (by simp) (List.getElem?_toArray.trans rfl) (by kernel_rfl) (by kernel_rfl) (by kernel_rfl) (fun _ _ _ h => h) (by kernel_rfl) (Or.inl ⟨by rfl, ?hy2_105⟩) hHeld (fun hHeld => ?rest2_105)
            case hy2_105 => (intro W hSw; obtain ⟨hS0, hS1, hS2, hS3, hS4, hS5, hS6, hS7⟩ := hSw; go_simp <;> (with_reducible rfl))
            simp only [Act.put, List.setIfInBounds_toArray, List.set_cons_zero, List.set_cons_succ]
            refine takeL (i := 5) (v := ?v5_106) 12 (fun W' => W'.cell? ⟨eb, 0, none⟩ = some (.int .i64 (i : Int)) ∧ W'.cell? ⟨eb, 1, none⟩ = some (.int .i64 y) ∧ W'.cell? ⟨eb, 2, none⟩ = some (.bool false) ∧ W'.cell? ⟨eb, 3, none⟩ = some (.int .u64 s0) ∧ W'.cell? ⟨eb, 4, none⟩ = some (.int .u64 s1) ∧ W'.cell? ⟨eb, 5, none⟩ = some (.int .u64 s2) ∧ W'.cell? ⟨eb, 6, none⟩ = some (.int .u64 s3) ∧ W'.cell? ⟨gO, i, none⟩ = some v) [5, 6, 7, 10, 12] (by simp) (List.getElem?_toArray.trans rfl) (by kernel_rfl) (by kernel_rfl) (by kernel_rfl) (fun _ _ _ h => h) (by kernel_rfl) (Or.inl ⟨by rfl, ?hy5_106⟩) hHeld (fun hHeld => ?rest5_106)
            case hy5_106 => (intro W hSw; obtain ⟨hS0, hS1, hS2, hS3, hS4, hS5, hS6, hS7⟩ := hSw; go_simp <;> (with_reducible rfl))
            simp only [Act.put, List.setIfInBounds_toArray, List.set_cons_zero, List.set_cons_succ]
            refine takeP (i := 6) (v := ?v6_107) (List.getElem?_toArray.trans rfl) (by kernel_rfl) (by kernel_rfl) (by kernel_rfl) (fun _ _ _ h => h) (by kernel_rfl) (Or.inl ⟨by rfl, ?hy6_107⟩) hHeld (fun hHeld => ?rest6_107)
            case hy6_107 => (intro W hSw; go_simp <;> (with_reducible rfl))
            simp only [Act.put, List.setIfInBounds_toArray, List.set_cons_zero, List.set_cons_succ]
            refine takeL (i := 7) (v := ?v7_108) 12 (fun W' => W'.cell? ⟨eb, 0, none⟩ = some (.int .i64 (i : Int)) ∧ W'.cell? ⟨eb, 1, none⟩ = some (.int .i64 y) ∧ W'.cell? ⟨eb, 2, none⟩ = some (.bool false) ∧ W'.cell? ⟨eb, 3, none⟩ = some (.int .u64 s0) ∧ W'.cell? ⟨eb, 4, none⟩ = some (.int .u64 s1) ∧ W'.cell? ⟨eb, 5, none⟩ = some (.int .u64 s2) ∧ W'.cell? ⟨eb, 6, none⟩ = some (.int .u64 s3) ∧ W'.cell? ⟨gO, i, none⟩ = some v) [7, 10, 12] (by simp) (List.getElem?_toArray.trans rfl) (by kernel_rfl) (by kernel_rfl) (by kernel_rfl) (fun _ _ _ h => h) (by kernel_rfl) (Or.inl ⟨by rfl, ?hy7_108⟩) hHeld (fun hHeld => ?rest7_108)
            case hy7_108 => (intro W hSw; obtain ⟨hS0, hS1, hS2, hS3, hS4, hS5, hS6, hS7⟩ := hSw; go_simp <;> (with_reducible rfl))
            simp only [Act.put, List.setIfInBounds_toArray, List.set_cons_zero, List.set_cons_succ]
            refine takeL (i := 8) (v := ?v8_109) 12 (fun W' => W'.cell? ⟨eb, 0, none⟩ = some (.int .i64 (i : Int)) ∧ W'.cell? ⟨eb, 1, none⟩ = some (.int .i64 y) ∧ W'.cell? ⟨eb, 2, none⟩ = some (.bool false) ∧ W'.cell? ⟨eb, 3, none⟩ = some (.int .u64 s0) ∧ W'.cell? ⟨eb, 4, none⟩ = some (.int .u64 s1) ∧ W'.cell? ⟨eb, 5, none⟩ = some (.int .u64 s2) ∧ W'.cell? ⟨eb, 6, none⟩ = some (.int .u64 s3) ∧ W'.cell? ⟨gO, i, none⟩ = some v) [8, 9, 10, 12] (by simp) (List.getElem?_toArray.trans rfl) (by kernel_rfl) (by kernel_rfl) (by kernel_rfl) (fun _ _ _ h => h) (by kernel_rfl) (Or.inl ⟨by rfl, ?hy8_109⟩) hHeld (fun hHeld => ?rest8_109)
            case hy8_109 => (intro W hSw; obtain ⟨hS0, hS1, hS2, hS3, hS4, hS5, hS6, hS7⟩ := hSw; go_simp <;> (with_reducible rfl))
            simp only [Act.put, List.setIfInBounds_toArray, List.set_cons_zero, List.set_cons_succ]
            refine wpAnyL_ready (rs := [9]) (by kernel_rfl) (by simp) ?_
            refine AllReadyL.cons (List.getElem?_toArray.trans rfl) (fun K hK => ?_) AllReadyL.nil
            go_simp
            refine hK.out _ _ (SL.cons ⟨(World.cell?_alloc_lt _ _ _ hseb).trans c0, (World.cell?_alloc_lt _ _ _ hseb).trans c1, (World.cell?_alloc_lt _ _ _ hseb).trans c2, (World.cell?_alloc_lt _ _ _ hseb).trans c3, (World.cell?_alloc_lt _ _ _ hseb).trans c4, (World.cell?_alloc_lt _ _ _ hseb).trans c5, (World.cell?_alloc_lt _ _ _ hseb).trans c6, (World.cell?_alloc_lt _ _ _ hgOl).trans g0⟩ SL.nil) (fun hHeld => ?_)
            clear hK K
            try simp only [Act.put, List.setIfInBounds_toArray, List.set_cons_zero, List.set_cons_succ]
            refine wpAnyL_ready (rs := [10]) (by kernel_rfl) (by simp) ?_
            refine AllReadyL.cons (List.getElem?_toArray.trans rfl) (fun K hK => ?_) AllReadyL.nil
            refine step_append_lies _ rfl (.tmp 67) (.tmp 69) 22 rfl W.heap.size 70 i70 z70 7 56 Try.underlying22 hi70 hz70 hsz70 hbt70 hzc70 y5 v m (edsV (overE (E.take k) i)) (by rfl) (by exact HOW.out.drew.alloc _) ⟨_, 0, none⟩ 1 1 (edV ⟨(i : Int), y, false, s0, s1, s2, s3⟩) (by rfl) rfl (World.news_of_block (heap_alloc_new _ _)) y4 y1 y2 y3 (by simp <;> omega) _ rfl ?_
            intro g5 c9 w5 hown5 hgrow5 hat5 hlt5
            have hgr := hgrow5
            have hat := hat5
            rw [HV.out.1] at hgr hat
            have h59 : w5.ownsRow W.heap.size 70 7 (.slice (some ⟨g5, 0, none⟩) (m + 1) c9) ((overE (E.take k) i).length + 1) (edsV (overE (E.take k) i ++ [⟨(i : Int), y, false, s0, s1, s2, s3⟩])) := by rw [edsV_snoc, ← HV.out.2.1]; exact hown5
            have hm5 := BI.appO (W' := w5) (g5 := g5) (n5 := m + 1) (c5 := c9) (x := ⟨(i : Int), y, false, s0, s1, s2, s3⟩) (HX1.out.drew.alloc (.cells #[.int .i64 (i : Int), .int .i64 y, .bool false, .int .u64 s0, .int .u64 s1, .int .u64 s2, .int .u64 s3] 70)) hi hgr h59 hat
            have f0 := hm5.blkO.frozen i
            have q0 : w5.cell? ⟨gO, i, none⟩ = some v := by
              rw [hm5.blkO.cell, ← HX1.out.blkO.cell]
              exact g0
            have hb5 := (Blk.alloc (w := w4.drew) HBL.out (.cells #[.int .i64 (i : Int), .int .i64 y, .bool false, .int .u64 s0, .int .u64 s1, .int .u64 s2, .int .u64 s3] 70)).same (hgrow5.block eb (by simp <;> omega) hebO)
            have HM5 := Lib.hid (And.intro hm5 hb5)
            refine hK.out _ _ (SL.cons ⟨by simpa using hb5.cell 0, by simpa using hb5.cell 1, by simpa using hb5.cell 2, by simpa using hb5.cell 3, by simpa using hb5.cell 4, by simpa using hb5.cell 5, by simpa using hb5.cell 6, q0⟩ SL.nil) (fun hHeld => ?_)
            clear hK K hb5 hm5 h59 hgr hat hown5 hgrow5 hat5 hlt5
            try simp only [Act.put, List.setIfInBounds_toArray, List.set_cons_zero, List.set_cons_succ]
            refine takeP (i := 11) (v := ?v11_110) (List.getElem?_toArray.trans rfl) (by kernel_rfl) (by kernel_rfl) (by kernel_rfl) (fun _ _ _ h => h) (by kernel_rfl) (Or.inl ⟨by rfl, ?hy11_110⟩) hHeld (fun hHeld => ?rest11_110)
            case hy11_110 => (intro W hSw; go_simp <;> (with_reducible rfl))
            simp only [Act.put, List.setIfInBounds_toArray, List.set_cons_zero, List.set_cons_succ]
            refine wpAnyL_ready (rs := [12]) (by kernel_rfl) (by simp) ?_
            refine AllReadyL.cons (List.getElem?_toArray.trans rfl) (fun K hK => ?_) AllReadyL.nil
            go_simp
            refine hK.out _ _ (SL.off (by kernel_rfl) SL.nil) (fun hHeld => ?_)
            clear hK K
            try simp only [Act.put, List.setIfInBounds_toArray, List.set_cons_zero, List.set_cons_succ]
            refine wpAnyL_done (by kernel_rfl) ?_ _
            have hrw6 := HM5.out.1.stO i (.slice (some ⟨g5, 0, none⟩) (m + 1) c9)
            rw [HF.out.1, HF.out.2.1] at hrw6
            have HR6 := Lib.hid (And.intro hrw6 (blk_cell (k := i) (u := .slice (some ⟨g5, 0, none⟩) (m + 1) c9) HM5.out.1.blkO HM5.out.2 (by decide)))
            clear hrw6 q0 f0 HM5
            go_wp2_with fail
            go_meet
            exact ⟨_, rfl, _, _, HR6.out.1, HR6.out.2⟩
        case rest =>
            obtain ⟨w6, hw6, vF', vO', hbi6, hbl6⟩ := hcut
            subst hw6
            have e3 := hbl6.cell 3
            have e4 := hbl6.cell 4
            have e5 := hbl6.cell 5
            have e6 := hbl6.cell 6
            have hle := hbl6.lt
            simp only [List.getElem?_cons_zero, List.getElem?_cons_succ] at e3 e4 e5 e6
            have hown6 := hbi6.ownS
            rw [← HV.out.2.2] at hown6
            have HOW6 := Lib.hid hown6
            have HB6 := Lib.hid hbi6
            have hcl6 : W.heap.size ≤ w6.heap.size := hbi6.bel.size
            have z2 : ms + 1 ≤ maxLen := by unfold maxLen; omega
            have z4 : ∀ u ∈ ([.int .u64 s0, .int .u64 s1, .int .u64 s2, .int .u64 s3] : List Value), u.oneCell' = true := by intro u hu; simp at hu; rcases hu with rfl | rfl | rfl | rfl <;> rfl
            have hcn : ∀ j u, ([.int .u64 s0, .int .u64 s1, .int .u64 s2, .int .u64 s3] : List Value)[j]? = some u → (w6.alloc (.cells #[.int .u64 s0, .int .u64 s1, .int .u64 s2, .int .u64 s3] 46)).cell? ((⟨w6.heap.size, 0, none⟩ : Addr).add j) = some u := World.news_of_block (cs := #[.int .u64 s0, .int .u64 s1, .int .u64 s2, .int .u64 s3]) (heap_alloc_new _ _)
            have HZ := Lib.hid (And.intro z2 (And.intro z4 hcn))
            clear hbi6 hbl6 hown6 z2 z4 hcn y1 y2 y3 y4 y5 g0 g0a c0a hebF hebO HOW
            go_wp2_with (at_builtin; (refine wpList_append_lies _ rfl _ _ 72 rfl W.heap.size 46 i46 z46 4 32 Try.underlying72 hi46 hz46 hsz46 hbt46 hzc46 (by decide) _ ms _ rfl (HOW6.out.alloc _) ⟨w6.heap.size, 0, none⟩ 1 1 [.int .u64 s0, .int .u64 s1, .int .u64 s2, .int .u64 s3] rfl rfl HZ.out.2.2 HZ.out.2.1 (by omega) HZ.out.1 (by omega) (by simp; omega) _ rfl ?_; intro g7 c7 w7 hown7 hgrow7 hat7 _))
            go_roundw
            case rel =>
              have h79 : w7.ownsRow W.heap.size 46 4 (.slice (some ⟨g7, 0, none⟩) (ms + 1) c7) ((setsOf (E.take k)).length + 1) (quadsV (setsOf (E.take k) ++ [⟨s0, s1, s2, s3⟩])) := by rw [quadsV_snoc, ← HV.out.2.2]; exact hown7
              have h9 := (HB6.out.alloc _).appS hgrow7 h79
              rw [HF.out.2.2] at h9
              exact ⟨k + 1, _, _, by omega, by go_num, h9⟩
            case measure => simp [intOf]; omega
      · have g0 := HX1.out.cellF hi
        have g1 := HX1.out.blkF.frozen i
        have hgFl := HX1.out.blkF.lt
        have hown := HX1.out.ownF i hi
        have hfun : (fun j => if j = i then freeD (E.take k) j ++ [y] else freeD (E.take k) j) = freeD (E.take (k + 1)) := by
          funext j
          rw [HTK.out, freeD_snoc]
          by_cases e9 : j = i
          · rw [if_pos e9, if_pos ⟨rfl, by rw [e9]⟩]
          · rw [if_neg e9, if_neg (fun h9 => e9 (by have h8 : (i : Int) = (j : Int) := h9.2; omega))]
        have hovr : overE (E.take k) = overE (E.take (k + 1)) := by
          funext j
          rw [HTK.out, overE_snoc, if_neg (fun h9 => by have := h9.1; cases this)]
        have hset : setsOf (E.take k) = setsOf (E.take (k + 1)) := by rw [HTK.out, setsOf_snoc, if_pos rfl]
        have HF := Lib.hid (And.intro hfun (And.intro hovr hset))
        have hll : (freeD (E.take k) i).length ≤ 16000 := Nat.le_trans (freeD_len _ _) (by rw [List.length_take]; omega)
        have g0a : (w4.alloc (.cells #[.int .i64 y] 3)).cell? ⟨gF, i, none⟩ = some (vF.getD i undef) := (World.cell?_alloc_lt _ _ _ hgFl).trans g0
        have c0a : (w4.alloc (.cells #[.int .i64 y] 3)).cell? ⟨eb, 0, none⟩ = some (.int .i64 (i : Int)) := (World.cell?_alloc_lt _ _ _ hseb).trans c0
        obtain ⟨v, hv⟩ : ∃ v, v = vF.getD i undef := ⟨_, rfl⟩
        obtain ⟨m, hm⟩ : ∃ m, m = (freeD (E.take k) i).length := ⟨_, rfl⟩
        rw [← hv] at g0 g0a hown hebF
        rw [← hm] at hown hll
        have HOW := Lib.hid hown
        have HV := Lib.hid (And.intro hv hm)
        have hcl : W.heap.size ≤ w4.heap.size := HX1.out.bel.size
        have y1 : (0 : Nat) < 1 := by omega
        have y2 : m + 1 ≤ maxLen := by unfold maxLen; omega
        have y3 : (m + 1) * 8 ≤ 140737488355328 := by omega
        have y4 : ∀ u ∈ [Value.int .i64 y], u.oneCell' = true := by intro u hu; simp at hu; rw [hu]; rfl
        clear hv hm hown hfun hovr hset hnb
        go_upto_region 10 with (fail)
        refine wp_region_L (S := SL [(13, fun W' => W'.cell? ⟨eb, 0, none⟩ = some (.int .i64 (i : Int)) ∧ W'.cell? ⟨eb, 1, none⟩ = some (.int .i64 y) ∧ W'.cell? ⟨gF, i, none⟩ = some v)]) (by kernel_rfl) (SL.cons ⟨c0, c1, g0⟩ SL.nil) (fun hHeld => ?_)
        refine takeP (i := 0) (v := ?v0_111) (List.getElem?_toArray.trans rfl) (by kernel_rfl) (by kernel_rfl) (by kernel_rfl) (fun _ _ _ h => h) (by kernel_rfl) (Or.inl ⟨by rfl, ?hy0_111⟩) hHeld (fun hHeld => ?rest0_111)
        case hy0_111 => (intro W hSw; go_simp <;> (with_reducible rfl))
        simp only [Act.put, List.setIfInBounds_toArray, List.set_cons_zero, List.set_cons_succ]
        refine takeP (i := 1) (v := ?v1_112) (List.getElem?_toArray.trans rfl) (by kernel_rfl) (by kernel_rfl) (by kernel_rfl) (fun _ _ _ h => h) (by kernel_rfl) (Or.inl ⟨by rfl, ?hy1_112⟩) hHeld (fun hHeld => ?rest1_112)
        case hy1_112 => (intro W hSw; go_simp <;> (with_reducible rfl))
        simp only [Act.put, List.setIfInBounds_toArray, List.set_cons_zero, List.set_cons_succ]
        refine takeP (i := 3) (v := ?v3_113) (List.getElem?_toArray.trans rfl) (by kernel_rfl) (by kernel_rfl) (by kernel_rfl) (fun _ _ _ h => h) (by kernel_rfl) (Or.inl ⟨by rfl, ?hy3_113⟩) hHeld (fun hHeld => ?rest3_113)
        case hy3_113 => (intro W hSw; go_simp <;> (with_reducible rfl))
        simp only [Act.put, List.setIfInBounds_toArray, List.set_cons_zero, List.set_cons_succ]
        refine takeP (i := 4) (v := ?v4_114) (List.getElem?_toArray.trans rfl) (by kernel_rfl) (by kernel_rfl) (by kernel_rfl) (fun _ _ _ h => h) (by kernel_rfl) (Or.inl ⟨by rfl, ?hy4_114⟩) hHeld (fun hHeld => ?rest4_114)
        case hy4_114 => (intro W hSw; go_simp <;> (with_reducible rfl))
        simp only [Act.put, List.setIfInBounds_toArray, List.set_cons_zero, List.set_cons_succ]
        refine takeP (i := 8) (v := ?v8_115) (List.getElem?_toArray.trans rfl) (by kernel_rfl) (by kernel_rfl) (by kernel_rfl) (fun _ _ _ h => h) (by kernel_rfl) (Or.inl ⟨by rfl, ?hy8_115⟩) hHeld (fun hHeld => ?rest8_115)
        case hy8_115 => (intro W hSw; go_simp <;> (with_reducible rfl))
        simp only [Act.put, List.setIfInBounds_toArray, List.set_cons_zero, List.set_cons_succ]
        refine takeL (i := 2) (v := ?v2_116) 13 (fun W' => W'.cell? ⟨eb, 0, none⟩ = some (.int .i64 (i : Int)) ∧ W'.cell? ⟨eb, 1, none⟩ = some (.int .i64 y) ∧ W'.cell? ⟨gF, i, none⟩ = some v) [2, 12, 13] (by simp) (List.getElem?_toArray.trans rfl) (by kernel_rfl) (by kernel_rfl) (by kernel_rfl) (fun _ _ _ h => h) (by kernel_rfl) (Or.inl ⟨by rfl, ?hy2_116⟩) hHeld (fun hHeld => ?rest2_116)
        case hy2_116 => (intro W hSw; obtain ⟨hS1, hS2, hS3⟩ := hSw; go_simp <;> (with_reducible rfl))
        simp only [Act.put, List.setIfInBounds_toArray, List.set_cons_zero, List.set_cons_succ]
        refine takeL (i := 5) (v := ?v5_117) 13 (fun W' => W'.cell? ⟨eb, 0, none⟩ = some (.int .i64 (i : Int)) ∧ W'.cell? ⟨eb, 1, none⟩ = some (.int .i64 y) ∧ W'.cell? ⟨gF, i, none⟩ = some v) [5, 6, 7, 11, 13] (by simp) (List.getElem?_toArray.trans rfl) (by kernel_rfl) (by kernel_rfl) (by kernel_rfl) (fun _ _ _ h => h) (by kernel_rfl) (Or.inl ⟨by rfl, ?hy5_117⟩) hHeld (fun hHeld => ?rest5_117)
        case hy5_117 => (intro W hSw; obtain ⟨hS1, hS2, hS3⟩ := hSw; go_simp <;> (with_reducible rfl))
        simp only [Act.put, List.setIfInBounds_toArray, List.set_cons_zero, List.set_cons_succ]
        refine takeP (i := 6) (v := ?v6_118) (List.getElem?_toArray.trans rfl) (by kernel_rfl) (by kernel_rfl) (by kernel_rfl) (fun _ _ _ h => h) (by kernel_rfl) (Or.inl ⟨by rfl, ?hy6_118⟩) hHeld (fun hHeld => ?rest6_118)
        case hy6_118 => (intro W hSw; go_simp <;> (with_reducible rfl))
        simp only [Act.put, List.setIfInBounds_toArray, List.set_cons_zero, List.set_cons_succ]
        refine takeL (i := 7) (v := ?v7_119) 13 (fun W' => W'.cell? ⟨eb, 0, none⟩ = some (.int .i64 (i : Int)) ∧ W'.cell? ⟨eb, 1, none⟩ = some (.int .i64 y) ∧ W'.cell? ⟨gF, i, none⟩ = some v) [7, 11, 13] (by simp) (List.getElem?_toArray.trans rfl) (by kernel_rfl) (by kernel_rfl) (by kernel_rfl) (fun _ _ _ h => h) (by kernel_rfl) (Or.inl ⟨by rfl, ?hy7_119⟩) hHeld (fun hHeld => ?rest7_119)
        case hy7_119 => (intro W hSw; obtain ⟨hS1, hS2, hS3⟩ := hSw; go_simp <;> (with_reducible rfl))
        simp only [Act.put, List.setIfInBounds_toArray, List.set_cons_zero, List.set_cons_succ]
        refine takeL (i := 9) (v := ?v9_120) 13 (fun W' => W'.cell? ⟨eb, 0, none⟩ = some (.int .i64 (i : Int)) ∧ W'.cell? ⟨eb, 1, none⟩ = some (.int .i64 y) ∧ W'.cell? ⟨gF, i, none⟩ = some v) [9, 10, 11, 13] (by simp) (List.getElem?_toArray.trans rfl) (by kernel_rfl) (by kernel_rfl) (by kernel_rfl) (fun _ _ _ h => h) (by kernel_rfl) (Or.inl ⟨by rfl, ?hy9_120⟩) hHeld (fun hHeld => ?rest9_120)
        case hy9_120 => (intro W hSw; obtain ⟨hS1, hS2, hS3⟩ := hSw; go_simp <;> (with_reducible rfl))
        simp only [Act.put, List.setIfInBounds_toArray, List.set_cons_zero, List.set_cons_succ]
        refine wpAnyL_ready (rs := [10]) (by kernel_rfl) (by simp) ?_
        refine AllReadyL.cons (List.getElem?_toArray.trans rfl) (fun K hK => ?_) AllReadyL.nil
        go_simp
        have k6 := Blk.new w4.drew 3 [.int .i64 y]
        refine hK.out _ _ (SL.cons ⟨(World.cell?_alloc_lt _ _ _ hseb).trans c0, (World.cell?_alloc_lt _ _ _ hseb).trans c1, (World.cell?_alloc_lt _ _ _ hgFl).trans g0⟩ SL.nil) (fun hHeld => ?_)
        clear hK K
        try simp only [Act.put, List.setIfInBounds_toArray, List.set_cons_zero, List.set_cons_succ]
        refine wpAnyL_ready (rs := [11]) (by kernel_rfl) (by simp) ?_
        refine AllReadyL.cons (List.getElem?_toArray.trans rfl) (fun K hK => ?_) AllReadyL.nil
        refine step_append_lies _ rfl (.tmp 54) (.tmp 57) 36 rfl W.heap.size 3 i3 (.int .i64 0) 1 8 Try.underlying36 hi3 hz3 hsz3 hbt3 rfl y1 v m (numsV .i64 (freeD (E.take k) i)) (by rfl) (by exact HOW.out.drew.alloc _) ⟨_, 0, none⟩ 1 1 [Value.int .i64 y] (by rfl) rfl (one_news (by first | exact Blk.cell k6 0 | (simp; done) | (have h9 := Blk.cell k6 0; simpa using h9))) y4 y1 y2 y3 (by simp <;> omega) _ rfl ?_
        intro g5 c9 w5 hown5 hgrow5 hat5 hlt5
        have hgr := hgrow5
        have hat := hat5
        rw [HV.out.1] at hgr hat
        have h59 : w5.ownsRow W.heap.size 3 1 (.slice (some ⟨g5, 0, none⟩) (m + 1) c9) ((freeD (E.take k) i).length + 1) (numsV .i64 (freeD (E.take k) i ++ [y])) := by rw [numsV_snoc, ← HV.out.2]; exact hown5
        have hm5 := BI.appF (W' := w5) (g5 := g5) (n5 := m + 1) (c5 := c9) (x := y) (HX1.out.drew.alloc (.cells #[.int .i64 y] 3)) hi hgr h59 hat
        have f0 := hm5.blkF.frozen i
        have q0 : w5.cell? ⟨gF, i, none⟩ = some v := by
          rw [hm5.blkF.cell, ← HX1.out.blkF.cell]
          exact g0
        have q1 : w5.cell? ⟨eb, 0, none⟩ = some (.int .i64 (i : Int)) := by
          rw [hgrow5.cell_far ⟨eb, 0, none⟩ (by simp <;> omega) hebF]
          exact (World.cell?_alloc_lt _ _ _ hseb).trans c0
        have q2 : w5.cell? ⟨eb, 1, none⟩ = some (.int .i64 y) := by
          rw [hgrow5.cell_far ⟨eb, 1, none⟩ (by simp <;> omega) hebF]
          exact (World.cell?_alloc_lt _ _ _ hseb).trans c1
        have HM5 := Lib.hid (And.intro hm5 trivial)
        refine hK.out _ _ (SL.cons ⟨q1, q2, q0⟩ SL.nil) (fun hHeld => ?_)
        clear hK K q1 q2 hm5 h59 hgr hat hown5 hgrow5 hat5 hlt5
        try simp only [Act.put, List.setIfInBounds_toArray, List.set_cons_zero, List.set_cons_succ]
        refine takeP (i := 12) (v := ?v12_121) (List.getElem?_toArray.trans rfl) (by kernel_rfl) (by kernel_rfl) (by kernel_rfl) (fun _ _ _ h => h) (by kernel_rfl) (Or.inl ⟨by rfl, ?hy12_121⟩) hHeld (fun hHeld => ?rest12_121)
        case hy12_121 => (intro W hSw; go_simp <;> (with_reducible rfl))
        simp only [Act.put, List.setIfInBounds_toArray, List.set_cons_zero, List.set_cons_succ]
        refine wpAnyL_ready (rs := [13]) (by kernel_rfl) (by simp) ?_
        refine AllReadyL.cons (List.getElem?_toArray.trans rfl) (fun K hK => ?_) AllReadyL.nil
        go_simp
        refine hK.out _ _ (SL.off (by kernel_rfl) SL.nil) (fun hHeld => ?_)
        clear hK K
        try simp only [Act.put, List.setIfInBounds_toArray, List.set_cons_zero, List.set_cons_succ]
        refine wpAnyL_done (by kernel_rfl) ?_ _
        have hrw6 := HM5.out.1.stF i (.slice (some ⟨g5, 0, none⟩) (m + 1) c9)
        rw [HF.out.1, HF.out.2.1, HF.out.2.2] at hrw6
        have HR6 := Lib.hid hrw6
        clear hrw6 q0 f0 HM5
        go_wp2_with fail
        go_roundw
        case rel => exact ⟨k + 1, _, _, by omega, by go_num, HR6.out⟩
        case measure => simp [intOf]; omega
    · obtain rfl : k = n := by omega
      have d1 : decide ((k : Int) < (k : Int)) = false := by simp
      rw [List.take_of_length_le (by omega)] at HI
      have hsa := HI.out.setsA
      have hri := HI.out.rowsI
      have hro := HI.out.rowsO
      have hk0 := HI.out.blkN
      have hk1 := HI.out.blkR
      have hbw := HI.out.bel
      obtain ⟨A3, hA3⟩ : ∃ A3, A3 = sA u6 := ⟨_, rfl⟩
      obtain ⟨c3, hc3⟩ : ∃ c3, c3 = sC u6 := ⟨_, rfl⟩
      obtain ⟨ns, hns⟩ : ∃ ns, ns = (setsOf E).length := ⟨_, rfl⟩
      rw [← hA3, ← hc3, ← hns] at hsa
      obtain ⟨rfl, hsr⟩ := hsa
      have hnsl : ns ≤ 16000 := by rw [hns]; exact Nat.le_trans (setsOf_len _) (by omega)
      have hqs : ∀ q ∈ setsOf E, q.ok := fun q hq => by
        unfold setsOf at hq
        obtain ⟨e, he, rfl⟩ := List.mem_map.1 hq
        exact HUU.out e (List.mem_filter.1 he).1
      generalize (fun k => sA (vF.getD k undef)) = RA at hri
      generalize (fun k => sC (vF.getD k undef)) = rc at hri
      generalize (fun k => sA (vO.getD k undef)) = RB at hro
      generalize (fun k => sC (vO.getD k undef)) = rd at hro
      have hcl := fun w9 h9 => classes_any A3 ns c3 (setsOf E) w9 hns hnsl hqs h9
      have HRI := Lib.hid hri
      have HRO := Lib.hid hro
      have HK0 := Lib.hid hk0
      have HK1 := Lib.hid hk1
      have HBW := Lib.hid hbw
      have HSR := Lib.hid hsr
      have HCL := Lib.hid hcl
      have hz26 := zeroV26
      clear hA3 hc3 hns hqs hri hro hk0 hk1 hbw hsr hcl HI
      go_upto_region 15 with (go_at_call 32; refine (HCL.out _ HSR.out).mono ?_; rintro e w4 ⟨cls, many, hcls, rfl, hb4⟩; have HC := Lib.hid hcls; have HB4 := Lib.hid hb4; have hnew : Blk (w4.alloc (.cells zs26 26)) w4.heap.size 26 (bytV (fun _ => 0)) := Blk.new _ _ _; have hst26 := store26 (f := cls) hnew; have HNEW := Lib.hid hnew; clear hcls hb4 hnew)
      have hmh := HC.out.hi
      have hmL := fun W => make_one 75 5 (.int .u8 0) 1 Try.underlying75 info5 rfl many (by omega) (by omega) W
      go_upto_region 17 with (fail)
      have hrL : Array.replicate many (Value.int .u8 0) = (leastV many (fun _ => 0)).toArray := by
        simp [leastV, List.map_const']
      rw [hrL]
      have hC0 : Blk (((w4.alloc (.cells zs26 26)).setRow w4.heap.size (bytV cls).toArray).alloc (.cells (leastV many (fun _ => 0)).toArray 5)) w4.heap.size 26 (bytV cls) := by
        have := (HNEW.out.row (bytV cls).toArray).alloc (.cells (leastV many (fun _ => 0)).toArray 5)
        simpa using this
      have hL0 : Blk (((w4.alloc (.cells zs26 26)).setRow w4.heap.size (bytV cls).toArray).alloc (.cells (leastV many (fun _ => 0)).toArray 5)) (w4.heap.size + 1) 5 (leastV many (fun _ => 0)) := by
        have := Blk.new ((w4.alloc (.cells zs26 26)).setRow w4.heap.size (bytV cls).toArray) 5 (leastV many (fun _ => 0))
        rw [show ((w4.alloc (.cells zs26 26)).setRow w4.heap.size (bytV cls).toArray).heap.size = w4.heap.size + 1 by simp [World.setRow]] at this
        exact this
      have hB0 : Below w4.heap.size w4 (((w4.alloc (.cells zs26 26)).setRow w4.heap.size (bytV cls).toArray).alloc (.cells (leastV many (fun _ => 0)).toArray 5)) :=
        (below_setRow ((Below.refl _ _).alloc (Nat.le_refl _) _) (Nat.le_refl _) _).alloc (by simp [World.setRow]) _
      have HL0 := Lib.hid (And.intro hC0 (And.intro hL0 hB0))
      clear hrL hC0 hL0 hB0 hst26 HNEW hmL hz26
      generalize ((w4.alloc (.cells zs26 26)).setRow w4.heap.size (bytV cls).toArray).alloc (.cells (leastV many (fun _ => 0)).toArray 5) = w5 at HL0 ⊢
      obtain ⟨gC, hgC⟩ : ∃ g, g = w4.heap.size := ⟨_, rfl⟩
      rw [← hgC] at HL0 ⊢
      obtain ⟨gL, hgL⟩ : ∃ g, g = gC + 1 := ⟨_, rfl⟩
      rw [← hgL] at HL0 ⊢
      have HG := Lib.hid (And.intro hgC hgL)
      clear hgC hgL
      go_loopw [12] (fun iv wr => ∃ (b : Nat) (ls : Nat → Nat), b ≤ 256 ∧ iv = .int .i64 ((b : Int) - 1) ∧ LeastOk cls ls b ∧ Blk wr gC 26 (bytV cls) ∧ Blk wr gL 5 (leastV many ls) ∧ Below gC w4 wr) (fun iv _ => (intOf iv + 1).toNat)
      case atStart => exact ⟨256, _, by omega, rfl, least_start cls, HL0.out.1, HL0.out.2.1, HL0.out.2.2⟩
      case round =>
        obtain ⟨b, ls, hb, rfl, hlo, hbc, hbl, hbw⟩ := hrel
        obtain ⟨w6, rfl⟩ : ∃ w6 : World, w6 = wr := ⟨_, rfl⟩
        have HLO := Lib.hid hlo
        have HBC := Lib.hid hbc
        have HBL := Lib.hid hbl
        have HBB := Lib.hid hbw
        clear hlo hbc hbl hbw
        cases b with
        | zero =>
          clear hb
          go_upto_region 20 with (fail)
          have hg := HG.out
          have hld := load26 HBC.out
          have hbd := buildD_run cls
          have hnew : Blk (w6.alloc (.cells zs30 30)) w6.heap.size 30 (dV (fun _ => 0) (.slice none 0 0) (.slice none 0 0)) := Blk.new _ _ _
          have hst30 := store30 hnew (dV_len _ _ _) (dV cls (.slice none 0 0) (.slice none 0 0)) (dV_len _ _ _) (dV_one _ _ _ _ _ _ _)
          have HNEW := Lib.hid hnew
          clear hg hnew
          go_upto_region 21 with (fail)
          have hD7 : Blk ((w6.alloc (.cells zs30 30)).setRow w6.heap.size (dV cls (.slice none 0 0) (.slice none 0 0)).toArray) w6.heap.size 30 (dV cls (.slice none 0 0) (.slice none 0 0)) := by
            have := HNEW.out.row (dV cls (.slice none 0 0) (.slice none 0 0)).toArray
            simpa using this
          have hb7 : Below w6.heap.size w6 ((w6.alloc (.cells zs30 30)).setRow w6.heap.size (dV cls (.slice none 0 0) (.slice none 0 0)).toArray) := below_setRow ((Below.refl _ _).alloc (Nat.le_refl _) _) (Nat.le_refl _) _
          have HD7 := Lib.hid hD7
          have HB7 := Lib.hid hb7
          clear hld hbd hst30 HNEW hD7 hb7
          generalize (w6.alloc (.cells zs30 30)).setRow w6.heap.size (dV cls (.slice none 0 0) (.slice none 0 0)).toArray = w7 at HD7 HB7 ⊢
          obtain ⟨gD, hgD⟩ : ∃ g, g = w6.heap.size := ⟨_, rfl⟩
          rw [← hgD] at HD7 ⊢
          have hw46 : Below w4.heap.size w4 w6 := by have := HBB.out; rw [HG.out.1] at this; exact this
          have hw36 : Below w3.heap.size w3 w6 := HB4.out.trans (hw46.mono HB4.out.size)
          have HENV := Lib.hid (show BEnv E S _ cls many ls W.heap.size gF gO gC gL RA RB rc rd w6 from ⟨HRI.out.keep hw36, HRO.out.keep hw36, HK0.out.below hw36 HK0.out.lt, HBC.out, HBL.out⟩)
          have HR7 := Lib.hid (HK1.out.below hw36 HK1.out.lt)
          have HBW7 := Lib.hid (HBW.out.trans (hw36.mono HBW.out.size))
          have HDB := Lib.hid (show w6.heap.size ≤ gD by rw [hgD]; exact Nat.le_refl _)
          have HLS := Lib.hid HLO.out
          have HB67 := Lib.hid HB7.out
          clear hgD hw46 hw36 HRI HRO HK0 HK1 HBC HBL HB4 HBB HB7 HL0 HBW HLO HSR HCL
          have hbn := (HENV.out.keep HB67.out).bn
          have q1 := hbn.cell 1
          simp only [List.getElem?_cons_zero, List.getElem?_cons_succ] at q1
          have hE : OkE E S := okE_of HR.out
          have hae : 0 ≤ a ∧ a < (S : Int) := ⟨HR.out.alo, HR.out.ahi⟩
          have hkE : k = E.length := hl.symm
          have hfree : ∀ (L : List Int) (A2 : Option Addr) (n2 c2 : Nat) (w8 : World), RowsI E S w8 (some ⟨gF, 0, none⟩) RA rc → L.length = n2 → n2 ≤ 16000 → (∀ i ∈ L, 0 ≤ i ∧ i < (S : Int)) → L ≠ [] → Arr w8 w8.heap.size 1 A2 n2 (NumC .i64 L) → _ :=
            fun L A2 n2 c2 w8 h1 h2 h3 h4 h5 h6 => free_d E S (some ⟨gF, 0, none⟩) A2 S n2 c2 L RA rc w8 hE hS (by omega) h1 h2 h3 h4 h5 h6
          have HFR := Lib.hid hfree
          have HEE := Lib.hid (And.intro hE hae)
          have hone : Arr (w7.alloc (.cells #[.int .i64 a] 3)) (w7.alloc (.cells #[.int .i64 a] 3)).heap.size 1 (some ⟨w7.heap.size, 0, none⟩) 1 (NumC .i64 [a]) := fun _ => ⟨w7.heap.size, 0, rfl, by simp, fun k9 j9 h1 h2 => by
            obtain rfl : k9 = 0 := by omega
            obtain rfl : j9 = 0 := by omega
            simp [NumC]⟩
          have HONE := Lib.hid hone
          clear hbn hE hae hkE hfree hone
          go_upto_region 22 with (go_at_call 33; refine (HFR.out [a] (some ⟨w7.heap.size, 0, none⟩) 1 1 _ (HENV.out.fr.keep (HB67.out.alloc HB67.out.size _)) rfl (by omega) (fun i9 h9 => by rw [List.mem_singleton.1 h9]; exact HEE.out.2) (by simp) HONE.out).mono ?_; rintro e w8 ⟨g8, c8, rfl, hown8, hb8⟩; have HOW8 := Lib.hid hown8; have HB8 := Lib.hid hb8; clear hown8 hb8)
          have hXl := closN_len E S [a]
          have hXs : ∀ q ∈ closN E S [a], q < S := fun q hq => closN_lt hq
          obtain ⟨X, hX⟩ : ∃ X, X = closN E S [a] := ⟨_, rfl⟩
          rw [← hX] at HOW8 hXl hXs ⊢
          have HX := Lib.hid (And.intro hX hXs)
          obtain ⟨nx, hnx⟩ : ∃ nx, nx = X.length := ⟨_, rfl⟩
          rw [← hnx] at HOW8 hXl ⊢
          have har8 := own_nums HOW8.out
          have har9 : Arr ((w8.alloc (.cells #[.slice (some ⟨g8, 0, none⟩) nx c8] 36)).alloc (.map #[] 0)) ((w8.alloc (.cells #[.slice (some ⟨g8, 0, none⟩) nx c8] 36)).alloc (.map #[] 0)).heap.size 1 (some ⟨g8, 0, none⟩) nx (NumC .i64 (natL X)) := by
            have hb9 : Below w8.heap.size w8 ((w8.alloc (.cells #[.slice (some ⟨g8, 0, none⟩) nx c8] 36)).alloc (.map #[] 0)) := ((Below.refl _ _).alloc (Nat.le_refl _) _).alloc (by simp) _
            exact (har8.below hb9).more hb9.size
          have hnm := fun w9 h9 => name_any (some ⟨g8, 0, none⟩) nx c8 X w9 hnx (fun q hq => by have := hXs q hq; omega) (by omega) h9
          have hmk9 : ((w8.alloc (.cells #[.slice (some ⟨g8, 0, none⟩) nx c8] 36)).alloc (.map #[] 0)).ownsMap Try.prog 9 (plainElem (H := Unit) Try.prog 3) (w8.heap.size + 1) 0 (.map []) := by
            have := World.ownsMap_made (w8.alloc (.cells #[.slice (some ⟨g8, 0, none⟩) nx c8] 36)) Try.prog 9 (plainElem (H := Unit) Try.prog 3)
            rw [World.size_alloc] at this
            exact this
          have hky := keyOf_text (nameL X) (by rw [nameL_len]; omega)
          have HAR9 := Lib.hid har9
          have HNM := Lib.hid hnm
          have HMK9 := Lib.hid hmk9
          have HKY := Lib.hid hky
          have HNX := Lib.hid hnx
          have hmm := @run_makeMap Try.prog
          clear hX hXs hnx har8 har9 hnm hmk9 hky
          go_upto_region 23 with (first
            | (go_at_call 34; refine (HNM.out _ HAR9.out).mono ?_; rintro e w9 ⟨rfl, hb9⟩; obtain ⟨w10, hrun, hown10, htur⟩ := (HMK9.out.kept (row := none) ⟨hb9.os, hb9.tape, hb9.output, hb9.size, fun b hb' _ => hb9.block b hb'⟩ (by simp)).store keyed9 Try.underlying78 (by decide) HKY.out (plainElem_int (H := Unit) Try.underlying3 (a := 0) (q := .i64) (by decide)); have HRUN := Lib.hid hrun; have HM10 := Lib.hid (And.intro hown10 htur.grown); have HB9 := Lib.hid hb9; clear hrun hown10 htur hb9)
            | (refine wpList_ins _ w10 rfl _ _ _ 78 rfl _ _ _ rfl rfl rfl HRUN.out ?_))
          have hml := ((ml_start HB67.out HDB.out HD7.out HB8.out HNX.out HOW8.out HMK9.out).go HB9.out).put HM10.out.2 HM10.out.1
          have HML := Lib.hid hml
          have hid0 := idx_snoc (K := textK) (idx_empty (H := Unit) textK .i64) (nameL X) (by show (nameL X).length ≤ _; rw [nameL_len]; have := HNX.out; omega) (by simp)
          have HID := Lib.hid hid0
          have HMI := Lib.hid (HML.out.map.isMap)
          clear hml hid0 HB67 HDB HD7 HB8 HOW8 HMK9 HM10 HB9 HRUN HAR9 HNM HKY HONE hmm q1
          obtain ⟨gA, hgA⟩ : ∃ g, g = w8.heap.size := ⟨_, rfl⟩
          rw [← hgA] at HML ⊢
          obtain ⟨gm, hgm⟩ : ∃ g, g = gA + 1 := ⟨_, rfl⟩
          rw [← hgm] at HML ⊢
          clear hgA hgm
          go_upto_region 24 with (fail)
          have hSN : ∀ Y, RSet E S a Y → Y.Pairwise (· < ·) ∧ ∀ q ∈ Y, q < S := fun Y hY => hY.sorted
          have HSN := Lib.hid hSN
          clear hSN
          go_loopw [15, 17] (fun va iv wr => ∃ (i n9 : Nat) (vnx vac : Value) (lA lN : List Value) (all : List (List Nat)) (next : List (List Int)) (acc : List Bool) (D : DataW Unit), iv = .int .i64 (i : Int) ∧
            ML w6 gD gm cls va vnx vac lA lN all next acc n9 D (fun _ => False) wr ∧ n9 ≤ all.length ∧ IdxD textK .i64 D (all.map nameL) ∧ Mid E S a z many ls i all next acc)
            (fun _ iv _ => 401 - (intOf iv).toNat)
          case atStart =>
            refine ⟨0, _, _, _, _, _, [X], [], [], _, rfl, HML.out, by simp, HID.out, ?_⟩
            rw [HX.out.1]; exact mid_start
          case round =>
            obtain ⟨i, n9, vnx, vac, lA, lN, all, next, acc, D, rfl, hml, hn9, hid, hmid⟩ := hrel
            obtain ⟨w9, rfl⟩ : ∃ w9 : World, w9 = wr := ⟨_, rfl⟩
            clear HML HID HMI HNX HX hXl
            obtain ⟨al, hal⟩ : ∃ al, al = all.length := ⟨_, rfl⟩
            obtain ⟨Aa, ca, hva⟩ := own_slice hml.ownA
            rw [← hal] at hva
            subst hva
            have HML := Lib.hid hml
            have HID := Lib.hid hid
            have HMID := Lib.hid hmid
            have HAL := Lib.hid hal
            have HN9 := Lib.hid hn9
            have hal4 : al ≤ 400 := by rw [hal]; exact hmid.few
            have hil : i ≤ al := by rw [hal]; exact hmid.le
            clear hml hid hmid hal hn9
            by_cases hlt : i < al
            · have d1 : decide ((i : Int) < (al : Int)) = true := by simp; omega
              have hia : i < all.length := by rw [← HAL.out]; exact hlt
              have harA := HML.out.ownA
              rw [← HAL.out] at harA
              have harA := Arr.of_own harA
              obtain ⟨ba, oa, rfl, _, s0⟩ := harA.one hlt
              have hrowA := HML.out.rowA i hia
              have hY := HMID.out.rs (all.getD i []) (getD_mem hia)
              obtain ⟨v, hv⟩ : ∃ v, v = lA.getD i undef := ⟨_, rfl⟩
              obtain ⟨X, hX⟩ : ∃ X, X = all.getD i [] := ⟨_, rfl⟩
              rw [← hv] at s0 hrowA
              rw [← hX] at hrowA hY
              have hXs := HSN.out X hY
              have hXne := hY.ne HEE.out.1 HEE.out.2
              obtain ⟨nX, hnX⟩ : ∃ nX, nX = X.length := ⟨_, rfl⟩
              have hnXp : 0 < nX := by
                rw [hnX]
                cases X with
                | nil => exact absurd rfl hXne
                | cons _ _ => simp
              have hnXS : nX ≤ 2000 := by rw [hnX]; exact Nat.le_trans hY.len hS
              obtain ⟨Av, cv, hvv⟩ := own_slice hrowA
              rw [← hnX] at hvv
              rw [hvv] at s0 hv
              have HXX := Lib.hid (And.intro hX (And.intro hY (And.intro hXs (And.intro hnX hv))))
              clear hX hY hXs hXne hnX hvv hrowA harA hv
              have hmk := make_one 36 3 (.int .i64 0) 8 Try.underlying36 info3 rfl many (by have := HC.out.hi; omega) (by omega) w9
              go_upto_region 29 with (fail)
              have hmr := MR.begin HML.out many
              obtain ⟨gR, hgR⟩ : ∃ g, g = w9.heap.size := ⟨_, rfl⟩
              rw [← hgR] at hmr ⊢
              clear hgR
              have HMR := Lib.hid hmr
              clear hmr hmk s0
              generalize w9.alloc (.cells (Array.replicate many (.int .i64 0)) 3) = w10 at HMR ⊢
              have hmany : many ≤ 256 := HC.out.hi
              go_loopw [15, 122] (fun va cv' wr => ∃ (c n9 : Nat) (lA : List Value) (all : List (List Nat)) (D : DataW Unit) (R : List Int), cv' = .int .i64 (c : Int) ∧ c ≤ many ∧
                MR w6 gD gm cls va vnx vac lA lN all next acc n9 D gR R wr ∧ n9 ≤ all.length ∧ IdxD textK .i64 D (all.map nameL) ∧ Mid E S a z many ls i all next acc ∧ RowOk E S ls all X R c ∧ R.length = many ∧ i < all.length ∧ X = all.getD i [] ∧ Value.slice Av nX cv = lA.getD i undef)
                (fun _ cv' _ => many - (intOf cv').toNat)
              case atStart => exact ⟨0, _, _, _, _, _, rfl, by omega, HMR.out, HN9.out, HID.out, HMID.out, .start, by simp, hia, HXX.out.1, HXX.out.2.2.2.2⟩
              case round =>
                clear HML HID HMID HAL HN9 hal4 hil hlt d1 hia HMR
                obtain ⟨c, n9, lA, all, D, R, rfl, hc, hmr, hn9, hid, hmid, hro, hRl, hia, hXi, hvi⟩ := hrel
                obtain ⟨w11, rfl⟩ : ∃ w11 : World, w11 = wr := ⟨_, rfl⟩
                have HMR := Lib.hid hmr
                have HID := Lib.hid hid
                have HMID := Lib.hid hmid
                have HRO := Lib.hid hro
                have HRL := Lib.hid hRl
                have HIA := Lib.hid (And.intro hn9 (And.intro hia (And.intro hXi hvi)))
                clear hmr hid hmid hro hRl hn9 hia hXi hvi
                by_cases hlt : c < many
                · have d1 : decide ((c : Int) < (many : Int)) = true := by simp; omega
                  obtain ⟨b, hb⟩ : ∃ b, b = ls c := ⟨_, rfl⟩
                  have hb256 : b < 256 := by rw [hb]; exact HLS.out.1 c
                  have HB := Lib.hid hb
                  clear hb
                  go_upto_region 33 with (fail)
                  go_loopw [21, 127] (fun lv jv wr => ∃ (j : Nat) (L : List Int), jv = .int .i64 (j : Int) ∧ j ≤ nX ∧ MG w6 gD gm cls u15 vnx vac lA lN all next acc n9 D gR R lv L wr ∧ L = moveL E (X.take j) b)
                    (fun _ jv _ => nX - (intOf jv).toNat)
                  case atStart => exact ⟨0, [], rfl, by omega, HMR.out.gather, rfl⟩
                  case round =>
                    obtain ⟨j, L, rfl, hj, hmg, hL⟩ := hrel
                    obtain ⟨w12, rfl⟩ : ∃ w12 : World, w12 = wr := ⟨_, rfl⟩
                    obtain ⟨lv, rfl⟩ : ∃ v : Value, v = u21 := ⟨_, rfl⟩
                    have HMG := Lib.hid hmg
                    have HLL := Lib.hid hL
                    clear hmg hL
                    by_cases hlt5 : j < nX
                    · have d2 : decide ((j : Int) < (nX : Int)) = true := by simp; omega
                      have hrx := HMG.out.ml.rowA i HIA.out.2.1
                      rw [← HIA.out.2.2.1, ← HIA.out.2.2.2, ← HXX.out.2.2.2.1] at hrx
                      have har := own_nums hrx
                      obtain ⟨bx, ox, rfl, _, s0⟩ := har.one hlt5
                      have hjX : j < X.length := by rw [← HXX.out.2.2.2.1]; exact hlt5
                      have hqm : X.getD j 0 ∈ X := getD_mem hjX
                      have hqS := HXX.out.2.2.1.2 _ hqm
                      unfold NumC at s0
                      rw [natL_get hjX] at s0
                      have htk := take_next X j 0 hjX
                      obtain ⟨q, hq⟩ : ∃ q, q = X.getD j 0 := ⟨_, rfl⟩
                      rw [← hq] at s0 hqS htk
                      have hov := (HENV.out.keep HMG.out.ml.bel).ov
                      obtain ⟨bo, oo, hbo, _, s1⟩ := hov.arr.one hqS
                      simp only [Option.some.injEq, Addr.mk.injEq, and_true] at hbo
                      obtain ⟨rfl, rfl⟩ := hbo
                      rw [Nat.zero_add] at s1
                      have hno : (overE E q).length ≤ 16000 := Nat.le_trans (overE_len _ _) hfew
                      obtain ⟨no, hno2⟩ : ∃ no, no = (overE E q).length := ⟨_, rfl⟩
                      obtain ⟨A6, hA6⟩ : ∃ A6, A6 = RB q := ⟨_, rfl⟩
                      obtain ⟨c6, hc6⟩ : ∃ c6, c6 = rd q := ⟨_, rfl⟩
                      rw [← hno2, ← hA6, ← hc6] at s1
                      rw [← hno2] at hno
                      have HQ := Lib.hid (And.intro hq (And.intro htk (And.intro hno2 (And.intro hA6 hjX))))
                      clear hrx har hjX hqm htk hq hov hno2 hA6 hc6
                      go_upto_region 36 with (fail)
                      go_loopw [21, 136] (fun lv kv wr => ∃ (k : Nat) (L' : List Int), kv = .int .i64 (k : Int) ∧ k ≤ no ∧ MG w6 gD gm cls u15 vnx vac lA lN all next acc n9 D gR R lv L' wr ∧ L' = L ++ (((overE E q).take k).filter (fun e => hasE e b)).map Ed.dst)
                        (fun _ kv _ => no - (intOf kv).toNat)
                      case atStart => exact ⟨0, L, rfl, by omega, HMG.out, by simp⟩
                      case round =>
                        clear HMG
                        obtain ⟨k, L', rfl, hk, hmg, hL'⟩ := hrel
                        obtain ⟨w13, rfl⟩ : ∃ w13 : World, w13 = wr := ⟨_, rfl⟩
                        obtain ⟨lv, rfl⟩ : ∃ v : Value, v = u21 := ⟨_, rfl⟩
                        have HMG := Lib.hid hmg
                        have HL' := Lib.hid hL'
                        clear hmg hL' s0 s1
                        by_cases hlt6 : k < no
                        · have d3 : decide ((k : Int) < (no : Int)) = true := by simp; omega
                          have hov := (HENV.out.keep HMG.out.ml.bel).ov
                          have hro6 := hov.row q hqS
                          rw [← HQ.out.2.2.2.1, ← HQ.out.2.2.1] at hro6
                          obtain ⟨be, oe, rfl, hbl, p0, p1, p2, p3, p4, p5, p6⟩ := hro6.seven hlt6
                          have hkl : k < (overE E q).length := by rw [← HQ.out.2.2.1]; exact hlt6
                          have hem : (overE E q).getD k noEd ∈ overE E q := getD_mem hkl
                          have htk := take_next (overE E q) k noEd hkl
                          obtain ⟨e, he⟩ : ∃ e, e = (overE E q).getD k noEd := ⟨_, rfl⟩
                          rw [← he] at p0 p1 p2 p3 p4 p5 p6 hem htk
                          have hq4 := HUU.out e (mem_overE.1 hem).1
                          have hHT := Lib.hid htk
                          have hgl := gath_len E (nodup_of_lt HXX.out.2.2.1.1) (k := k + 1) HQ.out.2.2.2.2 b
                          rw [← HQ.out.1, htk] at hgl
                          clear he htk hem hov hro6 hkl
                          obtain ⟨x, y, f, s0, s1, s2, s3⟩ := e
                          simp only at p0 p1 p2 p3 p4 p5 p6
                          obtain ⟨hb, hhb⟩ : ∃ hb, hb = hasB s0 s1 s2 s3 b := ⟨_, rfl⟩
                          have HH := Lib.hid (fun w' => has_any s0 s1 s2 s3 hq4.1 hq4.2.1 hq4.2.2.1 hq4.2.2.2 b hb256 w')
                          rw [← hhb] at HH
                          have HHB := Lib.hid hhb
                          clear hhb hq4
                          go_upto_region 38 with (fail)
                          have HG14 := Lib.hid (HMG.out.alloc (.cells #[.int .i64 x, .int .i64 y, .bool f, .int .u64 s0, .int .u64 s1, .int .u64 s2, .int .u64 s3] 70))
                          have hblk := Blk.new w13 70 [.int .i64 x, .int .i64 y, .bool f, .int .u64 s0, .int .u64 s1, .int .u64 s2, .int .u64 s3]
                          obtain ⟨eb, heb⟩ : ∃ eb, eb = w13.heap.size := ⟨_, rfl⟩
                          rw [← heb] at hblk ⊢
                          have hblF : b < 256 := hb256
                          clear heb hbl p0 p1 p2 p3 p4 p5 p6 HMG
                          change Blk (w13.alloc (.cells #[.int .i64 x, .int .i64 y, .bool f, .int .u64 s0, .int .u64 s1, .int .u64 s2, .int .u64 s3] 70)) eb 70 _ at hblk
                          generalize w13.alloc (.cells #[.int .i64 x, .int .i64 y, .bool f, .int .u64 s0, .int .u64 s1, .int .u64 s2, .int .u64 s3] 70) = w14 at HG14 hblk ⊢
                          have c1 := hblk.cell 1
                          have c3 := hblk.cell 3
                          have c4 := hblk.cell 4
                          have c5 := hblk.cell 5
                          have c6' := hblk.cell 6
                          have hble := hblk.lt
                          simp only [List.getElem?_cons_zero, List.getElem?_cons_succ] at c1 c3 c4 c5 c6'
                          have hl14 := (HENV.out.keep HG14.out.ml.bel).bl
                          have l0 := hl14.cell c
                          rw [leastV_get _ hlt, ← HB.out] at l0
                          clear hblk hl14
                          go_region_held3 (fun W' => W'.cell? ⟨eb, 3, none⟩ = some (.int .u64 s0) ∧ W'.cell? ⟨eb, 4, none⟩ = some (.int .u64 s1) ∧ W'.cell? ⟨eb, 5, none⟩ = some (.int .u64 s2) ∧ W'.cell? ⟨eb, 6, none⟩ = some (.int .u64 s3) ∧ W'.cell? ⟨gL, c, none⟩ = some (.int .u8 (b : Int)))
            (first
              | assumption
              | exact ⟨c3, c4, c5, c6', l0⟩
              | (go_split_ands; exact ⟨cellAl (by assumption) _, cellAl (by assumption) _, cellAl (by assumption) _, cellAl (by assumption) _, cellAl (by assumption) _⟩))
            (first
              | (go_at_call 35; refine (HH.out _).mono ?_; rintro e w9 ⟨rfl, rfl⟩))
                          go_split_ands
                          have HG15 := Lib.hid (HG14.out.alloc (.cells #[.int .u64 s0, .int .u64 s1, .int .u64 s2, .int .u64 s3] 46)).drew
                          have p1 : ((w14.alloc (.cells #[.int .u64 s0, .int .u64 s1, .int .u64 s2, .int .u64 s3] 46)).drew).cell? ⟨eb, 1, none⟩ = some (.int .i64 y) := cellAl c1 (.cells #[.int .u64 s0, .int .u64 s1, .int .u64 s2, .int .u64 s3] 46)
                          clear c1 c3 c4 c5 c6' l0 HG14 hble
                          generalize (w14.alloc (.cells #[.int .u64 s0, .int .u64 s1, .int .u64 s2, .int .u64 s3] 46)).drew = w15 at HG15 p1 ⊢
                          cases hb with
                          | false =>
                            go_wp2_with fail
                            go_roundw
                            case rel =>
                              refine ⟨k + 1, L', by go_num, by omega, HG15.out, ?_⟩
                              rw [hHT.out, gath_snoc, if_neg (by show ¬ hasB s0 s1 s2 s3 b = true; rw [← HHB.out]; simp), List.append_nil]
                              exact HL'.out
                            case measure => simp [intOf]; omega
                          | true =>
                            have hlen : L'.length + 1 ≤ 16000 := by
                              rw [gath_snoc, if_pos (show hasE ⟨x, y, f, s0, s1, s2, s3⟩ b = true from HHB.out.symm), ← List.append_assoc, List.length_append, ← HLL.out, ← HL'.out, List.length_singleton] at hgl
                              omega
                            obtain ⟨m, hm⟩ : ∃ m, m = L'.length := ⟨_, rfl⟩
                            obtain ⟨Av5, cv5, hlv⟩ := own_slice HG15.out.own
                            rw [← hm] at hlv hlen
                            subst hlv
                            have HM := Lib.hid hm
                            have hcn := cell_one_new w15 (.int .i64 y) 3
                            have hsz15 : w6.heap.size ≤ w15.heap.size := HG15.out.ml.bel.size
                            clear hm hgl
                            go_wp2_with (first | (at_builtin; (refine wpList_append_lies _ rfl _ _ 36 rfl w6.heap.size 3 i3 (.int .i64 0) 1 8 Try.underlying36 hi3 hz3 hsz3 hbt3 rfl (by decide) (.slice Av5 m cv5) m _ rfl (by have h9 := HG15.out.own.alloc (.cells #[.int .i64 y] 3); rw [← HM.out] at h9; exact h9) ⟨w15.heap.size, 0, none⟩ 1 1 [.int .i64 y] rfl rfl hcn (by simp [Value.oneCell']) (by omega) (by unfold maxLen; omega) (by omega) (by simp; omega) _ rfl ?_; intro g5 c5 w16 hown5 hgrow5 hat5 _)))
                            go_roundw
                            case rel =>
                              have h9 := (HG15.out.alloc (.cells #[.int .i64 y] 3)).push (x := y) (g5 := g5) (c5 := c5) (by rw [← HM.out]; exact hown5) hgrow5 hat5
                              rw [← HM.out] at h9
                              refine ⟨k + 1, L' ++ [y], by go_num, by omega, h9, ?_⟩
                              rw [hHT.out, gath_snoc, if_pos (show hasE ⟨x, y, f, s0, s1, s2, s3⟩ b = true from HHB.out.symm), ← List.append_assoc, ← HL'.out]
                            case measure => simp [intOf]; omega
                        · obtain rfl : k = no := by omega
                          have d3 : decide ((k : Int) < (k : Int)) = false := by simp
                          go_wp2_with fail
                          go_roundw
                          case rel =>
                            refine ⟨j + 1, L', by go_num, by omega, HMG.out, ?_⟩
                            rw [HQ.out.2.1, moveL_snoc, HL'.out, HLL.out, show (overE E q).take k = overE E q from List.take_of_length_le (by rw [← HQ.out.2.2.1]; omega)]
                          case measure => simp [intOf]; omega
                    · obtain rfl : j = nX := by omega
                      have d2 : decide ((j : Int) < (j : Int)) = false := by simp
                      rw [List.take_of_length_le (by rw [← HXX.out.2.2.2.1]; omega)] at HLL
                      have HMG5 := HMG
                      have hX5 : L = moveL E X b := HLL.out
                      have HX5 := Lib.hid hX5
                      clear hX5 HLL
                      obtain ⟨nl, hnl⟩ : ∃ nl, nl = L.length := ⟨_, rfl⟩
                      obtain ⟨Al, cl, hlv⟩ := own_slice HMG.out.own
                      rw [← hnl] at hlv
                      subst hlv
                      have hnlb : nl ≤ 16000 := by rw [hnl, HX5.out]; exact Nat.le_trans (moveL_len E (nodup_of_lt HXX.out.2.2.1.1) b) hfew
                      have HNL := Lib.hid hnl
                      have y0 := HMG.out.row.frozen c
                      have y1 : w12.cell? ⟨gR, c, none⟩ = some (.int .i64 (R.getD c 0)) := by
                        rw [HMG.out.row.cell]
                        have h9 := HRL.out
                        simp [numsV, show c < R.length by omega]
                      obtain ⟨rc9, hrc9⟩ : ∃ r, r = R.getD c 0 := ⟨_, rfl⟩
                      rw [← hrc9] at y1
                      clear hrc9
                      have HR9 := Lib.hid (HMG.out.cell c (-1))
                      have hcR : c < R.length := by rw [HRL.out]; exact hlt
                      clear hnl HMG5
                      go_upto_region 43 with (fail)
                      generalize w12.setCell ⟨gR, c, none⟩ (.int .i64 (-1)) = w13 at HR9 ⊢
                      clear HMG y0 y1
                      by_cases hzero : nl = 0
                      · have d4 : decide ((nl : Int) = 0) = true := by simp; omega
                        have hm0 : moveL E X b = [] := by rw [← HX5.out]; exact List.length_eq_zero_iff.1 (by rw [← HNL.out]; exact hzero)
                        have HM0 := Lib.hid hm0
                        clear hm0
                        go_wp2_with fail
                        go_roundw
                        case rel =>
                          exact ⟨c + 1, n9, lA, all, D, R.set c (-1), by go_num, by omega, HR9.out.back, HIA.out.1, HID.out, HMID.out, HRO.out.none hcR (by rw [← HB.out]; exact HM0.out), by rw [List.length_set]; exact HRL.out, HIA.out.2.1, HIA.out.2.2.1, HIA.out.2.2.2⟩
                        case measure => simp [intOf]; omega
                      · have d4 : decide ((nl : Int) = 0) = false := by simp; omega
                        have hne : L ≠ [] := fun e => hzero (by rw [HNL.out, e]; rfl)
                        have hfr := HFR.out L Al nl cl w13 (HENV.out.fr.keep HR9.out.ml.bel) HNL.out.symm hnlb (by rw [HX5.out]; exact moveL_in HEE.out.1) hne (own_nums (by have h9 := HR9.out.own; rw [← HNL.out] at h9; exact h9))
                        have HMNE := Lib.hid (show moveL E X b ≠ [] by rw [← HX5.out]; exact hne)
                        have HFC := Lib.hid hfr
                        clear hne hfr
                        go_upto_region 45 with (go_at_call 33; refine HFC.out.mono ?_; rintro e w14 ⟨gY, cY, rfl, hown14, hb14⟩; have HOW14 := Lib.hid hown14; have HB14 := Lib.hid hb14; clear hown14 hb14)
                        have hsY : stepN E S X b = closN E S L := by rw [HX5.out]; rfl
                        have hYR : RSet E S a (closN E S L) := by rw [← hsY]; exact .step HXX.out.2.1 hb256 HMNE.out
                        have hYs := HSN.out _ hYR
                        have hYl : (closN E S L).length ≤ 2000 := Nat.le_trans hYR.len hS
                        obtain ⟨Y, hY⟩ : ∃ Y, Y = closN E S L := ⟨_, rfl⟩
                        rw [← hY] at hsY hYR hYs hYl HOW14 ⊢
                        obtain ⟨nY, hnY⟩ : ∃ n, n = Y.length := ⟨_, rfl⟩
                        have hbY := HR9.out.ml.bel.size
                        have hlR := HR9.out.row.lt
                        have hM14 := (HR9.out.back).go HB14.out
                        have hO14 := own_base HOW14.out hbY
                        have hgY : gR < gY := by have := (HOW14.out.lt gY rfl).1; omega
                        have hnm : ∀ w9, Below w14.heap.size w14 w9 → _ := fun w9 (h9 : Below w14.heap.size w14 w9) => name_any (some ⟨gY, 0, none⟩) nY cY Y w9 hnY (fun q hq => by have := hYs.2 q hq; omega) (by omega) (by
                          have h8 := own_kept hO14 h9
                          rw [← hnY] at h8
                          exact own_nums h8)
                        have hky := keyOf_text (nameL Y) (by rw [nameL_len]; omega)
                        have hok : textK.ok (nameL Y) := by show (nameL Y).length ≤ _; rw [nameL_len]; omega
                        have hnn := name_new (all := all) (Y := Y) (fun q hq => by have := hYs.2 q hq; omega) (fun Z hZ q hq => by have := (HSN.out Z (HMID.out.rs Z hZ)).2 q hq; omega)
                        have hpm := plc_map nameL Y all hnn
                        rw [← hnY] at hYl ⊢
                        have HY := Lib.hid (And.intro hsY (And.intro hYR (And.intro hnY hYl)))
                        have HM14 := Lib.hid hM14
                        have HO14 := Lib.hid hO14
                        have HNM := Lib.hid hnm
                        have HKY := Lib.hid hky
                        have HOK := Lib.hid hok
                        have HNN := Lib.hid (And.intro hnn hpm)
                        clear hY hsY hYR hYs hYl hnY hbY hlR hM14 hO14 hnm hky hok hnn hpm HOW14 HFC HR9 HB14 HNL hzero d4 hnlb
                        by_cases hin : Y ∈ all
                        · have hrun := fun w9 (h9 : Below w14.heap.size w14 w9) => idx_yes (te := 3) Try.underlying3 zero_i64 (by decide) (mt := 78) keyed9 Try.underlying78 (HM14.out.go h9).ml.map HID.out (nameL Y) HOK.out HKY.out (List.mem_map_of_mem hin)
                          rw [HNN.out.2] at hrun
                          obtain ⟨pl, hpl⟩ : ∃ pl, pl = plc all Y := ⟨_, rfl⟩
                          rw [← hpl] at hrun
                          have HRUN := Lib.hid hrun
                          have HPL := Lib.hid (And.intro hpl hin)
                          clear hrun hpl hin
                          go_upto_region 46 with (first
                            | (go_at_call 34; refine (HNM.out _ (Below.refl _ _)).mono ?_; rintro e w15 ⟨rfl, hb15⟩; have HB15 := Lib.hid hb15; clear hb15)
                            | (at_lookup; refine wpList_look _ rfl _ _ 78 rfl _ _ _ rfl rfl (HRUN.out _ HB15.out) ?_))
                          have HM15 := Lib.hid (HM14.out.go HB15.out)
                          have y0 := HM15.out.row.frozen c
                          have y1 : w15.cell? ⟨gR, c, none⟩ = some (.int .i64 ((R.set c (-1)).getD c 0)) := by
                            rw [HM15.out.row.cell]
                            have h9 := HRL.out
                            simp [numsV, show c < R.length by omega]
                          obtain ⟨rc9, hrc9⟩ : ∃ r, r = (R.set c (-1)).getD c 0 := ⟨_, rfl⟩
                          rw [← hrc9] at y1
                          clear hrc9
                          go_wp2_with fail
                          go_roundw
                          case rel =>
                            exact ⟨c + 1, n9, lA, all, D, (R.set c (-1)).set c (pl : Int), by go_num, by omega, HM15.out.cell c _, HIA.out.1, HID.out, HMID.out, HRO.out.some hcR (by rw [← HB.out]; exact HMNE.out) (by rw [← HB.out, HY.out.1]; exact HPL.out.2) (by rw [← HB.out, HY.out.1, HPL.out.1]), by rw [List.length_set, List.length_set]; exact HRL.out, HIA.out.2.1, HIA.out.2.2.1, HIA.out.2.2.2⟩
                          case measure => simp [intOf]; omega
                        · have hnin : nameL Y ∉ all.map nameL := fun h9 => by
                            obtain ⟨Z, hZ, hz9⟩ := List.mem_map.1 h9
                            rw [HNN.out.1 Z hZ hz9] at hZ
                            exact hin hZ
                          have hrun := fun w9 (h9 : Below w14.heap.size w14 w9) => idx_no (te := 3) Try.underlying3 zero_i64 (by decide) (mt := 78) keyed9 Try.underlying78 (HM14.out.go h9).ml.map HID.out (nameL Y) HOK.out HKY.out hnin
                          have HRUN := Lib.hid hrun
                          have hsn := idx_snoc HID.out (nameL Y) HOK.out hnin
                          rw [List.length_map] at hsn
                          obtain ⟨al, hal⟩ : ∃ al, al = all.length := ⟨_, rfl⟩
                          obtain ⟨Aa, ca, hva⟩ := own_slice HM14.out.ml.ownA
                          rw [← hal] at hva hsn
                          have hal4 : al ≤ 400 := by rw [hal]; exact HMID.out.few
                          subst hva
                          have HSNC := Lib.hid (And.intro hsn (And.intro hin hal))
                          clear hrun hnin hsn hin hal
                          go_upto_region 46 with (first
                            | (go_at_call 34; refine (HNM.out _ (Below.refl _ _)).mono ?_; rintro e w15 ⟨rfl, hb15⟩; have HB15 := Lib.hid hb15; clear hb15)
                            | (at_lookup; refine wpList_look _ rfl _ _ 78 rfl _ _ _ rfl rfl (HRUN.out _ HB15.out) ?_))
                          have HM15 := Lib.hid (HM14.out.go HB15.out)
                          by_cases hbig : 400 ≤ al
                          · have d5 : decide ((400 : Int) ≤ (al : Int)) = true := by simp; omega
                            have HTM := Lib.hid (HMID.out.over HSNC.out.2.1 HY.out.2.1 (by rw [← HSNC.out.2.2]; exact hbig))
                            have hbd := buildD_nil
                            have hr15 := HR7.out.below HM15.out.ml.bel HR7.out.lt
                            have hst : (storeD (.pointer (some ⟨W.heap.size + 1, 0, none⟩)) (.agg zs30)).run Try.prog w15 = .ok () (w15.setRow (W.heap.size + 1) zs30) := store30 hr15 (dV_len _ _ _) (dV (fun _ => 0) (.slice none 0 0) (.slice none 0 0)) (dV_len _ _ _) (dV_one _ _ _ _ _ _ _)
                            have HR15 := Lib.hid hr15
                            clear hr15
                            go_wp2_with fail
                            (try simp only [Exit.inBlock, Exit.then])
                            refine bodyPost_ret (res30 rfl rfl rfl (HR15.out.row zs30) (dV_len _ _ _)) rfl ?_
                            exact ⟨.inr ⟨rfl, HTM.out⟩, below_setRow (HBW7.out.trans (HM15.out.ml.bel.mono HBW7.out.size)) (by omega) _⟩
                          · have d5 : decide ((400 : Int) ≤ (al : Int)) = false := by simp; omega
                            obtain ⟨i36, hi36, hz36, hsz36, hbt36⟩ := info_parts info36
                            have hnm' : n9 < maxLen := by have := HIA.out.1; have := HSNC.out.2.2; unfold maxLen; omega
                            have hwf : (Lit.int .i64 (al : Int)).wf = true := i64_of _ (by omega) (by omega)
                            have HWF := Lib.hid hwf
                            have HNM' := Lib.hid hnm'
                            have HO15 := Lib.hid (own_kept HO14.out HB15.out)
                            clear hwf hnm' HRUN
                            go_upto_region 51 with (first
                              | (go_at_call 34; refine (HNM.out _ HB15.out).mono ?_; rintro e w16 ⟨rfl, hb16⟩; have HB16 := Lib.hid hb16; clear hb16)
                              | (at_mapUpdate; refine wpList_mapUpdate_own _ rfl _ _ _ 78 rfl 9 3 keyed9 Try.underlying78 (plainElem (H := Unit) Try.prog 3) gm n9 D rfl (HM15.out.go HB16.out).ml.map HNM'.out _ _ _ rfl rfl HKY.out _ [] (plainElem_int Try.underlying3 HWF.out) ?_; intro w17 hown17 hgrow17; have HW17 := Lib.hid (And.intro hown17 hgrow17); clear hown17 hgrow17))
                            have hm16 := HM15.out.go HB16.out
                            have ho16 := own_kept HO15.out HB16.out
                            have hm17 := hm16.put HW17.out.2 HW17.out.1
                            have ho17 := kept_ne HW17.out.2 ho16 (fun b e e2 => by cases e; exact map_own_ne hm16.ml.map ho16 e2)
                            have HM17 := Lib.hid hm17
                            have HO17 := Lib.hid ho17
                            have hsz17 : w6.heap.size ≤ w17.heap.size := hm17.ml.bel.size
                            have hcn := cell_one_new w17 (.slice (some ⟨gY, 0, none⟩) nY cY) 36
                            have hal1 : al + 1 ≤ 400 := by omega
                            clear hm16 ho16 hm17 ho17 HW17 HO15 HB16 HM15 HB15 HM14 HO14 HNM
                            go_upto_region 52 with (at_builtin; (refine wpList_append_lies _ rfl _ _ 27 rfl w6.heap.size 36 i36 (.slice none 0 0) 1 24 Try.underlying27 hi36 hz36 hsz36 hbt36 rfl (by decide) (.slice Aa al ca) al lA rfl (by have h9 := HM17.out.ml.ownA.alloc (.cells #[.slice (some ⟨gY, 0, none⟩) nY cY] 36); rw [← HSNC.out.2.2] at h9; exact h9) ⟨w17.heap.size, 0, none⟩ 1 1 [.slice (some ⟨gY, 0, none⟩) nY cY] rfl rfl hcn (by simp [Value.oneCell']) (by omega) (by unfold maxLen; omega) (by omega) (by simp; omega) _ rfl ?_; intro g18 c18 w18 hown18 hgrow18 hat18 _))
                            have hm18 := (HM17.out.alloc (.cells #[.slice (some ⟨gY, 0, none⟩) nY cY] 36)).addA (v := .slice (some ⟨gY, 0, none⟩) nY cY) (X := Y) (g5 := g18) (c5 := c18) (by have h9 := HO17.out; rw [← HY.out.2.2.1] at h9 ⊢; exact h9.alloc _) (by simp [Value.ownBlock]; omega) (by rw [← HSNC.out.2.2]; exact hown18) hgrow18 (hat18.imp (fun h => h) (fun h => h))
                            rw [← HSNC.out.2.2] at hm18
                            have HM18 := Lib.hid hm18
                            have y0 := hm18.row.frozen c
                            have y1 : w18.cell? ⟨gR, c, none⟩ = some (.int .i64 ((R.set c (-1)).getD c 0)) := by
                              rw [hm18.row.cell]
                              have h9 := HRL.out
                              simp [numsV, show c < R.length by omega]
                            obtain ⟨rc9, hrc9⟩ : ∃ r, r = (R.set c (-1)).getD c 0 := ⟨_, rfl⟩
                            rw [← hrc9] at y1
                            clear hrc9 hown18 hgrow18 hat18 hm18 hcn
                            go_wp2_with fail
                            go_roundw
                            case rel =>
                              have hf : all.length < 400 := by rw [← HSNC.out.2.2]; omega
                              refine ⟨c + 1, n9 + 1, lA ++ [.slice (some ⟨gY, 0, none⟩) nY cY], all ++ [Y], _, (R.set c (-1)).set c (al : Int), by go_num, by omega, HM18.out.cell c _, ?_, ?_, HMID.out.grow HSNC.out.2.1 HY.out.2.1 hf, (HRO.out.more Y).some hcR (by rw [← HB.out]; exact HMNE.out) (by rw [← HB.out, HY.out.1]; simp) (by rw [← HB.out, HY.out.1, plc_new HSNC.out.2.1, HSNC.out.2.2]), by rw [List.length_set, List.length_set]; exact HRL.out, ?_, ?_, ?_⟩
                              · rw [List.length_append, List.length_singleton]; have := HIA.out.1; omega
                              · rw [List.map_append]; exact HSNC.out.1
                              · rw [List.length_append]; have := HIA.out.2.1; omega
                              · rw [getD_appL _ HIA.out.2.1]; exact HIA.out.2.2.1
                              · have h9 := HM17.out.ml.ownA.1
                                rw [getD_appL _ (by have := HIA.out.2.1; omega)]; exact HIA.out.2.2.2
                            case measure => simp [intOf]; omega
                · obtain rfl : c = many := by omega
                  have d1 : decide ((c : Int) < (c : Int)) = false := by simp
                  obtain ⟨i36, hi36, hz36, hsz36, hbt36⟩ := info_parts info36
                  have HROW := Lib.hid (HMR.out.rowOwn HRL.out hmany)
                  have HML2 := Lib.hid HMR.out.ended
                  obtain ⟨Avn, cvn, hvn⟩ := own_slice HML2.out.ownN
                  obtain ⟨ln, hln⟩ : ∃ ln, ln = next.length := ⟨_, rfl⟩
                  rw [← hln] at hvn
                  have hlni : ln = i := by rw [hln]; exact HMID.out.nlen
                  have hi4 : i < 400 := by have := HMID.out.few; have := HIA.out.2.1; omega
                  subst hvn
                  have b256 : w11.cell? ⟨gD, 256, none⟩ = some (.slice Avn ln cvn) := by rw [HML2.out.box.cell, dV_nx]
                  have hsz11 : w6.heap.size ≤ w11.heap.size := HML2.out.bel.size
                  have hcn := cell_one_new w11 (.slice (some ⟨gR, 0, none⟩) c c) 36
                  have HLN := Lib.hid (And.intro hln hlni)
                  have hln4 : ln < 400 := by omega
                  clear hln hlni HMR
                  go_upto_region 55 with (at_builtin; (refine wpList_append_lies _ rfl _ _ 27 rfl w6.heap.size 36 i36 (.slice none 0 0) 1 24 Try.underlying27 hi36 hz36 hsz36 hbt36 rfl (by decide) (.slice Avn ln cvn) ln lN rfl (by have h9 := HML2.out.ownN.alloc (.cells #[.slice (some ⟨gR, 0, none⟩) c c] 36); rw [← HLN.out.1] at h9; exact h9) ⟨w11.heap.size, 0, none⟩ 1 1 [.slice (some ⟨gR, 0, none⟩) c c] rfl rfl hcn (by simp [Value.oneCell']) (by omega) (by unfold maxLen; omega) (by omega) (by simp; omega) _ rfl ?_; intro g17 c17 w17 hown17 hgrow17 hat17 _; have hbx17 := (But.of_grown hgrow17).blk (HML2.out.alloc (.cells #[.slice (some ⟨gR, 0, none⟩) c c] 36)).box (blk_own_ne (HML2.out.alloc (.cells #[.slice (some ⟨gR, 0, none⟩) c c] 36)).box (HML2.out.alloc (.cells #[.slice (some ⟨gR, 0, none⟩) c c] 36)).ownN (by decide)); have q17 := hbx17.cell 256; rw [dV_nx] at q17; have f17 := hbx17.frozen 256; have hml3 := (HML2.out.alloc (.cells #[.slice (some ⟨gR, 0, none⟩) c c] 36)).addN (v := .slice (some ⟨gR, 0, none⟩) c c) (R := R) (g5 := g17) (c5 := c17) (HROW.out.alloc _) (fun b _ e => e) (by rw [← HLN.out.1]; exact hown17) hgrow17 hat17; rw [← HLN.out.1] at hml3; have HML3 := Lib.hid hml3; clear hown17 hgrow17 hat17 hbx17 hml3))
                  clear q17 f17 b256 hcn HROW HML2
                  generalize w17.setCell ⟨gD, 256, none⟩ (.slice (some ⟨g17, 0, none⟩) (ln + 1) c17) = w18 at HML3 ⊢
                  obtain ⟨i4, hib4, hz4', hsz4, hbt4⟩ := info_parts info4
                  obtain ⟨Avc, cvc, hvc⟩ := own_slice HML3.out.ownC
                  obtain ⟨lc, hlc⟩ : ∃ lc, lc = acc.length := ⟨_, rfl⟩
                  rw [← hlc] at hvc
                  have hlci : lc < 400 := by rw [hlc, HMID.out.alen]; exact hi4
                  subst hvc
                  have e257 : w18.cell? ⟨gD, 257, none⟩ = some (.slice Avc lc cvc) := by rw [HML3.out.box.cell, dV_ac]
                  have HLC := Lib.hid hlc
                  have hsz18 : w6.heap.size ≤ w18.heap.size := HML3.out.bel.size
                  have hbn18 := (HENV.out.keep HML3.out.bel).bn
                  have ez := hbn18.cell 2
                  simp only [List.getElem?_cons_zero, List.getElem?_cons_succ] at ez
                  have hWw6 : W.heap.size < w6.heap.size := HENV.out.bn.lt
                  have hrx := HML3.out.rowA i HIA.out.2.1
                  rw [← HIA.out.2.2.1, ← HIA.out.2.2.2, ← HXX.out.2.2.2.1] at hrx
                  have har := own_nums hrx
                  obtain ⟨bx, ox, rfl, _, _⟩ := har.one hnXp
                  have hxb := has_nat X (z := z) HR.out.zlo nX (by rw [← HXX.out.2.2.2.1]; exact Nat.le_refl _)
                  have hcon : ∀ w' : World, w' = w18.drew → _ := fun w' (h : w' = w18.drew) => Try.slices_Contains_int bx ox nX cv (natL X) z w' (by rw [natL_len, ← HXX.out.2.2.2.1]; exact Nat.le_refl _) (by omega) (fun j hj => by
                    rw [natL_len, ← HXX.out.2.2.2.1] at hj
                    obtain ⟨b9, o9, e9, _, h9⟩ := har.one hj
                    simp only [Option.some.injEq, Addr.mk.injEq, and_true] at e9
                    obtain ⟨rfl, rfl⟩ := e9
                    rw [h]
                    exact h9)
                  rw [hxb] at hcon
                  obtain ⟨xb, hxbe⟩ : ∃ xb, xb = decide (z.toNat ∈ X) := ⟨_, rfl⟩
                  rw [← hxbe] at hcon
                  have HXB := Lib.hid hxbe
                  have HCON := Lib.hid hcon
                  clear hlc hbn18 hrx har hxb hcon hxbe
                  refine wp_region_L (S := SL [(9, fun W' => W'.cell? ⟨gD, 257, none⟩ = some (.slice Avc lc cvc) ∧ W'.cell? ⟨W.heap.size, 2, none⟩ = some (.int .i64 z))]) (by kernel_rfl) (SL.cons ⟨e257, ez⟩ SL.nil) (fun hHeld => ?_)
                  refine takeP (i := 0) (v := ?v0_1) (List.getElem?_toArray.trans rfl) (by kernel_rfl) (by kernel_rfl) (by kernel_rfl) (fun _ _ _ h => h) (by kernel_rfl) (Or.inl ⟨by rfl, ?hy0_1⟩) hHeld (fun hHeld => ?rest0_1)
                  case hy0_1 => (intro W hSw; go_simp <;> (with_reducible rfl))
                  simp only [Act.put, List.setIfInBounds_toArray, List.set_cons_zero, List.set_cons_succ]
                  refine takeP (i := 2) (v := ?v2_2) (List.getElem?_toArray.trans rfl) (by kernel_rfl) (by kernel_rfl) (by kernel_rfl) (fun _ _ _ h => h) (by kernel_rfl) (Or.inl ⟨by rfl, ?hy2_2⟩) hHeld (fun hHeld => ?rest2_2)
                  case hy2_2 => (intro W hSw; go_simp <;> (with_reducible rfl))
                  simp only [Act.put, List.setIfInBounds_toArray, List.set_cons_zero, List.set_cons_succ]
                  refine takeP (i := 3) (v := ?v3_3) (List.getElem?_toArray.trans rfl) (by kernel_rfl) (by kernel_rfl) (by kernel_rfl) (fun _ _ _ h => h) (by kernel_rfl) (Or.inl ⟨by rfl, ?hy3_3⟩) hHeld (fun hHeld => ?rest3_3)
                  case hy3_3 => (intro W hSw; go_simp <;> (with_reducible rfl))
                  simp only [Act.put, List.setIfInBounds_toArray, List.set_cons_zero, List.set_cons_succ]
                  refine takeL (i := 4) (v := ?v4_4) 9 (fun W' => W'.cell? ⟨gD, 257, none⟩ = some (.slice Avc lc cvc) ∧ W'.cell? ⟨W.heap.size, 2, none⟩ = some (.int .i64 z)) [4, 5, 6, 7, 9] (by simp) (List.getElem?_toArray.trans rfl) (by kernel_rfl) (by kernel_rfl) (by kernel_rfl) (fun _ _ _ h => h) (by kernel_rfl) (Or.inl ⟨by rfl, ?hy4_4⟩) hHeld (fun hHeld => ?rest4_4)
                  case hy4_4 => (intro W hSw; obtain ⟨hS1, hS2⟩ := hSw; go_simp <;> (with_reducible rfl))
                  simp only [Act.put, List.setIfInBounds_toArray, List.set_cons_zero, List.set_cons_succ]
                  refine takeL (i := 1) (v := ?v1_5) 9 (fun W' => W'.cell? ⟨gD, 257, none⟩ = some (.slice Avc lc cvc) ∧ W'.cell? ⟨W.heap.size, 2, none⟩ = some (.int .i64 z)) [1, 7, 9] (by simp) (List.getElem?_toArray.trans rfl) (by kernel_rfl) (by kernel_rfl) (by kernel_rfl) (fun _ _ _ h => h) (by kernel_rfl) (Or.inl ⟨by rfl, ?hy1_5⟩) hHeld (fun hHeld => ?rest1_5)
                  case hy1_5 => (intro W hSw; obtain ⟨hS1, hS2⟩ := hSw; go_simp <;> (with_reducible rfl))
                  simp only [Act.put, List.setIfInBounds_toArray, List.set_cons_zero, List.set_cons_succ]
                  refine wpAnyL_ready (rs := [5]) (by kernel_rfl) (by simp) ?_
                  refine AllReadyL.cons (List.getElem?_toArray.trans rfl) (fun K hK => ?_) AllReadyL.nil
                  go_simp
                  go_at_call 36
                  refine (HCON.out _ rfl).mono ?_
                  rintro e w19 ⟨rfl, rfl⟩
                  refine hK.out _ _ (SL.cons ⟨e257, ez⟩ SL.nil) (fun hHeld => ?_)
                  clear hK K
                  try simp only [Act.put, List.setIfInBounds_toArray, List.set_cons_zero, List.set_cons_succ]
                  refine wpAnyL_ready (rs := [6]) (by kernel_rfl) (by simp) ?_
                  refine AllReadyL.cons (List.getElem?_toArray.trans rfl) (fun K hK => ?_) AllReadyL.nil
                  go_simp
                  have k6 := Blk.new w18.drew 4 [.bool xb]
                  refine hK.out _ _ (SL.cons ⟨cellAl e257 _, cellAl ez _⟩ SL.nil) (fun hHeld => ?_)
                  clear hK K
                  try simp only [Act.put, List.setIfInBounds_toArray, List.set_cons_zero, List.set_cons_succ]
                  refine wpAnyL_ready (rs := [7]) (by kernel_rfl) (by simp) ?_
                  refine AllReadyL.cons (List.getElem?_toArray.trans rfl) (fun K hK => ?_) AllReadyL.nil
                  refine step_append_lies _ rfl (.tmp 197) (.tmp 202) 28 rfl w6.heap.size 4 i4 (.bool false) 1 1 Try.underlying28 hib4 hz4' hsz4 hbt4 rfl (by decide) (.slice Avc lc cvc) lc (acc.map Value.bool) rfl (by have h9 := (HML3.out.ownC.drew).alloc (.cells #[.bool xb] 4); rw [← HLC.out] at h9; exact h9) ⟨_, 0, none⟩ 1 1 [.bool xb] rfl rfl (one_news (by first | exact Blk.cell k6 0 | (simp; done) | (have h9 := Blk.cell k6 0; simpa using h9))) (by simp [Value.oneCell']) (by omega) (by unfold maxLen; omega) (by omega) (by simp; omega) _ rfl ?_
                  intro g5 c5 w20 hown20 hgrow20 hat20 hlt20
                  have hbx := (But.of_grown hgrow20).blk (HML3.out.drew.alloc (.cells #[.bool xb] 4)).box (blk_own_ne (HML3.out.drew.alloc (.cells #[.bool xb] 4)).box (HML3.out.drew.alloc (.cells #[.bool xb] 4)).ownC (by decide))
                  have q0 := hbx.cell 257
                  rw [dV_ac] at q0
                  have f0 := hbx.frozen 257
                  have HW20 := Lib.hid (And.intro hown20 hgrow20)
                  refine hK.out _ _ (SL.cons ⟨q0, by exact (hgrow20.cell_far ⟨W.heap.size, 2, none⟩ (show W.heap.size < (w18.drew.alloc (.cells #[.bool xb] 4)).heap.size from by rw [World.size_alloc]; exact Nat.lt_succ_of_lt (Nat.lt_of_lt_of_le hWw6 hsz18)) (fun e => by have h9 : w6.heap.size ≤ W.heap.size := (HML3.out.ownC.lt _ e.symm).1; exact absurd hWw6 (Nat.not_lt.2 h9))).trans (cellAl ez _)⟩ SL.nil) (fun hHeld => ?_)
                  clear hK K hown20 hgrow20 hat20 hlt20 hbx
                  try simp only [Act.put, List.setIfInBounds_toArray, List.set_cons_zero, List.set_cons_succ]
                  refine takeP (i := 8) (v := ?v8_6) (List.getElem?_toArray.trans rfl) (by kernel_rfl) (by kernel_rfl) (by kernel_rfl) (fun _ _ _ h => h) (by kernel_rfl) (Or.inl ⟨by rfl, ?hy8_6⟩) hHeld (fun hHeld => ?rest8_6)
                  case hy8_6 => (intro W hSw; go_simp <;> (with_reducible rfl))
                  simp only [Act.put, List.setIfInBounds_toArray, List.set_cons_zero, List.set_cons_succ]
                  refine wpAnyL_ready (rs := [9]) (by kernel_rfl) (by simp) ?_
                  refine AllReadyL.cons (List.getElem?_toArray.trans rfl) (fun K hK => ?_) AllReadyL.nil
                  go_simp
                  refine hK.out _ _ (SL.off (by kernel_rfl) SL.nil) (fun hHeld => ?_)
                  clear hK K
                  try simp only [Act.put, List.setIfInBounds_toArray, List.set_cons_zero, List.set_cons_succ]
                  refine wpAnyL_done (by kernel_rfl) ?_ _
                  have hml4 := (HML3.out.drew.alloc (.cells #[.bool xb] 4)).addC (x := xb) (g5 := g5) (c5 := c5) (by rw [← HLC.out]; exact HW20.out.1) HW20.out.2
                  rw [← HLC.out] at hml4
                  have HML4 := Lib.hid hml4
                  clear hml4 q0 f0
                  go_wp2_with fail
                  go_roundw
                  case rel =>
                    have hmd := HMID.out.done (R := R) HIA.out.2.1 HRL.out (by rw [← HIA.out.2.2.1]; exact HRO.out)
                    rw [← HIA.out.2.2.1, ← HXB.out] at hmd
                    exact ⟨i + 1, n9, _, _, lA, _, all, _, _, D, by go_num, HML4.out, HIA.out.1, HID.out, hmd⟩
                  case measure => simp [intOf]; omega
            · obtain rfl : i = al := by omega
              have d1 : decide ((i : Int) < (i : Int)) = false := by simp
              have hmid := HMID.out
              rw [show i = all.length from HAL.out] at hmid
              have hn4 : next.length ≤ 400 := by rw [hmid.nlen]; exact hmid.few
              have ha4 : acc.length ≤ 400 := by rw [hmid.alen]; exact hmid.few
              have hrl : ∀ k, k < next.length → (next.getD k []).length ≤ 256 := fun k hk => by
                rw [(hmid.row k (by rw [← hmid.nlen]; exact hk)).1]; exact HC.out.hi
              have hcl2 : ∀ b, b < 256 → cls b < 256 := fun b hb => by have := HC.out.lt b hb; have := HC.out.hi; omega
              obtain ⟨Avn, cvn, hvn⟩ := own_slice HML.out.ownN
              obtain ⟨Avc, cvc, hvc⟩ := own_slice HML.out.ownC
              have hr9 := HR7.out.below HML.out.bel HR7.out.lt
              have hbl9 := HBW7.out.trans (HML.out.bel.mono HBW7.out.size)
              have hne9 : ∀ (ds : Array Value) k, w6.heap.size ≤ k → (w9.setRow (W.heap.size + 1) ds).heap[k]? = w9.heap[k]? := fun ds k hk => setRow_other _ _ _ _ (by have := HR7.out.lt; omega)
              have hdf := HML.out.dfa (hne9 (dV cls vnx vac).toArray) hcl2 hrl hn4 ha4
              have hld := load30 HML.out.box (dV_len _ _ _)
              have hst := store30 hr9 (dV_len _ _ _) (dV cls vnx vac) (dV_len _ _ _) (by rw [hvn, hvc]; exact dV_one _ _ _ _ _ _ _)
              obtain ⟨ds, hds⟩ : ∃ ds, ds = dV cls vnx vac := ⟨_, rfl⟩
              have hdl : ds.length = 258 := by rw [hds, dV_len]
              rw [← hds] at hld hst hdf
              have HFIN := Lib.hid (And.intro hmid (And.intro hdf (And.intro hr9 (And.intro hbl9 hdl))))
              clear hmid hn4 ha4 hrl hcl2 hvn hvc hr9 hbl9 hne9 hdf hds hdl
              go_wp2_with fail
              (try simp only [Exit.inBlock, Exit.then])
              refine bodyPost_ret (res30 rfl rfl rfl (by have h9 := HFIN.out.2.2.1.row ds.toArray; rw [List.toList_toArray] at h9; exact h9) HFIN.out.2.2.2.2) rfl ?_
              obtain ⟨A1, A2, c1, c2, RA9, rc9, hdf9⟩ := HFIN.out.2.1
              exact ⟨.inl ⟨⟨cls, next, acc⟩, all, ls, many, ds.toArray, A1, A2, c1, c2, RA9, rc9, rfl, hdf9, HC.out, HLS.out, HFIN.out.1⟩, below_setRow HFIN.out.2.2.2.1 (by omega) _⟩
        | succ b =>
          have hbe : ((b + 1 : Nat) : Int) - 1 = (b : Int) := by omega
          rw [hbe]
          have hb9 : b < 256 := by omega
          have c0 := HBC.out.cell b
          rw [bytV_get _ hb9] at c0
          have hcl9 := HC.out.lt b hb9
          obtain ⟨cb, hcb⟩ : ∃ cb, cb = cls b := ⟨_, rfl⟩
          rw [← hcb] at c0 hcl9
          have c1 := HBL.out.cell cb
          rw [leastV_get _ hcl9] at c1
          have c2 := HBL.out.frozen cb
          have hw9 : (b : Int) % 256 = (b : Int) := by omega
          have HW9 := Lib.hid hw9
          have HCB := Lib.hid hcb
          clear hbe hw9 hcb hb
          go_wp2_with fail
          refine ⟨⟨b, fun j => if j = cb then b else ls j, by omega, rfl, ?_, blk_cell HBL.out HBC.out (by decide), ?_, below_sc HBB.out (by rw [HG.out.2]; omega) _⟩, ?_⟩
          · rw [HCB.out]; exact least_step hb9 HLO.out
          · rw [← leastV_set]; exact HBL.out.set cb _
          · simp [intOf]
end Go.Proofs.Ytfjhcoeehjephaa
