/- heap.New with merges left out. -/
import Derived.Test.YtklklmaclaohaaaXJoin
namespace Go.Proofs.Ytklklmaclaohaaa
open Go.RowKit Go.Maps Go.WideMaps
/-- what is left out may not be so, at a place -/
def badD (d : List Int) (n i : Nat) : Bool := (decide (d.getD i 0 < 0) || decide ((n : Int) ≤ d.getD i 0)) || (decide (0 < i) && decide (d.getD i 0 ≤ d.getD (i - 1) 0))
def dropB (d : List Int) (n : Nat) : Bool := (List.range d.length).all fun i => !badD d n i
theorem dropB_no {d : List Int} {n k : Nat} (hk : k < d.length) (h : badD d n k = true) : dropB d n = false := by
  unfold dropB
  rw [List.all_eq_false]
  exact ⟨k, by simpa using hk, by simp [h]⟩
theorem dropB_yes {d : List Int} {n : Nat} (h : ∀ j, j < d.length → badD d n j = false) : dropB d n = true := by
  unfold dropB
  rw [List.all_eq_true]
  intro x hx
  rw [h x (by simpa using hx)]
  rfl
theorem drop_step {d : List Int} {n : Nat} (h : ∀ j, j < d.length → badD d n j = false) {k : Nat} (hk : k + 1 < d.length) : d.getD k 0 < d.getD (k + 1) 0 := by
  have := h (k + 1) hk
  unfold badD at this
  simp at this
  have h3 := this.2
  simpa using h3
theorem drop_mono {d : List Int} {n : Nat} (h : ∀ j, j < d.length → badD d n j = false) : ∀ {i j : Nat}, i < j → j < d.length → d.getD i 0 < d.getD j 0
  | i, 0, hij, _ => absurd hij (by omega)
  | i, j + 1, hij, hj => by
    by_cases e : i = j
    · subst e; exact drop_step h hj
    · exact Int.lt_trans (drop_mono h (show i < j by omega) (by omega)) (drop_step h hj)
theorem drop_sorted {d : List Int} {n : Nat} (h : ∀ j, j < d.length → badD d n j = false) : d.Pairwise (· ≤ ·) := by
  rw [List.pairwise_iff_getElem]
  intro i j hi hj hij
  have := drop_mono h hij hj
  simp [hi, hj] at this
  omega
def inD (d : List Int) (k : Nat) : Bool := d.contains (k : Int)
theorem bs_any (A1 : Option Addr) (n1 c1 : Nat) (d : List Int) (x : Int) (W : World) (hl : d.length = n1) (hn : n1 ≤ 140737488355328) (h : Arr W W.heap.size 1 A1 n1 (IntC d)) (hs : d.Pairwise (· ≤ ·)) :
    Calls Try.prog 18 #[.slice A1 n1 c1, .int .i64 x] W fun e w' => ∃ (k : Nat) (q : Nat), e = .returned (.tuple #[.int .i64 (k : Int), .bool (d.contains x)]) ∧ w' = W.drewN q := by
  by_cases h0 : n1 = 0
  · subst h0
    obtain rfl : d = [] := List.length_eq_zero_iff.1 hl
    refine (Try.slices_BinarySearch_int_empty A1 c1 x W).mono ?_
    rintro e w' ⟨rfl, rfl⟩
    exact ⟨0, 0, rfl, rfl⟩
  · obtain ⟨b, off, rfl, hlt, hc⟩ := h (by omega)
    have ht : d.take n1 = d := List.take_of_length_le (by omega)
    refine (Try.slices_BinarySearch_int b off n1 c1 d x W (by omega) (by omega) (fun j hj => ?_) (by rw [ht]; exact hs)).mono ?_
    · have := hc j 0 (by omega) (by omega)
      simpa [IntC] using this
    · rintro e w' ⟨rfl, q, rfl⟩
      rw [ht]
      exact ⟨_, q, rfl, rfl⟩
set_option maxRecDepth 100000 in
set_option maxHeartbeats 4000000 in
theorem new_any (A A1 : Option Addr) (n c n1 c1 : Nat) (l : List (Int × Int)) (d : List Int) (w : World) (hl : l.length = n) (hn : n ≤ 140737488355328) (h1 : Arr w w.heap.size 2 A n (PairC l)) (hl1 : d.length = n1) (hn1 : n1 ≤ 140737488355328) (hd : Arr w w.heap.size 1 A1 n1 (IntC d)) :
    Calls Try.prog 7 #[.slice A n c, .slice A1 n1 c1] w fun e w' => Below w.heap.size w w' ∧
      (((texts l).2 ≠ 0 ∧ e = .returned (.tuple #[.pointer none, .int .i64 (texts l).2])) ∨
       ((texts l).2 = 0 ∧ dropB d n = false ∧ e = .returned (.tuple #[.pointer none, .int .i64 1])) ∨
       ((texts l).2 = 0 ∧ dropB d n = true ∧ ∃ ge gm D, e = .returned (.tuple #[.pointer (some ⟨ge, 0, none⟩), .int .i64 0]) ∧ EngIn w' w.heap.size ge gm (.slice none 0 0) D n (fun a b => rankTo (inD d) l a b n))) := by
  have HR := Lib.hid (right_any A n c l w hl hn h1)
  have H1 := Lib.hid h1
  have HD := Lib.hid hd
  have HL1 := Lib.hid hl1
  clear h1 hd
  have hmm := @run_makeMap Try.prog
  obtain ⟨er, her⟩ : ∃ er, er = (texts l).2 := ⟨_, rfl⟩
  rw [← her] at HR ⊢
  have HER := Lib.hid her
  clear her
  go_enter Try.func7, Try.ntmps7
  go_wp2_with fail
  refine HR.out.mono ?_
  rintro e w1 ⟨rfl, hb1⟩
  have HB1 := Lib.hid hb1
  clear hb1
  by_cases h0 : er = 0
  · subst h0
    have hv := texts_valid HER.out.symm
    have HV := Lib.hid hv.2
    have hn2 : n ≤ 1024 := by rw [← hl]; exact hv.1
    clear hv
    go_upto_block 0 with (fail)
    go_cut [] from 7 (fun wx => wx = w1 ∧ ∀ j, j < n1 → badD d n j = false)
    case first =>
      go_wp2_with fail
      go_loop [23] (fun i => ∃ k : Nat, k ≤ n1 ∧ i = .int .i64 k ∧ ∀ j, j < k → badD d n j = false) (fun i => n1 - (intOf i).toNat)
      case atStart => exact ⟨0, by omega, rfl, fun j hj => by omega⟩
      case round =>
        obtain ⟨k, hk, rfl, hbad⟩ := hrel
        have HBAD := Lib.hid hbad
        clear hbad
        by_cases hlt : k < n1
        · obtain ⟨b, off, rfl, hblt, hca⟩ := (HD.out.below HB1.out) (by omega)
          have hc0 := hca k 0 hlt (by omega)
          have hcp := hca (k - 1) 0 (by omega) (by omega)
          unfold IntC at hc0 hcp
          simp only [Nat.mul_one, Nat.add_zero] at hc0 hcp
          obtain ⟨x, hx⟩ : ∃ x, x = d.getD k 0 := ⟨_, rfl⟩
          obtain ⟨y, hy⟩ : ∃ y, y = d.getD (k - 1) 0 := ⟨_, rfl⟩
          rw [← hx] at hc0
          rw [← hy] at hcp
          have hbd : badD d n k = ((decide (x < 0) || decide ((n : Int) ≤ x)) || (decide (0 < k) && decide (x ≤ y))) := by rw [hx, hy]; rfl
          have HBD := Lib.hid hbd
          clear hx hy hbd hca
          by_cases h1 : x < 0
          · have e1 : decide (x < 0) = true := by simpa using h1
            have hno := dropB_no (by rw [HL1.out]; exact hlt) (by rw [HBD.out, e1]; simp : badD d n k = true)
            have HNO := Lib.hid hno
            clear hno
            go_wp2_with fail
            go_returns
            exact ⟨HB1.out, .inl ⟨HNO.out, by first | rfl | simp⟩⟩
          · have e1 : decide (x < 0) = false := by simpa using h1
            by_cases h2 : (n : Int) ≤ x
            · have e2 : decide ((n : Int) ≤ x) = true := by simpa using h2
              have hno := dropB_no (by rw [HL1.out]; exact hlt) (by rw [HBD.out, e2]; simp : badD d n k = true)
              have HNO := Lib.hid hno
              clear hno
              go_wp2_with fail
              go_returns
              exact ⟨HB1.out, .inl ⟨HNO.out, by first | rfl | simp⟩⟩
            · have e2 : decide ((n : Int) ≤ x) = false := by simpa using h2
              by_cases h3 : k = 0
              · have e3 : decide ((0 : Int) < (k : Int)) = false := by simp; omega
                have e3n : decide (0 < k) = false := by simp; omega
                have hok : badD d n k = false := by rw [HBD.out, e1, e2, e3n]; rfl
                have HOK := Lib.hid hok
                have H3 := Lib.hid h3
                clear hok h3
                go_wp2_with fail
                go_round
                case rel => exact ⟨k + 1, by omega, by go_num, fun j hj => by
                              by_cases e9 : j = k
                              · subst e9; exact HOK.out
                              · exact HBAD.out j (by omega)⟩
                case measure => simp [intOf]; omega
              · have e3 : decide ((0 : Int) < (k : Int)) = true := by simp; omega
                have e3n : decide (0 < k) = true := by simp; omega
                have m1 : (k : Int) - 1 = ((k - 1 : Nat) : Int) := by omega
                have i1 : ((k - 1 : Nat) : Int) < (n1 : Int) := by omega
                obtain ⟨k1, hk1⟩ : ∃ k1, k1 = k - 1 := ⟨_, rfl⟩
                rw [← hk1] at m1 i1 hcp
                clear hk1
                by_cases h4 : x ≤ y
                · have e4 : decide (x ≤ y) = true := by simpa using h4
                  have hno := dropB_no (by rw [HL1.out]; exact hlt) (by rw [HBD.out, e3n, e4]; simp : badD d n k = true)
                  have HNO := Lib.hid hno
                  clear hno
                  go_wp2_with fail
                  go_returns
                  exact ⟨HB1.out, .inl ⟨HNO.out, by first | rfl | simp⟩⟩
                · have e4 : decide (x ≤ y) = false := by simpa using h4
                  have hok : badD d n k = false := by rw [HBD.out, e1, e2, e4]; simp
                  have HOK := Lib.hid hok
                  clear hok
                  go_wp2_with fail
                  go_round
                  case rel => exact ⟨k + 1, by omega, by go_num, fun j hj => by
                                by_cases e9 : j = k
                                · subst e9; exact HOK.out
                                · exact HBAD.out j (by omega)⟩
                  case measure => simp [intOf]; omega
        · obtain rfl : n1 = k := by omega
          go_wp2_with fail
          go_meet
          exact ⟨rfl, HBAD.out⟩
    case rest =>
    obtain ⟨rfl, hbad⟩ := hcut
    obtain ⟨w1, rfl⟩ : ∃ w1 : World, w1 = wc := ⟨_, rfl⟩
    have hbad2 : ∀ j, j < d.length → badD d n j = false := fun j hj => hbad j (by rw [← HL1.out]; exact hj)
    have HDY := Lib.hid (dropB_yes hbad2)
    have hsrt := drop_sorted hbad2
    have HBS := Lib.hid (fun x W (h : Arr W W.heap.size 1 A1 n1 (IntC d)) => bs_any A1 n1 c1 d x W hl1 hn1 h hsrt)
    clear hbad hbad2 hsrt hl1
    go_wp2_with fail
    obtain ⟨gm, hgm⟩ : ∃ gm, gm = w1.heap.size := ⟨_, rfl⟩
    obtain ⟨ge, hge⟩ : ∃ ge, ge = w1.heap.size + 1 := ⟨_, rfl⟩
    have hbx : Blk ((w1.alloc (.map #[] 0)).alloc (.cells #[.map (some w1.heap.size), .int .i32 0, .int .u32 0, .slice none 0 0] 56)) ge 56 [.map (some gm), .int .i32 0, .int .u32 0, .slice none 0 0] := by
      rw [hge, hgm, show w1.heap.size + 1 = (w1.alloc (.map #[] 0)).heap.size by simp]
      exact Blk.new _ 56 [.map (some w1.heap.size), .int .i32 0, .int .u32 0, .slice none 0 0]
    have hmp : ((w1.alloc (.map #[] 0)).alloc (.cells #[.map (some w1.heap.size), .int .i32 0, .int .u32 0, .slice none 0 0] 56)).ownsMap Try.prog 58 (plainElem (H := Unit) Try.prog 3) gm 0 (.map []) := by
      rw [hgm]
      exact (World.ownsMap_made _ _ _ _).alloc _
    have hbl : Below w.heap.size w ((w1.alloc (.map #[] 0)).alloc (.cells #[.map (some w1.heap.size), .int .i32 0, .int .u32 0, .slice none 0 0] 56)) := (HB1.out.alloc HB1.out.size _).alloc (by have := HB1.out.size; simp; omega) _
    have hgmB : w.heap.size ≤ gm := by have := HB1.out.size; omega
    have hgeB : w.heap.size ≤ ge := by omega
    have HNE := Lib.hid (show ge ≠ gm by omega)
    rw [← hge]
    generalize (w1.alloc _).alloc _ = w2 at hbx hmp hbl ⊢
    clear hgm hge
    have HBX := Lib.hid (And.intro hbx (And.intro hmp hbl))
    clear hbx hmp hbl
    go_loopw [55] (fun i wr => ∃ (k : Nat) (D : DataW Unit), k ≤ n ∧ i = .int .i64 k ∧ Below w.heap.size w wr ∧ Blk wr ge 56 [.map (some gm), .int .i32 0, .int .u32 0, .slice none 0 0] ∧ wr.ownsMap Try.prog 58 (plainElem Try.prog 3) gm k D ∧ Ranks D (fun a b => rankTo (inD d) l a b k)) (fun i _ => n - (intOf i).toNat)
    case atStart => exact ⟨0, .map [], by omega, rfl, HBX.out.2.2, HBX.out.1, HBX.out.2.1, ranks_empty⟩
    case round =>
      obtain ⟨k, D, hk, rfl, hbw, hbx, hmap, hR⟩ := hrel
      have HRK := Lib.hid hR
      have hsw := hbw.size
      have hgml := hmap.lt
      have hgel := hbx.lt
      clear hR
      by_cases hlt : k < n
      · obtain ⟨b, off, rfl, hadlt, hc0, hc1⟩ := (H1.out.below hbw).two hlt
        simp only [PairC, reduceIte, Nat.succ_ne_zero] at hc0 hc1
        obtain ⟨m1, hm1⟩ : ∃ m1, m1 = (l.getD k (0,0)).1 := ⟨_, rfl⟩
        obtain ⟨m2, hm2⟩ : ∃ m2, m2 = (l.getD k (0,0)).2 := ⟨_, rfl⟩
        rw [← hm1] at hc0
        rw [← hm2] at hc1
        have hv := HV.out k (by omega)
        rw [← hm1, ← hm2] at hv
        have HI1 := Lib.hid (i64_of m1 hv.1 (by omega))
        have HI2 := Lib.hid (i64_of m2 hv.2.2.1 (by omega))
        have HM := Lib.hid (And.intro hm1 hm2)
        clear hm1 hm2 hv
        obtain ⟨W3, hW3⟩ : ∃ W3, W3 = wr.alloc (.cells #[.int .i64 m1, .int .i64 m2] 58) := ⟨_, rfl⟩
        have hq0 : W3.cell? ⟨ge, 0, none⟩ = some (.map (some gm)) := by rw [hW3]; exact (hbx.alloc _).cell 0
        have hy0 : W3.cell? ⟨wr.heap.size, 0, none⟩ = some (.int .i64 m1) := by rw [hW3]; exact (Blk.new wr 58 [.int .i64 m1, .int .i64 m2]).cell 0
        have hy1 : W3.cell? ⟨wr.heap.size, 1, none⟩ = some (.int .i64 m2) := by rw [hW3]; exact (Blk.new wr 58 [.int .i64 m1, .int .i64 m2]).cell 1
        have hm3 := hmap.alloc (.cells #[.int .i64 m1, .int .i64 m2] 58)
        rw [← hW3] at hm3
        have hb3 : Below w.heap.size w W3 := by rw [hW3]; exact hbw.alloc hsw _
        have hx3 : Blk W3 ge 56 [.map (some gm), .int .i32 0, .int .u32 0, .slice none 0 0] := by rw [hW3]; exact hbx.alloc _
        have hda := (HD.out.below hb3).more hb3.size
        have HBK := Lib.hid (HBS.out (k : Int) W3 hda)
        have HW3 := Lib.hid hW3
        have H33 := Lib.hid (And.intro hb3 hx3)
        obtain ⟨dr, hdr⟩ : ∃ dr, dr = d.contains (k : Int) := ⟨_, rfl⟩
        rw [← hdr] at HBK
        have HDR := Lib.hid (show inD d k = dr from hdr.symm)
        clear hb3 hx3 hda hW3 hdr
        go_wp2_with fail
        rw [← HW3.out]
        refine HBK.out.mono ?_
        rintro e w' ⟨k9, q9, rfl, rfl⟩
        have hq9 : (W3.drewN q9).cell? ⟨ge, 0, none⟩ = some (.map (some gm)) := hq0
        have hy8 : (W3.drewN q9).cell? ⟨wr.heap.size, 0, none⟩ = some (.int .i64 m1) := hy0
        have hy9 : (W3.drewN q9).cell? ⟨wr.heap.size, 1, none⟩ = some (.int .i64 m2) := hy1
        have hm9 := map_drewN hm3 q9
        have H35 := Lib.hid (And.intro (below_drewN H33.out.1 q9) (H33.out.2.drewN q9))
        generalize W3.drewN q9 = W5 at hq9 hy8 hy9 hm9 H35 ⊢
        clear hq0 hy0 hy1 hm3
        cases dr with
        | true =>
          have HM9 := Lib.hid hm9
          clear hm9
          go_wp2_with fail
          go_roundw
          case rel =>
            have e : (fun a b => rankTo (inD d) l a b (k + 1)) = fun a b => rankTo (inD d) l a b k := by
              funext a b
              exact rankTo_out HDR.out a b
            refine ⟨k + 1, D, by omega, by go_num, H35.out.1, H35.out.2, ?_, ?_⟩
            · exact HM9.out.mono (by omega)
            · rw [e]; exact HRK.out
          case measure => simp [intOf]; omega
        | false =>
        cases hrk : rankTo (inD d) l m1 m2 k with
        | some r =>
          have hlook : ∀ nq, (Instr.lookup 46 (.map (some gm)) (.agg #[.int .i64 m1, .int .i64 m2]) true).run Try.prog (W5.drewN nq) = .ok (.tuple #[.int .i64 (r : Int), .bool true]) (W5.drewN nq) := fun nq => by
            rw [ranks_lookup (map_drewN hm9 nq) HRK.out m1 m2 HI1.out HI2.out, hrk]; rfl
          have HRR := Lib.hid hrk
          have HM9 := Lib.hid hm9
          clear hrk hm9
          go_wp2_with fail
          go_quiet (fail)
          go_wp2_with fail
          go_roundw
          case rel =>
            have e : (fun a b => rankTo (inD d) l a b (k + 1)) = fun a b => rankTo (inD d) l a b k := by
              funext a b
              exact rankTo_old (by rw [← HM.out.1, ← HM.out.2, HRR.out]; rfl) a b
            exact ⟨k + 1, D, by omega, by go_num, below_drewN H35.out.1 _, H35.out.2.drewN _, (map_drewN HM9.out _).mono (by omega), by rw [e]; exact HRK.out⟩
          case measure => simp [intOf]; omega
        | none =>
          have hlook : ∀ nq, (Instr.lookup 46 (.map (some gm)) (.agg #[.int .i64 m1, .int .i64 m2]) true).run Try.prog (W5.drewN nq) = .ok (.tuple #[.int .i64 (0 : Int), .bool false]) (W5.drewN nq) := fun nq => by
            rw [ranks_lookup (map_drewN hm9 nq) HRK.out m1 m2 HI1.out HI2.out, hrk]; rfl
          have HRR := Lib.hid hrk
          clear hrk
          go_wp2_with fail
          go_quiet (fail)
          clear hlook
          have hr9 : (W5.drewN nq).cell? ⟨ge, 0, none⟩ = some (.map (some gm)) := hq9
          have hr1 : (W5.drewN nq).cell? ⟨wr.heap.size, 0, none⟩ = some (.int .i64 m1) := hy8
          have hr2 : (W5.drewN nq).cell? ⟨wr.heap.size, 1, none⟩ = some (.int .i64 m2) := hy9
          have hm4 := map_drewN hm9 nq
          have hb4 := below_drewN H35.out.1 nq
          have hx4 := H35.out.2.drewN nq
          generalize W5.drewN nq = W4 at hr9 hr1 hr2 hm4 hb4 hx4 ⊢
          clear hq9 hy8 hy9 hm9 H35
          have hmd : W4.drew.ownsMap Try.prog 58 (plainElem (H := Unit) Try.prog 3) gm k D := map_drewN hm4 1
          have hbd : Below w.heap.size w W4.drew := below_drewN hb4 1
          have hxd : Blk W4.drew ge 56 [.map (some gm), .int .i32 0, .int .u32 0, .slice none 0 0] := hx4.drewN 1
          obtain ⟨w5, hrun, hm5, hg5⟩ := hmd.update keyed43 Try.underlying46 (by unfold maxLen; omega) (keyOf43 m1 m2 HI1.out HI2.out) (plainElem_int (H := Unit) Try.underlying3 (i64_of (k : Int) (by omega) (by omega)))
          have hb5 := below_by hbd (by have := hb4.size; simpa using this) hg5 hgmB
          have hx5 : Blk w5 ge 56 [.map (some gm), .int .i32 0, .int .u32 0, .slice none 0 0] := (hg5.block ge hxd.lt (fun e9 => HNE.out (Option.some.inj e9))).trans hxd
          have H5 := Lib.hid (And.intro hm5 (And.intro hb5 hx5))
          clear hm4 hb4 hx4 hmd hbd hxd hm5 hg5 hb5 hx5
          go_wp2_with fail
          go_region
          go_wp2_with fail
          go_roundw
          case rel =>
            have e : (fun a b => rankTo (inD d) l a b (k + 1)) = fun a b => if a = m1 ∧ b = m2 then some k else rankTo (inD d) l a b k := by
              funext a b
              rw [rankTo_new HDR.out (by rw [← HM.out.1, ← HM.out.2, HRR.out]; rfl) a b, HM.out.1, HM.out.2]
            exact ⟨k + 1, _, by omega, by go_num, H5.out.2.1, H5.out.2.2, H5.out.1, by rw [e]; exact ranks_put HRK.out m1 m2 HI1.out HI2.out k⟩
          case measure => simp [intOf]; omega
      · have hk2 : k = n := by omega
        subst hk2
        have H6 := Lib.hid (show EngIn wr w.heap.size ge gm (.slice none 0 0) D k (fun a b => rankTo (inD d) l a b k) from ⟨hgeB, hgmB, HNE.out, hbx, hmap, HRK.out⟩)
        clear hbx hmap
        go_wp2_with fail
        go_returns
        exact ⟨hbw, .inr ⟨HDY.out, ge, by first | rfl | simp, gm, D, H6.out⟩⟩
  · have e0 : (er == 0) = false := by simpa using h0
    go_wp2_with fail
    go_returns
    exact ⟨HB1.out, .inl ⟨h0, by first | rfl | simp⟩⟩
end Go.Proofs.Ytklklmaclaohaaa
