/- HXJoin, HNewD, HRDrop of this seat, in one text. -/
import Derived.Test.YtfjgfabochiflaaHSmTc
import Derived.Test.YtfjgfabochiflaaHXMA2Tc
/- Merging by a queue and merging by definition: the same. Plain. -/
namespace Go.Proofs.Ytfjgfabochiflaa.H14
theorem bestTo_scan {F : Int → Int → Option Nat} {l : List (Int × Int)} {out : List Int} (h : ∀ a b, 0 ≤ a → 0 ≤ b → F a b = R13.rank l a b) (hp : ∀ k, 0 ≤ out.getD k 0) :
    ∀ k, bestTo (fget F) out k = (R13.scanTo l out k).map fun p => (p.2, (p.1 : Int), 256 + (p.1 : Int))
  | 0 => rfl
  | k + 1 => by
    rw [bestTo, R13.scanTo, bestTo_scan h hp k]
    unfold fget
    rw [h _ _ (hp k) (hp (k + 1))]
    cases R13.rank l (out.getD k 0) (out.getD (k + 1) 0) with
    | none => rfl
    | some r =>
      cases R13.scanTo l out k with
      | none => rfl
      | some q =>
        obtain ⟨b, i⟩ := q
        show (if (r : Int) < (b : Int) then some (k, (r : Int), 256 + (r : Int)) else some (i, (b : Int), 256 + (b : Int))) = Option.map _ (if r < b then some (r, k) else some (b, i))
        by_cases hrb : r < b
        · rw [if_pos hrb, if_pos (by omega)]; rfl
        · rw [if_neg hrb, if_neg (by omega)]; rfl
theorem mergeN_def {F : Int → Int → Option Nat} {l : List (Int × Int)} (hl : l.length ≤ 1024) (h : ∀ a b, 0 ≤ a → 0 ≤ b → F a b = R13.rank l a b) : ∀ (f : Nat) (out : List Int), (∀ x ∈ out, 0 ≤ x) → mergeN (fget F) 1280 f out = some (R13.mergeF l f out)
  | 0, out, _ => rfl
  | f + 1, out, hp => by
    have hp2 : ∀ k, 0 ≤ out.getD k 0 := fun k => by
      by_cases hk : k < out.length
      · have : out.getD k 0 = out[k] := by simp [hk]
        rw [this]; exact hp _ (List.getElem_mem hk)
      · simp [hk]
    rw [mergeN, bestOf, bestTo_scan h hp2, R13.mergeF, R13.scan]
    cases hs : R13.scanTo l out (out.length - 1) with
    | none => rfl
    | some q =>
      obtain ⟨b, i⟩ := q
      have hb := R13.scanTo_lt hs
      simp only [Option.map_some]
      rw [if_neg (by omega)]
      refine mergeN_def hl h f _ (fun x hx => ?_)
      rcases List.mem_append.1 hx with h9 | h9
      · exact hp x (List.mem_of_mem_take h9)
      · rcases List.mem_cons.1 h9 with h8 | h8
        · omega
        · exact hp x (List.mem_of_mem_drop h8)
theorem merge_def {F : Int → Int → Option Nat} {l : List (Int × Int)} (hl : l.length ≤ 1024) (h : ∀ a b, 0 ≤ a → 0 ≤ b → F a b = R13.rank l a b) (s : ByteArray) : mergeF (fget F) 1280 (bytesI s) = some (R13.mergeAll l (bytesI s)) :=
  mergeN_def hl h _ _ (fun x hx => by
    unfold bytesI at hx
    obtain ⟨b, _, rfl⟩ := List.mem_map.1 hx
    omega)
theorem rankTo_none (l : List (Int × Int)) (a b : Int) : ∀ n, rankTo noDrop l a b n = R13.rankTo l a b n
  | 0 => rfl
  | n + 1 => by
    rw [rankTo, R13.rankTo, rankTo_none l a b n]
    cases R13.rankTo l a b n with
    | some k => rfl
    | none => simp [noDrop]
theorem bytes_ok (s : ByteArray) (n : Nat) : (bytesI s).any (fun i => decide (i < 0) || decide (256 + (n : Int) ≤ i)) = false := by
  rw [List.any_eq_false]
  intro x hx
  unfold bytesI at hx
  obtain ⟨b, _, rfl⟩ := List.mem_map.1 hx
  have := b.toNat_lt
  simp
  omega
end Go.Proofs.Ytfjgfabochiflaa.H14
/- heap.New with merges left out. -/
namespace Go.Proofs.Ytfjgfabochiflaa.H14
open Go.RowKit Go.Maps Go.WideMaps
/-- what is left out may not be so, at a place -/
def badD (d : List Int) (n i : Nat) : Bool := (decide (d.getD i 0 < 0) || decide ((n : Int) ≤ d.getD i 0)) || (decide (0 < i) && decide (d.getD i 0 ≤ d.getD (i - 1) 0))
def dropB (d : List Int) (n : Nat) : Bool := (List.range d.length).all fun i => !badD d n i
theorem dropB_no {d : List Int} {n k : Nat} (hk : k < d.length) (h : badD d n k = true) : dropB d n = false := by
  unfold dropB
  rw [List.all_eq_false]
  exact ⟨k, by simpa using hk, by simp [h]⟩
theorem dropB_yes {d : List Int} {n : Nat} (h : ∀ j, j < d.length → badD d n j = false) : dropB d n = true := by
  unfold dropB
  rw [List.all_eq_true]
  intro x hx
  rw [h x (by simpa using hx)]
  rfl
theorem drop_step {d : List Int} {n : Nat} (h : ∀ j, j < d.length → badD d n j = false) {k : Nat} (hk : k + 1 < d.length) : d.getD k 0 < d.getD (k + 1) 0 := by
  have := h (k + 1) hk
  unfold badD at this
  simp at this
  have h3 := this.2
  simpa using h3
theorem drop_mono {d : List Int} {n : Nat} (h : ∀ j, j < d.length → badD d n j = false) : ∀ {i j : Nat}, i < j → j < d.length → d.getD i 0 < d.getD j 0
  | i, 0, hij, _ => absurd hij (by omega)
  | i, j + 1, hij, hj => by
    by_cases e : i = j
    · subst e; exact drop_step h hj
    · exact Int.lt_trans (drop_mono h (show i < j by omega) (by omega)) (drop_step h hj)
theorem drop_sorted {d : List Int} {n : Nat} (h : ∀ j, j < d.length → badD d n j = false) : d.Pairwise (· ≤ ·) := by
  rw [List.pairwise_iff_getElem]
  intro i j hi hj hij
  have := drop_mono h hij hj
  simp [hi, hj] at this
  omega
def inD (d : List Int) (k : Nat) : Bool := d.contains (k : Int)
theorem bs_any (A1 : Option Addr) (n1 c1 : Nat) (d : List Int) (x : Int) (W : World) (hl : d.length = n1) (hn : n1 ≤ 140737488355328) (h : Arr W W.heap.size 1 A1 n1 (IntC d)) (hs : d.Pairwise (· ≤ ·)) :
    Calls Try.prog 91 #[.slice A1 n1 c1, .int .i64 x] W fun e w' => ∃ (k : Nat) (q : Nat), e = .returned (.tuple #[.int .i64 (k : Int), .bool (d.contains x)]) ∧ w' = W.drewN q := by
  by_cases h0 : n1 = 0
  · subst h0
    obtain rfl : d = [] := List.length_eq_zero_iff.1 hl
    refine (Try.slices_BinarySearch_int_empty A1 c1 x W).mono ?_
    rintro e w' ⟨rfl, rfl⟩
    exact ⟨0, 0, rfl, rfl⟩
  · obtain ⟨b, off, rfl, hlt, hc⟩ := h (by omega)
    have ht : d.take n1 = d := List.take_of_length_le (by omega)
    refine (Try.slices_BinarySearch_int b off n1 c1 d x W (by omega) (by omega) (fun j hj => ?_) (by rw [ht]; exact hs)).mono ?_
    · have := hc j 0 (by omega) (by omega)
      simpa [IntC] using this
    · rintro e w' ⟨rfl, q, rfl⟩
      rw [ht]
      exact ⟨_, q, rfl, rfl⟩
set_option maxRecDepth 100000 in
set_option maxHeartbeats 4000000 in
theorem new_any (A A1 : Option Addr) (n c n1 c1 : Nat) (l : List (Int × Int)) (d : List Int) (w : World) (hl : l.length = n) (hn : n ≤ 140737488355328) (h1 : Arr w w.heap.size 2 A n (PairC l)) (hl1 : d.length = n1) (hn1 : n1 ≤ 140737488355328) (hd : Arr w w.heap.size 1 A1 n1 (IntC d)) :
    Calls Try.prog 61 #[.slice A n c, .slice A1 n1 c1] w fun e w' => Below w.heap.size w w' ∧
      (((texts l).2 ≠ 0 ∧ e = .returned (.tuple #[.pointer none, .int .i64 (texts l).2])) ∨
       ((texts l).2 = 0 ∧ dropB d n = false ∧ e = .returned (.tuple #[.pointer none, .int .i64 1])) ∨
       ((texts l).2 = 0 ∧ dropB d n = true ∧ ∃ ge gm D, e = .returned (.tuple #[.pointer (some ⟨ge, 0, none⟩), .int .i64 0]) ∧ EngIn w' w.heap.size ge gm (.slice none 0 0) D n (fun a b => rankTo (inD d) l a b n))) := by
  have HR := Lib.hid (right_any A n c l w hl hn h1)
  have H1 := Lib.hid h1
  have HD := Lib.hid hd
  have HL1 := Lib.hid hl1
  clear h1 hd
  have hmm := @run_makeMap Try.prog
  obtain ⟨er, her⟩ : ∃ er, er = (texts l).2 := ⟨_, rfl⟩
  rw [← her] at HR ⊢
  have HER := Lib.hid her
  clear her
  go_enter Try.func61, Try.ntmps61
  go_wp2_with fail
  refine HR.out.mono ?_
  rintro e w1 ⟨rfl, hb1⟩
  have HB1 := Lib.hid hb1
  clear hb1
  by_cases h0 : er = 0
  · subst h0
    have hv := texts_valid HER.out.symm
    have HV := Lib.hid hv.2
    have hn2 : n ≤ 1024 := by rw [← hl]; exact hv.1
    clear hv
    go_upto_block 0 with (fail)
    go_cut [] from 7 (fun wx => wx = w1 ∧ ∀ j, j < n1 → badD d n j = false)
    case first =>
      go_wp2_with fail
      go_loop [23] (fun i => ∃ k : Nat, k ≤ n1 ∧ i = .int .i64 k ∧ ∀ j, j < k → badD d n j = false) (fun i => n1 - (intOf i).toNat)
      case atStart => exact ⟨0, by omega, rfl, fun j hj => by omega⟩
      case round =>
        obtain ⟨k, hk, rfl, hbad⟩ := hrel
        have HBAD := Lib.hid hbad
        clear hbad
        by_cases hlt : k < n1
        · obtain ⟨b, off, rfl, hblt, hca⟩ := (HD.out.below HB1.out) (by omega)
          have hc0 := hca k 0 hlt (by omega)
          have hcp := hca (k - 1) 0 (by omega) (by omega)
          unfold IntC at hc0 hcp
          simp only [Nat.mul_one, Nat.add_zero] at hc0 hcp
          obtain ⟨x, hx⟩ : ∃ x, x = d.getD k 0 := ⟨_, rfl⟩
          obtain ⟨y, hy⟩ : ∃ y, y = d.getD (k - 1) 0 := ⟨_, rfl⟩
          rw [← hx] at hc0
          rw [← hy] at hcp
          have hbd : badD d n k = ((decide (x < 0) || decide ((n : Int) ≤ x)) || (decide (0 < k) && decide (x ≤ y))) := by rw [hx, hy]; rfl
          have HBD := Lib.hid hbd
          clear hx hy hbd hca
          by_cases h1 : x < 0
          · have e1 : decide (x < 0) = true := by simpa using h1
            have hno := dropB_no (by rw [HL1.out]; exact hlt) (by rw [HBD.out, e1]; simp : badD d n k = true)
            have HNO := Lib.hid hno
            clear hno
            go_wp2_with fail
            go_returns
            exact ⟨HB1.out, .inl ⟨HNO.out, by first | rfl | simp⟩⟩
          · have e1 : decide (x < 0) = false := by simpa using h1
            by_cases h2 : (n : Int) ≤ x
            · have e2 : decide ((n : Int) ≤ x) = true := by simpa using h2
              have hno := dropB_no (by rw [HL1.out]; exact hlt) (by rw [HBD.out, e2]; simp : badD d n k = true)
              have HNO := Lib.hid hno
              clear hno
              go_wp2_with fail
              go_returns
              exact ⟨HB1.out, .inl ⟨HNO.out, by first | rfl | simp⟩⟩
            · have e2 : decide ((n : Int) ≤ x) = false := by simpa using h2
              by_cases h3 : k = 0
              · have e3 : decide ((0 : Int) < (k : Int)) = false := by simp; omega
                have e3n : decide (0 < k) = false := by simp; omega
                have hok : badD d n k = false := by rw [HBD.out, e1, e2, e3n]; rfl
                have HOK := Lib.hid hok
                have H3 := Lib.hid h3
                clear hok h3
                go_wp2_with fail
                go_round
                case rel => exact ⟨k + 1, by omega, by go_num, fun j hj => by
                              by_cases e9 : j = k
                              · subst e9; exact HOK.out
                              · exact HBAD.out j (by omega)⟩
                case measure => simp [intOf]; omega
              · have e3 : decide ((0 : Int) < (k : Int)) = true := by simp; omega
                have e3n : decide (0 < k) = true := by simp; omega
                have m1 : (k : Int) - 1 = ((k - 1 : Nat) : Int) := by omega
                have i1 : ((k - 1 : Nat) : Int) < (n1 : Int) := by omega
                obtain ⟨k1, hk1⟩ : ∃ k1, k1 = k - 1 := ⟨_, rfl⟩
                rw [← hk1] at m1 i1 hcp
                clear hk1
                by_cases h4 : x ≤ y
                · have e4 : decide (x ≤ y) = true := by simpa using h4
                  have hno := dropB_no (by rw [HL1.out]; exact hlt) (by rw [HBD.out, e3n, e4]; simp : badD d n k = true)
                  have HNO := Lib.hid hno
                  clear hno
                  go_wp2_with fail
                  go_returns
                  exact ⟨HB1.out, .inl ⟨HNO.out, by first | rfl | simp⟩⟩
                · have e4 : decide (x ≤ y) = false := by simpa using h4
                  have hok : badD d n k = false := by rw [HBD.out, e1, e2, e4]; simp
                  have HOK := Lib.hid hok
                  clear hok
                  go_wp2_with fail
                  go_round
                  case rel => exact ⟨k + 1, by omega, by go_num, fun j hj => by
                                by_cases e9 : j = k
                                · subst e9; exact HOK.out
                                · exact HBAD.out j (by omega)⟩
                  case measure => simp [intOf]; omega
        · obtain rfl : n1 = k := by omega
          go_wp2_with fail
          go_meet
          exact ⟨rfl, HBAD.out⟩
    case rest =>
    obtain ⟨rfl, hbad⟩ := hcut
    obtain ⟨w1, rfl⟩ : ∃ w1 : World, w1 = wc := ⟨_, rfl⟩
    have hbad2 : ∀ j, j < d.length → badD d n j = false := fun j hj => hbad j (by rw [← HL1.out]; exact hj)
    have HDY := Lib.hid (dropB_yes hbad2)
    have hsrt := drop_sorted hbad2
    have HBS := Lib.hid (fun x W (h : Arr W W.heap.size 1 A1 n1 (IntC d)) => bs_any A1 n1 c1 d x W hl1 hn1 h hsrt)
    clear hbad hbad2 hsrt hl1
    go_wp2_with fail
    obtain ⟨gm, hgm⟩ : ∃ gm, gm = w1.heap.size := ⟨_, rfl⟩
    obtain ⟨ge, hge⟩ : ∃ ge, ge = w1.heap.size + 1 := ⟨_, rfl⟩
    have hbx : Blk ((w1.alloc (.map #[] 0)).alloc (.cells #[.map (some w1.heap.size), .int .i32 0, .int .u32 0, .slice none 0 0] 169)) ge 169 [.map (some gm), .int .i32 0, .int .u32 0, .slice none 0 0] := by
      rw [hge, hgm, show w1.heap.size + 1 = (w1.alloc (.map #[] 0)).heap.size by simp]
      exact Blk.new _ 169 [.map (some w1.heap.size), .int .i32 0, .int .u32 0, .slice none 0 0]
    have hmp : ((w1.alloc (.map #[] 0)).alloc (.cells #[.map (some w1.heap.size), .int .i32 0, .int .u32 0, .slice none 0 0] 169)).ownsMap Try.prog 94 (plainElem (H := Unit) Try.prog 3) gm 0 (.map []) := by
      rw [hgm]
      exact (World.ownsMap_made _ _ _ _).alloc _
    have hbl : Below w.heap.size w ((w1.alloc (.map #[] 0)).alloc (.cells #[.map (some w1.heap.size), .int .i32 0, .int .u32 0, .slice none 0 0] 169)) := (HB1.out.alloc HB1.out.size _).alloc (by have := HB1.out.size; simp; omega) _
    have hgmB : w.heap.size ≤ gm := by have := HB1.out.size; omega
    have hgeB : w.heap.size ≤ ge := by omega
    have HNE := Lib.hid (show ge ≠ gm by omega)
    rw [← hge]
    generalize (w1.alloc _).alloc _ = w2 at hbx hmp hbl ⊢
    clear hgm hge
    have HBX := Lib.hid (And.intro hbx (And.intro hmp hbl))
    clear hbx hmp hbl
    go_loopw [55] (fun i wr => ∃ (k : Nat) (D : DataW Unit), k ≤ n ∧ i = .int .i64 k ∧ Below w.heap.size w wr ∧ Blk wr ge 169 [.map (some gm), .int .i32 0, .int .u32 0, .slice none 0 0] ∧ wr.ownsMap Try.prog 94 (plainElem Try.prog 3) gm k D ∧ Ranks D (fun a b => rankTo (inD d) l a b k)) (fun i _ => n - (intOf i).toNat)
    case atStart => exact ⟨0, .map [], by omega, rfl, HBX.out.2.2, HBX.out.1, HBX.out.2.1, ranks_empty⟩
    case round =>
      obtain ⟨k, D, hk, rfl, hbw, hbx, hmap, hR⟩ := hrel
      have HRK := Lib.hid hR
      have hsw := hbw.size
      have hgml := hmap.lt
      have hgel := hbx.lt
      clear hR
      by_cases hlt : k < n
      · obtain ⟨b, off, rfl, hadlt, hc0, hc1⟩ := (H1.out.below hbw).two hlt
        simp only [PairC, reduceIte, Nat.succ_ne_zero] at hc0 hc1
        obtain ⟨m1, hm1⟩ : ∃ m1, m1 = (l.getD k (0,0)).1 := ⟨_, rfl⟩
        obtain ⟨m2, hm2⟩ : ∃ m2, m2 = (l.getD k (0,0)).2 := ⟨_, rfl⟩
        rw [← hm1] at hc0
        rw [← hm2] at hc1
        have hv := HV.out k (by omega)
        rw [← hm1, ← hm2] at hv
        have HI1 := Lib.hid (i64_of m1 hv.1 (by omega))
        have HI2 := Lib.hid (i64_of m2 hv.2.2.1 (by omega))
        have HM := Lib.hid (And.intro hm1 hm2)
        clear hm1 hm2 hv
        obtain ⟨W3, hW3⟩ : ∃ W3, W3 = wr.alloc (.cells #[.int .i64 m1, .int .i64 m2] 94) := ⟨_, rfl⟩
        have hq0 : W3.cell? ⟨ge, 0, none⟩ = some (.map (some gm)) := by rw [hW3]; exact (hbx.alloc _).cell 0
        have hy0 : W3.cell? ⟨wr.heap.size, 0, none⟩ = some (.int .i64 m1) := by rw [hW3]; exact (Blk.new wr 94 [.int .i64 m1, .int .i64 m2]).cell 0
        have hy1 : W3.cell? ⟨wr.heap.size, 1, none⟩ = some (.int .i64 m2) := by rw [hW3]; exact (Blk.new wr 94 [.int .i64 m1, .int .i64 m2]).cell 1
        have hm3 := hmap.alloc (.cells #[.int .i64 m1, .int .i64 m2] 94)
        rw [← hW3] at hm3
        have hb3 : Below w.heap.size w W3 := by rw [hW3]; exact hbw.alloc hsw _
        have hx3 : Blk W3 ge 169 [.map (some gm), .int .i32 0, .int .u32 0, .slice none 0 0] := by rw [hW3]; exact hbx.alloc _
        have hda := (HD.out.below hb3).more hb3.size
        have HBK := Lib.hid (HBS.out (k : Int) W3 hda)
        have HW3 := Lib.hid hW3
        have H33 := Lib.hid (And.intro hb3 hx3)
        obtain ⟨dr, hdr⟩ : ∃ dr, dr = d.contains (k : Int) := ⟨_, rfl⟩
        rw [← hdr] at HBK
        have HDR := Lib.hid (show inD d k = dr from hdr.symm)
        clear hb3 hx3 hda hW3 hdr
        go_wp2_with fail
        rw [← HW3.out]
        refine HBK.out.mono ?_
        rintro e w' ⟨k9, q9, rfl, rfl⟩
        have hq9 : (W3.drewN q9).cell? ⟨ge, 0, none⟩ = some (.map (some gm)) := hq0
        have hy8 : (W3.drewN q9).cell? ⟨wr.heap.size, 0, none⟩ = some (.int .i64 m1) := hy0
        have hy9 : (W3.drewN q9).cell? ⟨wr.heap.size, 1, none⟩ = some (.int .i64 m2) := hy1
        have hm9 := map_drewN hm3 q9
        have H35 := Lib.hid (And.intro (below_drewN H33.out.1 q9) (H33.out.2.drewN q9))
        generalize W3.drewN q9 = W5 at hq9 hy8 hy9 hm9 H35 ⊢
        clear hq0 hy0 hy1 hm3
        cases dr with
        | true =>
          have HM9 := Lib.hid hm9
          clear hm9
          go_wp2_with fail
          go_roundw
          case rel =>
            have e : (fun a b => rankTo (inD d) l a b (k + 1)) = fun a b => rankTo (inD d) l a b k := by
              funext a b
              exact rankTo_out HDR.out a b
            refine ⟨k + 1, D, by omega, by go_num, H35.out.1, H35.out.2, ?_, ?_⟩
            · exact HM9.out.mono (by omega)
            · rw [e]; exact HRK.out
          case measure => simp [intOf]; omega
        | false =>
        cases hrk : rankTo (inD d) l m1 m2 k with
        | some r =>
          have hlook : ∀ nq, (Instr.lookup 160 (.map (some gm)) (.agg #[.int .i64 m1, .int .i64 m2]) true).run Try.prog (W5.drewN nq) = .ok (.tuple #[.int .i64 (r : Int), .bool true]) (W5.drewN nq) := fun nq => by
            rw [ranks_lookup (map_drewN hm9 nq) HRK.out m1 m2 HI1.out HI2.out, hrk]; rfl
          have HRR := Lib.hid hrk
          have HM9 := Lib.hid hm9
          clear hrk hm9
          go_wp2_with fail
          go_quiet (fail)
          go_wp2_with fail
          go_roundw
          case rel =>
            have e : (fun a b => rankTo (inD d) l a b (k + 1)) = fun a b => rankTo (inD d) l a b k := by
              funext a b
              exact rankTo_old (by rw [← HM.out.1, ← HM.out.2, HRR.out]; rfl) a b
            exact ⟨k + 1, D, by omega, by go_num, below_drewN H35.out.1 _, H35.out.2.drewN _, (map_drewN HM9.out _).mono (by omega), by rw [e]; exact HRK.out⟩
          case measure => simp [intOf]; omega
        | none =>
          have hlook : ∀ nq, (Instr.lookup 160 (.map (some gm)) (.agg #[.int .i64 m1, .int .i64 m2]) true).run Try.prog (W5.drewN nq) = .ok (.tuple #[.int .i64 (0 : Int), .bool false]) (W5.drewN nq) := fun nq => by
            rw [ranks_lookup (map_drewN hm9 nq) HRK.out m1 m2 HI1.out HI2.out, hrk]; rfl
          have HRR := Lib.hid hrk
          clear hrk
          go_wp2_with fail
          go_quiet (fail)
          clear hlook
          have hr9 : (W5.drewN nq).cell? ⟨ge, 0, none⟩ = some (.map (some gm)) := hq9
          have hr1 : (W5.drewN nq).cell? ⟨wr.heap.size, 0, none⟩ = some (.int .i64 m1) := hy8
          have hr2 : (W5.drewN nq).cell? ⟨wr.heap.size, 1, none⟩ = some (.int .i64 m2) := hy9
          have hm4 := map_drewN hm9 nq
          have hb4 := below_drewN H35.out.1 nq
          have hx4 := H35.out.2.drewN nq
          generalize W5.drewN nq = W4 at hr9 hr1 hr2 hm4 hb4 hx4 ⊢
          clear hq9 hy8 hy9 hm9 H35
          have hmd : W4.drew.ownsMap Try.prog 94 (plainElem (H := Unit) Try.prog 3) gm k D := map_drewN hm4 1
          have hbd : Below w.heap.size w W4.drew := below_drewN hb4 1
          have hxd : Blk W4.drew ge 169 [.map (some gm), .int .i32 0, .int .u32 0, .slice none 0 0] := hx4.drewN 1
          obtain ⟨w5, hrun, hm5, hg5⟩ := hmd.update keyed43 Try.underlying160 (by unfold maxLen; omega) (keyOf43 m1 m2 HI1.out HI2.out) (plainElem_int (H := Unit) Try.underlying3 (i64_of (k : Int) (by omega) (by omega)))
          have hb5 := below_by hbd (by have := hb4.size; simpa using this) hg5 hgmB
          have hx5 : Blk w5 ge 169 [.map (some gm), .int .i32 0, .int .u32 0, .slice none 0 0] := (hg5.block ge hxd.lt (fun e9 => HNE.out (Option.some.inj e9))).trans hxd
          have H5 := Lib.hid (And.intro hm5 (And.intro hb5 hx5))
          clear hm4 hb4 hx4 hmd hbd hxd hm5 hg5 hb5 hx5
          go_wp2_with fail
          go_region
          go_wp2_with fail
          go_roundw
          case rel =>
            have e : (fun a b => rankTo (inD d) l a b (k + 1)) = fun a b => if a = m1 ∧ b = m2 then some k else rankTo (inD d) l a b k := by
              funext a b
              rw [rankTo_new HDR.out (by rw [← HM.out.1, ← HM.out.2, HRR.out]; rfl) a b, HM.out.1, HM.out.2]
            exact ⟨k + 1, _, by omega, by go_num, H5.out.2.1, H5.out.2.2, H5.out.1, by rw [e]; exact ranks_put HRK.out m1 m2 HI1.out HI2.out k⟩
          case measure => simp [intOf]; omega
      · have hk2 : k = n := by omega
        subst hk2
        have H6 := Lib.hid (show EngIn wr w.heap.size ge gm (.slice none 0 0) D k (fun a b => rankTo (inD d) l a b k) from ⟨hgeB, hgmB, HNE.out, hbx, hmap, HRK.out⟩)
        clear hbx hmap
        go_wp2_with fail
        go_returns
        exact ⟨hbw, .inr ⟨HDY.out, ge, by first | rfl | simp, gm, D, H6.out⟩⟩
  · have e0 : (er == 0) = false := by simpa using h0
    go_wp2_with fail
    go_returns
    exact ⟨HB1.out, .inl ⟨h0, by first | rfl | simp⟩⟩
end Go.Proofs.Ytfjgfabochiflaa.H14
/- The reference's Drop and Tokens. -/
namespace Go.Proofs.Ytfjgfabochiflaa.H14
open Go.RowKit Go.Maps Go.WideMaps
set_option maxRecDepth 100000 in
set_option maxHeartbeats 4000000 in
theorem drop_any (A1 : Option Addr) (n1 c1 n : Nat) (d : List Int) (w : World) (hl1 : d.length = n1) (hn1 : n1 ≤ 140737488355328) (hd : Arr w w.heap.size 1 A1 n1 (IntC d)) :
    Calls Try.prog 47 #[.slice A1 n1 c1, .int .i64 (n : Int)] w fun e w' => e = .returned (.bool (dropB d n)) ∧ w' = w := by
  have HD := Lib.hid hd
  have HL1 := Lib.hid hl1
  clear hd hl1
  go_enter Try.func47, Try.ntmps47
  go_wp2_with fail
  go_loop [9] (fun i => ∃ k : Nat, k ≤ n1 ∧ i = .int .i64 k ∧ ∀ j, j < k → badD d n j = false) (fun i => n1 - (intOf i).toNat)
  case atStart => exact ⟨0, by omega, rfl, fun j hj => by omega⟩
  case round =>
    obtain ⟨k, hk, rfl, hbad⟩ := hrel
    have HBAD := Lib.hid hbad
    clear hbad
    by_cases hlt : k < n1
    · obtain ⟨b, off, rfl, hblt, hca⟩ := HD.out (by omega)
      have hc0 := hca k 0 hlt (by omega)
      have hcp := hca (k - 1) 0 (by omega) (by omega)
      unfold IntC at hc0 hcp
      simp only [Nat.mul_one, Nat.add_zero] at hc0 hcp
      obtain ⟨x, hx⟩ : ∃ x, x = d.getD k 0 := ⟨_, rfl⟩
      obtain ⟨y, hy⟩ : ∃ y, y = d.getD (k - 1) 0 := ⟨_, rfl⟩
      rw [← hx] at hc0
      rw [← hy] at hcp
      have hbd : badD d n k = ((decide (x < 0) || decide ((n : Int) ≤ x)) || (decide (0 < k) && decide (x ≤ y))) := by rw [hx, hy]; rfl
      have HBD := Lib.hid hbd
      clear hx hy hbd hca
      by_cases h1 : x < 0
      · have e1 : decide (x < 0) = true := by simpa using h1
        have hno := dropB_no (by rw [HL1.out]; exact hlt) (by rw [HBD.out, e1]; simp : badD d n k = true)
        have HNO := Lib.hid hno
        clear hno
        go_wp2_with fail
        go_ret
        exact ⟨by rw [HNO.out]; rfl, rfl⟩
      · have e1 : decide (x < 0) = false := by simpa using h1
        by_cases h2 : (n : Int) ≤ x
        · have e2 : decide ((n : Int) ≤ x) = true := by simpa using h2
          have hno := dropB_no (by rw [HL1.out]; exact hlt) (by rw [HBD.out, e2]; simp : badD d n k = true)
          have HNO := Lib.hid hno
          clear hno
          go_wp2_with fail
          go_ret
          exact ⟨by rw [HNO.out]; rfl, rfl⟩
        · have e2 : decide ((n : Int) ≤ x) = false := by simpa using h2
          by_cases h3 : k = 0
          · have e3 : decide ((0 : Int) < (k : Int)) = false := by simp; omega
            have e3n : decide (0 < k) = false := by simp; omega
            have hok : badD d n k = false := by rw [HBD.out, e1, e2, e3n]; rfl
            have HOK := Lib.hid hok
            have H3 := Lib.hid h3
            clear hok h3
            go_wp2_with fail
            go_round
            case rel => exact ⟨k + 1, by omega, by go_num, fun j hj => by
                          by_cases e9 : j = k
                          · subst e9; exact HOK.out
                          · exact HBAD.out j (by omega)⟩
            case measure => simp [intOf]; omega
          · have e3 : decide ((0 : Int) < (k : Int)) = true := by simp; omega
            have e3n : decide (0 < k) = true := by simp; omega
            have m1 : (k : Int) - 1 = ((k - 1 : Nat) : Int) := by omega
            have i1 : ((k - 1 : Nat) : Int) < (n1 : Int) := by omega
            obtain ⟨k1, hk1⟩ : ∃ k1, k1 = k - 1 := ⟨_, rfl⟩
            rw [← hk1] at m1 i1 hcp
            clear hk1
            by_cases h4 : x ≤ y
            · have e4 : decide (x ≤ y) = true := by simpa using h4
              have hno := dropB_no (by rw [HL1.out]; exact hlt) (by rw [HBD.out, e3n, e4]; simp : badD d n k = true)
              have HNO := Lib.hid hno
              clear hno
              go_wp2_with fail
              go_ret
              exact ⟨by rw [HNO.out]; rfl, rfl⟩
            · have e4 : decide (x ≤ y) = false := by simpa using h4
              have hok : badD d n k = false := by rw [HBD.out, e1, e2, e4]; simp
              have HOK := Lib.hid hok
              clear hok
              go_wp2_with fail
              go_round
              case rel => exact ⟨k + 1, by omega, by go_num, fun j hj => by
                            by_cases e9 : j = k
                            · subst e9; exact HOK.out
                            · exact HBAD.out j (by omega)⟩
              case measure => simp [intOf]; omega
    · obtain rfl : n1 = k := by omega
      have hyes := dropB_yes (d := d) (n := n) (fun j hj => HBAD.out j (by rw [← HL1.out]; exact hj))
      have HY := Lib.hid hyes
      clear hyes
      go_wp2_with fail
      go_ret
      exact ⟨by rw [HY.out]; rfl, rfl⟩
/-- the merges that are kept -/
def keptAt (d : List Int) (l : List (Int × Int)) (k : Nat) : Int × Int := if inD d k = true then (-1, -1) else l.getD k (0, 0)
def keptTo (d : List Int) (l : List (Int × Int)) (n : Nat) : List (Int × Int) := (List.range n).map (keptAt d l)
def pF (p : Int × Int) (j : Nat) : Value := .int .i64 (if j = 0 then p.1 else p.2)
theorem length_keptTo (d : List Int) (l : List (Int × Int)) (n : Nat) : (keptTo d l n).length = n := by simp [keptTo]
theorem keptTo_snoc (d : List Int) (l : List (Int × Int)) (n : Nat) : keptTo d l (n + 1) = keptTo d l n ++ [keptAt d l n] := by
  unfold keptTo; rw [List.range_succ, List.map_append]; rfl
theorem keptTo_get (d : List Int) (l : List (Int × Int)) (n k : Nat) (h : k < n) : (keptTo d l n).getD k (0, 0) = keptAt d l k := by
  simp [keptTo, h]
theorem rank_kept (d : List Int) (l : List (Int × Int)) (N : Nat) (a b : Int) (ha : 0 ≤ a) : ∀ n, n ≤ N → rankTo (inD d) l a b n = R13.rankTo (keptTo d l N) a b n
  | 0, _ => rfl
  | n + 1, hn => by
    rw [rankTo, R13.rankTo, rank_kept d l N a b ha n (by omega)]
    cases R13.rankTo (keptTo d l N) a b n with
    | some k => rfl
    | none =>
      dsimp only
      rw [keptTo_get d l N n (by omega)]
      unfold keptAt
      by_cases h : inD d n = true
      · rw [if_pos h, if_neg (by rw [h]; simp), if_neg (by intro e; injection e with e1 e2; omega)]
      · rw [if_neg h]
        simp only [show inD d n = false by simpa using h, true_and]
/-- a merge, when so many of what is left out are looked at -/
def keptJ (d : List Int) (p : Int × Int) (k j : Nat) : Int × Int := if (d.take j).contains (k : Int) = true then (-1, -1) else p
theorem keptJ_yes {d : List Int} {p : Int × Int} {k j : Nat} (hj : j < d.length) (h : d.getD j 0 = (k : Int)) : keptJ d p k (j + 1) = (-1, -1) := by
  unfold keptJ
  rw [getD_take d j hj, h, if_pos (by simp)]
theorem keptJ_no {d : List Int} {p : Int × Int} {k j : Nat} (hj : j < d.length) (h : ¬ d.getD j 0 = (k : Int)) : keptJ d p k (j + 1) = keptJ d p k j := by
  unfold keptJ
  rw [getD_take d j hj]
  have : ((d.take j ++ [d.getD j 0]).contains (k : Int)) = (d.take j).contains (k : Int) := by
    rw [Bool.eq_iff_iff]
    simp only [List.contains_iff_mem, List.mem_append, List.mem_singleton]
    exact ⟨fun e => e.elim id (fun e => absurd e.symm h), .inl⟩
  rw [this]
theorem keptJ_all (d : List Int) (l : List (Int × Int)) (k n1 : Nat) (h : d.length = n1) : keptJ d (l.getD k (0, 0)) k n1 = keptAt d l k := by
  unfold keptJ keptAt inD
  rw [List.take_of_length_le (by omega)]
structure OwnB2 (base : Nat) (w0 w : World) (v : Value) (n : Nat) (xs : List Value) : Prop where
  own : w.ownsRow base 94 2 v n xs
  below : Below base w0 w
theorem info58 : (Try.prog.info? 94).map (fun i => (i.size, i.bytes)) = some (2, 16) := by kernel_rfl
set_option maxRecDepth 100000 in
set_option maxHeartbeats 8000000 in
theorem rtokens_any (A A1 : Option Addr) (n c n1 c1 : Nat) (l : List (Int × Int)) (d : List Int) (s : ByteArray) (w : World) (hl : l.length = n) (hn : n ≤ 1024) (h1 : Arr w w.heap.size 2 A n (PairC l)) (hl1 : d.length = n1) (hn1 : n1 ≤ 140737488355328) (hd : Arr w w.heap.size 1 A1 n1 (IntC d)) (hs : s.size ≤ 1000) :
    Calls Try.prog 54 #[.slice A n c, .slice A1 n1 c1, .string s] w fun e w' => ∃ v, e = .returned v ∧ w'.ownsRow w.heap.size 3 1 v (R13.mergeAll (keptTo d l n) (bytesI s)).length (numsV .i64 (R13.mergeAll (keptTo d l n) (bytesI s))) ∧ Below w.heap.size w w' := by
  obtain ⟨i9, z9, hi9, hz9, hsz9, hbt9, hzc9⟩ : ∃ i z, Try.prog.info? 94 = some i ∧ i.zero = some z ∧ i.size = 2 ∧ i.bytes = 16 ∧ z.cells.size = 2 := ⟨_, _, rfl, rfl, rfl, rfl, rfl⟩
  have H1 := Lib.hid h1
  have HD := Lib.hid hd
  have HL := Lib.hid (And.intro hl hl1)
  have HR := Lib.hid (fun (A2 : Option Addr) (c2 : Nat) (A3 : Option Addr) (c3 : Nat) W h2 h3 => R13.rapply_any A2 A3 n s.size c2 c3 (keptTo d l n) (bytesI s) W (length_keptTo d l n) (length_bytesI s) (by omega) (by omega) h2 h3)
  have HB := Lib.hid (fun W => R13.bytes_any s W (by omega))
  obtain ⟨R, hR⟩ : ∃ R, R = R13.mergeAll (keptTo d l n) (bytesI s) := ⟨_, rfl⟩
  rw [← hR] at HR ⊢
  clear h1 hd hl hl1 hR
  go_enter Try.func54, Try.ntmps54
  go_upto_block 0 with (fail)
  have hm0 : OwnB2 w.heap.size w (w.alloc (.cells #[] 94)) (.slice (some ⟨w.heap.size, 0, none⟩) 0 0) 0 [] :=
    ⟨World.ownsRow_made w #[] 0 (Nat.le_refl _) (by simp [maxLen]) (by simp), (Below.refl _ _).alloc (Nat.le_refl _) _⟩
  have HM0 := Lib.hid hm0
  generalize w.alloc _ = w1 at HM0 ⊢
  clear hm0
  go_cut [7] from 8 (fun v wx => OwnB2 w.heap.size w wx v n (flat 2 pF (0, 0) (keptTo d l n)))
  case first =>
    go_wp2_with fail
    go_loopw [7, 15] (fun v i wr => ∃ k : Nat, k ≤ n ∧ i = .int .i64 k ∧ OwnB2 w.heap.size w wr v k (flat 2 pF (0, 0) (keptTo d l k))) (fun _ i _ => n - (intOf i).toNat)
    case atStart => exact ⟨0, by omega, rfl, HM0.out⟩
    case round =>
      obtain ⟨k, hk, rfl, hO⟩ := hrel
      obtain ⟨W1, rfl⟩ : ∃ W1 : World, W1 = wr := ⟨_, rfl⟩
      have HO := Lib.hid hO
      clear HM0
      by_cases hlt : k < n
      · obtain ⟨b, off, rfl, hblt, hc0, hc1⟩ := (H1.out.below HO.out.below).two hlt
        simp only [PairC, reduceIte, Nat.succ_ne_zero] at hc0 hc1
        obtain ⟨p1, hp1⟩ : ∃ p1, p1 = (l.getD k (0,0)).1 := ⟨_, rfl⟩
        obtain ⟨p2, hp2⟩ : ∃ p2, p2 = (l.getD k (0,0)).2 := ⟨_, rfl⟩
        rw [← hp1] at hc0
        rw [← hp2] at hc1
        have HP := Lib.hid (And.intro hp1 hp2)
        have hsz := HO.out.below.size
        clear hp1 hp2 hO
        go_upto_block 2 with (fail)
        obtain ⟨bm, hbm⟩ : ∃ bm, bm = W1.heap.size := ⟨_, rfl⟩
        have hB0 : Blk (W1.alloc (.cells #[.int .i64 p1, .int .i64 p2] 94)) bm 94 [.int .i64 p1, .int .i64 p2] := by rw [hbm]; exact Blk.new W1 94 _
        have hW0 : Below bm W1 (W1.alloc (.cells #[.int .i64 p1, .int .i64 p2] 94)) := by rw [hbm]; exact (Below.refl _ _).alloc (Nat.le_refl _) _
        rw [← hbm]
        generalize W1.alloc _ = w2 at hB0 hW0 ⊢
        have HI0 := Lib.hid (And.intro hB0 hW0)
        have HBM := Lib.hid hbm
        clear hB0 hW0 hbm hc0 hc1
        go_cut [11] from 22 to 30 (fun _v wx => ∃ x y : Int, Blk wx bm 94 [.int .i64 x, .int .i64 y] ∧ (x, y) = keptAt d l k ∧ Below bm W1 wx)
        case first =>
          go_wp2_with fail
          go_loopw [22] (fun i wq => ∃ (j : Nat) (x y : Int), j ≤ n1 ∧ i = .int .i64 j ∧ Blk wq bm 94 [.int .i64 x, .int .i64 y] ∧ (x, y) = keptJ d (p1, p2) k j ∧ Below bm W1 wq) (fun i _ => n1 - (intOf i).toNat)
          case atStart => exact ⟨0, p1, p2, by omega, rfl, HI0.out.1, rfl, HI0.out.2⟩
          case round =>
            obtain ⟨j, x, y, hj, rfl, hB, hxy, hW⟩ := hrel
            have HI := Lib.hid (And.intro hB (And.intro hxy hW))
            have q0 := hB.cell 0
            have q1 := hB.cell 1
            have z0 := hB.frozen 0
            have z1 := hB.frozen 1
            simp only [List.getElem?_cons_zero, List.getElem?_cons_succ] at q0 q1
            clear hB hxy hW HI0
            by_cases hjl : j < n1
            · have hwb : Below w.heap.size w wr := HO.out.below.trans (HI.out.2.2.mono (by rw [HBM.out]; exact HO.out.below.size))
              obtain ⟨b2, o2, rfl, hb2, hcd⟩ := (HD.out.below hwb).one hjl
              unfold IntC at hcd
              obtain ⟨u, hu⟩ : ∃ u, u = d.getD j 0 := ⟨_, rfl⟩
              rw [← hu] at hcd
              have HU := Lib.hid hu
              clear hu hwb
              by_cases huk : u = (k : Int)
              · have e1 : (u == (k : Int)) = true := by simpa using huk
                have hk1 := keptJ_yes (p := (p1, p2)) (by rw [HL.out.2]; exact hjl) (by rw [← HU.out]; exact huk : d.getD j 0 = (k : Int))
                have HK := Lib.hid hk1
                clear huk hk1
                go_wp2_with fail
                go_roundw
                case rel => exact ⟨j + 1, -1, -1, by omega, by go_num, (HI.out.1.set 0 (.int .i64 (-1))).set 1 (.int .i64 (-1)), HK.out.symm, (HI.out.2.2.setCell (Nat.le_refl _) _).setCell (Nat.le_refl _) _⟩
                case measure => simp [intOf]; omega
              · have e1 : (u == (k : Int)) = false := by simpa using huk
                have hk1 := keptJ_no (p := (p1, p2)) (by rw [HL.out.2]; exact hjl) (by rw [← HU.out]; exact huk : ¬ d.getD j 0 = (k : Int))
                have HK := Lib.hid hk1
                clear huk hk1
                go_wp2_with fail
                go_roundw
                case rel => exact ⟨j + 1, x, y, by omega, by go_num, HI.out.1, by rw [HK.out]; exact HI.out.2.1, HI.out.2.2⟩
                case measure => simp [intOf]; omega
            · obtain rfl : n1 = j := by omega
              go_wp2_with fail
              go_meet
              exact ⟨x, y, HI.out.1, by rw [HI.out.2.1, HP.out.1, HP.out.2]; exact keptJ_all d l k n1 HL.out.2, HI.out.2.2⟩
        case rest =>
          obtain ⟨x, y, hB, hxy, hW⟩ := hcut
          have HI := Lib.hid (And.intro hB (And.intro hxy hW))
          have q0 := hB.cell 0
          have q1 := hB.cell 1
          simp only [List.getElem?_cons_zero, List.getElem?_cons_succ] at q0 q1
          have hwb : Below w.heap.size w wc := HO.out.below.trans (hW.mono (by rw [HBM.out]; exact HO.out.below.size))
          have hown : wc.ownsRow w.heap.size 94 2 u7 k (flat 2 pF (0, 0) (keptTo d l k)) := own_move HO.out.own (fun b _ e ho _ => (hW.block b (by rw [HBM.out]; exact (HO.out.own.lt b e).2)).trans ho)
          have HW := Lib.hid (And.intro hwb hown)
          have HNEW := Lib.hid (show ∀ j u, [Value.int .i64 x, .int .i64 y][j]? = some u → (wc.alloc (.cells #[.int .i64 x, .int .i64 y] 94)).cell? ((⟨wc.heap.size, 0, none⟩ : Addr).add j) = some u from World.news_of_block (cs := #[.int .i64 x, .int .i64 y]) (heap_alloc_new _ _))
          have hsz2 := hwb.size
          clear hB hxy hW hwb hown
          go_wp2_with (first
            | (at_builtin
               refine wpList_append_own_at _ rfl (.tmp 31) (.tmp 33) 30 rfl w.heap.size 94 i9 z9 2 16 Try.underlying30 hi9 hz9 hsz9 hbt9 hzc9 (by omega) u7 k _ rfl (HW.out.2.alloc _) ⟨_, 0, none⟩ 1 1 [.int .i64 x, .int .i64 y] rfl rfl HNEW.out (by intro u hu; simp at hu; rcases hu with rfl | rfl <;> rfl) (by unfold maxLen; omega) (by omega) (by simp; omega) ?_
               intro v' w' h2 h3 h4 h5))
          go_roundw
          case rel =>
            refine ⟨k + 1, by omega, by go_num, ⟨?_, (HW.out.1.alloc hsz2 _).grown h3 (by simp; omega) (fun k hk => (HW.out.2.lt k hk).1)⟩⟩
            rw [keptTo_snoc, flat_snoc, ← HI.out.2.1]
            exact h2
          case measure => simp [intOf]; omega
      · obtain rfl : n = k := by omega
        go_wp2_with fail
        go_meet
        exact HO.out
  case rest =>
    have HO := Lib.hid hcut
    obtain ⟨A2, c2, rfl⟩ := own_form hcut.own
    have ha2 : Arr wc wc.heap.size 2 A2 n (PairC (keptTo d l n)) := fun h0 => by
      obtain ⟨g, cap, hv, _⟩ := hcut.own.form h0
      simp only [Value.slice.injEq, true_and] at hv
      obtain ⟨rfl, rfl⟩ := hv
      refine ⟨g, 0, rfl, (hcut.own.lt g rfl).2, fun k j hk hj => ?_⟩
      rw [Nat.zero_add, hcut.own.cellAt _ (by omega), flat_get (by rw [length_keptTo]; exact hk) hj]
      rfl
    have HA2 := Lib.hid ha2
    clear ha2 HM0 hcut
    go_wp2_with fail
    refine (HB.out _).mono ?_
    rintro e w4 ⟨v4, rfl, hown4, hb4⟩
    obtain ⟨A3, c3, rfl⟩ := own_form hown4
    have hO4 : Arr w4 w4.heap.size 1 A3 s.size (IntC (bytesI s)) := own_ints (q := .i64) hown4
    have HR2 := Lib.hid (HR.out A2 c2 A3 c3 w4 ((HA2.out.below hb4).more hb4.size) hO4)
    have HB4 := Lib.hid (HO.out.below.trans (hb4.mono HO.out.below.size))
    clear hown4 hb4 hO4
    go_wp2_with fail
    refine HR2.out.mono ?_
    rintro e w5 ⟨v5, rfl, hown5, hb5⟩
    have H5 := Lib.hid (And.intro (own_base hown5 HB4.out.size) (HB4.out.trans (hb5.mono HB4.out.size)))
    clear hown5 hb5
    go_wp2_with fail
    go_returns
    exact ⟨_, rfl, H5.out.1, H5.out.2⟩
end Go.Proofs.Ytfjgfabochiflaa.H14
