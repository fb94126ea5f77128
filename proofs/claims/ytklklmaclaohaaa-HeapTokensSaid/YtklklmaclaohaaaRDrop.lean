/- The reference's Drop and Tokens. -/
import Derived.Test.YtklklmaclaohaaaNewD
namespace Go.Proofs.Ytklklmaclaohaaa
open Go.RowKit Go.Maps Go.WideMaps
set_option maxRecDepth 100000 in
set_option maxHeartbeats 4000000 in
theorem drop_any (A1 : Option Addr) (n1 c1 n : Nat) (d : List Int) (w : World) (hl1 : d.length = n1) (hn1 : n1 ≤ 140737488355328) (hd : Arr w w.heap.size 1 A1 n1 (IntC d)) :
    Calls Try.prog 9 #[.slice A1 n1 c1, .int .i64 (n : Int)] w fun e w' => e = .returned (.bool (dropB d n)) ∧ w' = w := by
  have HD := Lib.hid hd
  have HL1 := Lib.hid hl1
  clear hd hl1
  go_enter Try.func9, Try.ntmps9
  go_wp2_with fail
  go_loop [9] (fun i => ∃ k : Nat, k ≤ n1 ∧ i = .int .i64 k ∧ ∀ j, j < k → badD d n j = false) (fun i => n1 - (intOf i).toNat)
  case atStart => exact ⟨0, by omega, rfl, fun j hj => by omega⟩
  case round =>
    obtain ⟨k, hk, rfl, hbad⟩ := hrel
    have HBAD := Lib.hid hbad
    clear hbad
    by_cases hlt : k < n1
    · obtain ⟨b, off, rfl, hblt, hca⟩ := HD.out (by omega)
      have hc0 := hca k 0 hlt (by omega)
      have hcp := hca (k - 1) 0 (by omega) (by omega)
      unfold IntC at hc0 hcp
      simp only [Nat.mul_one, Nat.add_zero] at hc0 hcp
      obtain ⟨x, hx⟩ : ∃ x, x = d.getD k 0 := ⟨_, rfl⟩
      obtain ⟨y, hy⟩ : ∃ y, y = d.getD (k - 1) 0 := ⟨_, rfl⟩
      rw [← hx] at hc0
      rw [← hy] at hcp
      have hbd : badD d n k = ((decide (x < 0) || decide ((n : Int) ≤ x)) || (decide (0 < k) && decide (x ≤ y))) := by rw [hx, hy]; rfl
      have HBD := Lib.hid hbd
      clear hx hy hbd hca
      by_cases h1 : x < 0
      · have e1 : decide (x < 0) = true := by simpa using h1
        have hno := dropB_no (by rw [HL1.out]; exact hlt) (by rw [HBD.out, e1]; simp : badD d n k = true)
        have HNO := Lib.hid hno
        clear hno
        go_wp2_with fail
        go_ret
        exact ⟨by rw [HNO.out]; rfl, rfl⟩
      · have e1 : decide (x < 0) = false := by simpa using h1
        by_cases h2 : (n : Int) ≤ x
        · have e2 : decide ((n : Int) ≤ x) = true := by simpa using h2
          have hno := dropB_no (by rw [HL1.out]; exact hlt) (by rw [HBD.out, e2]; simp : badD d n k = true)
          have HNO := Lib.hid hno
          clear hno
          go_wp2_with fail
          go_ret
          exact ⟨by rw [HNO.out]; rfl, rfl⟩
        · have e2 : decide ((n : Int) ≤ x) = false := by simpa using h2
          by_cases h3 : k = 0
          · have e3 : decide ((0 : Int) < (k : Int)) = false := by simp; omega
            have e3n : decide (0 < k) = false := by simp; omega
            have hok : badD d n k = false := by rw [HBD.out, e1, e2, e3n]; rfl
            have HOK := Lib.hid hok
            have H3 := Lib.hid h3
            clear hok h3
            go_wp2_with fail
            go_round
            case rel => exact ⟨k + 1, by omega, by go_num, fun j hj => by
                          by_cases e9 : j = k
                          · subst e9; exact HOK.out
                          · exact HBAD.out j (by omega)⟩
            case measure => simp [intOf]; omega
          · have e3 : decide ((0 : Int) < (k : Int)) = true := by simp; omega
            have e3n : decide (0 < k) = true := by simp; omega
            have m1 : (k : Int) - 1 = ((k - 1 : Nat) : Int) := by omega
            have i1 : ((k - 1 : Nat) : Int) < (n1 : Int) := by omega
            obtain ⟨k1, hk1⟩ : ∃ k1, k1 = k - 1 := ⟨_, rfl⟩
            rw [← hk1] at m1 i1 hcp
            clear hk1
            by_cases h4 : x ≤ y
            · have e4 : decide (x ≤ y) = true := by simpa using h4
              have hno := dropB_no (by rw [HL1.out]; exact hlt) (by rw [HBD.out, e3n, e4]; simp : badD d n k = true)
              have HNO := Lib.hid hno
              clear hno
              go_wp2_with fail
              go_ret
              exact ⟨by rw [HNO.out]; rfl, rfl⟩
            · have e4 : decide (x ≤ y) = false := by simpa using h4
              have hok : badD d n k = false := by rw [HBD.out, e1, e2, e4]; simp
              have HOK := Lib.hid hok
              clear hok
              go_wp2_with fail
              go_round
              case rel => exact ⟨k + 1, by omega, by go_num, fun j hj => by
                            by_cases e9 : j = k
                            · subst e9; exact HOK.out
                            · exact HBAD.out j (by omega)⟩
              case measure => simp [intOf]; omega
    · obtain rfl : n1 = k := by omega
      have hyes := dropB_yes (d := d) (n := n) (fun j hj => HBAD.out j (by rw [← HL1.out]; exact hj))
      have HY := Lib.hid hyes
      clear hyes
      go_wp2_with fail
      go_ret
      exact ⟨by rw [HY.out]; rfl, rfl⟩
/-- the merges that are kept -/
def keptAt (d : List Int) (l : List (Int × Int)) (k : Nat) : Int × Int := if inD d k = true then (-1, -1) else l.getD k (0, 0)
def keptTo (d : List Int) (l : List (Int × Int)) (n : Nat) : List (Int × Int) := (List.range n).map (keptAt d l)
def pF (p : Int × Int) (j : Nat) : Value := .int .i64 (if j = 0 then p.1 else p.2)
theorem length_keptTo (d : List Int) (l : List (Int × Int)) (n : Nat) : (keptTo d l n).length = n := by simp [keptTo]
theorem keptTo_snoc (d : List Int) (l : List (Int × Int)) (n : Nat) : keptTo d l (n + 1) = keptTo d l n ++ [keptAt d l n] := by
  unfold keptTo; rw [List.range_succ, List.map_append]; rfl
theorem keptTo_get (d : List Int) (l : List (Int × Int)) (n k : Nat) (h : k < n) : (keptTo d l n).getD k (0, 0) = keptAt d l k := by
  simp [keptTo, h]
theorem rank_kept (d : List Int) (l : List (Int × Int)) (N : Nat) (a b : Int) (ha : 0 ≤ a) : ∀ n, n ≤ N → rankTo (inD d) l a b n = R13.rankTo (keptTo d l N) a b n
  | 0, _ => rfl
  | n + 1, hn => by
    rw [rankTo, R13.rankTo, rank_kept d l N a b ha n (by omega)]
    cases R13.rankTo (keptTo d l N) a b n with
    | some k => rfl
    | none =>
      dsimp only
      rw [keptTo_get d l N n (by omega)]
      unfold keptAt
      by_cases h : inD d n = true
      · rw [if_pos h, if_neg (by rw [h]; simp), if_neg (by intro e; injection e with e1 e2; omega)]
      · rw [if_neg h]
        simp only [show inD d n = false by simpa using h, true_and]
/-- a merge, when so many of what is left out are looked at -/
def keptJ (d : List Int) (p : Int × Int) (k j : Nat) : Int × Int := if (d.take j).contains (k : Int) = true then (-1, -1) else p
theorem keptJ_yes {d : List Int} {p : Int × Int} {k j : Nat} (hj : j < d.length) (h : d.getD j 0 = (k : Int)) : keptJ d p k (j + 1) = (-1, -1) := by
  unfold keptJ
  rw [getD_take d j hj, h, if_pos (by simp)]
theorem keptJ_no {d : List Int} {p : Int × Int} {k j : Nat} (hj : j < d.length) (h : ¬ d.getD j 0 = (k : Int)) : keptJ d p k (j + 1) = keptJ d p k j := by
  unfold keptJ
  rw [getD_take d j hj]
  have : ((d.take j ++ [d.getD j 0]).contains (k : Int)) = (d.take j).contains (k : Int) := by
    rw [Bool.eq_iff_iff]
    simp only [List.contains_iff_mem, List.mem_append, List.mem_singleton]
    exact ⟨fun e => e.elim id (fun e => absurd e.symm h), .inl⟩
  rw [this]
theorem keptJ_all (d : List Int) (l : List (Int × Int)) (k n1 : Nat) (h : d.length = n1) : keptJ d (l.getD k (0, 0)) k n1 = keptAt d l k := by
  unfold keptJ keptAt inD
  rw [List.take_of_length_le (by omega)]
structure OwnB2 (base : Nat) (w0 w : World) (v : Value) (n : Nat) (xs : List Value) : Prop where
  own : w.ownsRow base 58 2 v n xs
  below : Below base w0 w
theorem info58 : (Try.prog.info? 58).map (fun i => (i.size, i.bytes)) = some (2, 16) := by kernel_rfl
set_option maxRecDepth 100000 in
set_option maxHeartbeats 8000000 in
theorem rtokens_any (A A1 : Option Addr) (n c n1 c1 : Nat) (l : List (Int × Int)) (d : List Int) (s : ByteArray) (w : World) (hl : l.length = n) (hn : n ≤ 1024) (h1 : Arr w w.heap.size 2 A n (PairC l)) (hl1 : d.length = n1) (hn1 : n1 ≤ 140737488355328) (hd : Arr w w.heap.size 1 A1 n1 (IntC d)) (hs : s.size ≤ 1000) :
    Calls Try.prog 13 #[.slice A n c, .slice A1 n1 c1, .string s] w fun e w' => ∃ v, e = .returned v ∧ w'.ownsRow w.heap.size 3 1 v (R13.mergeAll (keptTo d l n) (bytesI s)).length (numsV .i64 (R13.mergeAll (keptTo d l n) (bytesI s))) ∧ Below w.heap.size w w' := by
  obtain ⟨i9, z9, hi9, hz9, hsz9, hbt9, hzc9⟩ : ∃ i z, Try.prog.info? 58 = some i ∧ i.zero = some z ∧ i.size = 2 ∧ i.bytes = 16 ∧ z.cells.size = 2 := ⟨_, _, rfl, rfl, rfl, rfl, rfl⟩
  have H1 := Lib.hid h1
  have HD := Lib.hid hd
  have HL := Lib.hid (And.intro hl hl1)
  have HR := Lib.hid (fun (A2 : Option Addr) (c2 : Nat) (A3 : Option Addr) (c3 : Nat) W h2 h3 => R13.rapply_any A2 A3 n s.size c2 c3 (keptTo d l n) (bytesI s) W (length_keptTo d l n) (length_bytesI s) (by omega) (by omega) h2 h3)
  have HB := Lib.hid (fun W => R13.bytes_any s W (by omega))
  obtain ⟨R, hR⟩ : ∃ R, R = R13.mergeAll (keptTo d l n) (bytesI s) := ⟨_, rfl⟩
  rw [← hR] at HR ⊢
  clear h1 hd hl hl1 hR
  go_enter Try.func13, Try.ntmps13
  go_upto_block 0 with (fail)
  have hm0 : OwnB2 w.heap.size w (w.alloc (.cells #[] 58)) (.slice (some ⟨w.heap.size, 0, none⟩) 0 0) 0 [] :=
    ⟨World.ownsRow_made w #[] 0 (Nat.le_refl _) (by simp [maxLen]) (by simp), (Below.refl _ _).alloc (Nat.le_refl _) _⟩
  have HM0 := Lib.hid hm0
  generalize w.alloc _ = w1 at HM0 ⊢
  clear hm0
  go_cut [7] from 8 (fun v wx => OwnB2 w.heap.size w wx v n (flat 2 pF (0, 0) (keptTo d l n)))
  case first =>
    go_wp2_with fail
    go_loopw [7, 15] (fun v i wr => ∃ k : Nat, k ≤ n ∧ i = .int .i64 k ∧ OwnB2 w.heap.size w wr v k (flat 2 pF (0, 0) (keptTo d l k))) (fun _ i _ => n - (intOf i).toNat)
    case atStart => exact ⟨0, by omega, rfl, HM0.out⟩
    case round =>
      obtain ⟨k, hk, rfl, hO⟩ := hrel
      obtain ⟨W1, rfl⟩ : ∃ W1 : World, W1 = wr := ⟨_, rfl⟩
      have HO := Lib.hid hO
      clear HM0
      by_cases hlt : k < n
      · obtain ⟨b, off, rfl, hblt, hc0, hc1⟩ := (H1.out.below HO.out.below).two hlt
        simp only [PairC, reduceIte, Nat.succ_ne_zero] at hc0 hc1
        obtain ⟨p1, hp1⟩ : ∃ p1, p1 = (l.getD k (0,0)).1 := ⟨_, rfl⟩
        obtain ⟨p2, hp2⟩ : ∃ p2, p2 = (l.getD k (0,0)).2 := ⟨_, rfl⟩
        rw [← hp1] at hc0
        rw [← hp2] at hc1
        have HP := Lib.hid (And.intro hp1 hp2)
        have hsz := HO.out.below.size
        clear hp1 hp2 hO
        go_upto_block 2 with (fail)
        obtain ⟨bm, hbm⟩ : ∃ bm, bm = W1.heap.size := ⟨_, rfl⟩
        have hB0 : Blk (W1.alloc (.cells #[.int .i64 p1, .int .i64 p2] 58)) bm 58 [.int .i64 p1, .int .i64 p2] := by rw [hbm]; exact Blk.new W1 58 _
        have hW0 : Below bm W1 (W1.alloc (.cells #[.int .i64 p1, .int .i64 p2] 58)) := by rw [hbm]; exact (Below.refl _ _).alloc (Nat.le_refl _) _
        rw [← hbm]
        generalize W1.alloc _ = w2 at hB0 hW0 ⊢
        have HI0 := Lib.hid (And.intro hB0 hW0)
        have HBM := Lib.hid hbm
        clear hB0 hW0 hbm hc0 hc1
        go_cut [11] from 22 to 30 (fun _v wx => ∃ x y : Int, Blk wx bm 58 [.int .i64 x, .int .i64 y] ∧ (x, y) = keptAt d l k ∧ Below bm W1 wx)
        case first =>
          go_wp2_with fail
          go_loopw [22] (fun i wq => ∃ (j : Nat) (x y : Int), j ≤ n1 ∧ i = .int .i64 j ∧ Blk wq bm 58 [.int .i64 x, .int .i64 y] ∧ (x, y) = keptJ d (p1, p2) k j ∧ Below bm W1 wq) (fun i _ => n1 - (intOf i).toNat)
          case atStart => exact ⟨0, p1, p2, by omega, rfl, HI0.out.1, rfl, HI0.out.2⟩
          case round =>
            obtain ⟨j, x, y, hj, rfl, hB, hxy, hW⟩ := hrel
            have HI := Lib.hid (And.intro hB (And.intro hxy hW))
            have q0 := hB.cell 0
            have q1 := hB.cell 1
            have z0 := hB.frozen 0
            have z1 := hB.frozen 1
            simp only [List.getElem?_cons_zero, List.getElem?_cons_succ] at q0 q1
            clear hB hxy hW HI0
            by_cases hjl : j < n1
            · have hwb : Below w.heap.size w wr := HO.out.below.trans (HI.out.2.2.mono (by rw [HBM.out]; exact HO.out.below.size))
              obtain ⟨b2, o2, rfl, hb2, hcd⟩ := (HD.out.below hwb).one hjl
              unfold IntC at hcd
              obtain ⟨u, hu⟩ : ∃ u, u = d.getD j 0 := ⟨_, rfl⟩
              rw [← hu] at hcd
              have HU := Lib.hid hu
              clear hu hwb
              by_cases huk : u = (k : Int)
              · have e1 : (u == (k : Int)) = true := by simpa using huk
                have hk1 := keptJ_yes (p := (p1, p2)) (by rw [HL.out.2]; exact hjl) (by rw [← HU.out]; exact huk : d.getD j 0 = (k : Int))
                have HK := Lib.hid hk1
                clear huk hk1
                go_wp2_with fail
                go_roundw
                case rel => exact ⟨j + 1, -1, -1, by omega, by go_num, (HI.out.1.set 0 (.int .i64 (-1))).set 1 (.int .i64 (-1)), HK.out.symm, (HI.out.2.2.setCell (Nat.le_refl _) _).setCell (Nat.le_refl _) _⟩
                case measure => simp [intOf]; omega
              · have e1 : (u == (k : Int)) = false := by simpa using huk
                have hk1 := keptJ_no (p := (p1, p2)) (by rw [HL.out.2]; exact hjl) (by rw [← HU.out]; exact huk : ¬ d.getD j 0 = (k : Int))
                have HK := Lib.hid hk1
                clear huk hk1
                go_wp2_with fail
                go_roundw
                case rel => exact ⟨j + 1, x, y, by omega, by go_num, HI.out.1, by rw [HK.out]; exact HI.out.2.1, HI.out.2.2⟩
                case measure => simp [intOf]; omega
            · obtain rfl : n1 = j := by omega
              go_wp2_with fail
              go_meet
              exact ⟨x, y, HI.out.1, by rw [HI.out.2.1, HP.out.1, HP.out.2]; exact keptJ_all d l k n1 HL.out.2, HI.out.2.2⟩
        case rest =>
          obtain ⟨x, y, hB, hxy, hW⟩ := hcut
          have HI := Lib.hid (And.intro hB (And.intro hxy hW))
          have q0 := hB.cell 0
          have q1 := hB.cell 1
          simp only [List.getElem?_cons_zero, List.getElem?_cons_succ] at q0 q1
          have hwb : Below w.heap.size w wc := HO.out.below.trans (hW.mono (by rw [HBM.out]; exact HO.out.below.size))
          have hown : wc.ownsRow w.heap.size 58 2 u7 k (flat 2 pF (0, 0) (keptTo d l k)) := own_move HO.out.own (fun b _ e ho _ => (hW.block b (by rw [HBM.out]; exact (HO.out.own.lt b e).2)).trans ho)
          have HW := Lib.hid (And.intro hwb hown)
          have HNEW := Lib.hid (show ∀ j u, [Value.int .i64 x, .int .i64 y][j]? = some u → (wc.alloc (.cells #[.int .i64 x, .int .i64 y] 58)).cell? ((⟨wc.heap.size, 0, none⟩ : Addr).add j) = some u from World.news_of_block (cs := #[.int .i64 x, .int .i64 y]) (heap_alloc_new _ _))
          have hsz2 := hwb.size
          clear hB hxy hW hwb hown
          go_wp2_with (first
            | (at_builtin
               refine wpList_append_own_at _ rfl (.tmp 31) (.tmp 33) 22 rfl w.heap.size 58 i9 z9 2 16 Try.underlying22 hi9 hz9 hsz9 hbt9 hzc9 (by omega) u7 k _ rfl (HW.out.2.alloc _) ⟨_, 0, none⟩ 1 1 [.int .i64 x, .int .i64 y] rfl rfl HNEW.out (by intro u hu; simp at hu; rcases hu with rfl | rfl <;> rfl) (by unfold maxLen; omega) (by omega) (by simp; omega) ?_
               intro v' w' h2 h3 h4 h5))
          go_roundw
          case rel =>
            refine ⟨k + 1, by omega, by go_num, ⟨?_, (HW.out.1.alloc hsz2 _).grown h3 (by simp; omega) (fun k hk => (HW.out.2.lt k hk).1)⟩⟩
            rw [keptTo_snoc, flat_snoc, ← HI.out.2.1]
            exact h2
          case measure => simp [intOf]; omega
      · obtain rfl : n = k := by omega
        go_wp2_with fail
        go_meet
        exact HO.out
  case rest =>
    have HO := Lib.hid hcut
    obtain ⟨A2, c2, rfl⟩ := own_form hcut.own
    have ha2 : Arr wc wc.heap.size 2 A2 n (PairC (keptTo d l n)) := fun h0 => by
      obtain ⟨g, cap, hv, _⟩ := hcut.own.form h0
      simp only [Value.slice.injEq, true_and] at hv
      obtain ⟨rfl, rfl⟩ := hv
      refine ⟨g, 0, rfl, (hcut.own.lt g rfl).2, fun k j hk hj => ?_⟩
      rw [Nat.zero_add, hcut.own.cellAt _ (by omega), flat_get (by rw [length_keptTo]; exact hk) hj]
      rfl
    have HA2 := Lib.hid ha2
    clear ha2 HM0 hcut
    go_wp2_with fail
    refine (HB.out _).mono ?_
    rintro e w4 ⟨v4, rfl, hown4, hb4⟩
    obtain ⟨A3, c3, rfl⟩ := own_form hown4
    have hO4 : Arr w4 w4.heap.size 1 A3 s.size (IntC (bytesI s)) := own_ints (q := .i64) hown4
    have HR2 := Lib.hid (HR.out A2 c2 A3 c3 w4 ((HA2.out.below hb4).more hb4.size) hO4)
    have HB4 := Lib.hid (HO.out.below.trans (hb4.mono HO.out.below.size))
    clear hown4 hb4 hO4
    go_wp2_with fail
    refine HR2.out.mono ?_
    rintro e w5 ⟨v5, rfl, hown5, hb5⟩
    have H5 := Lib.hid (And.intro (own_base hown5 HB4.out.size) (HB4.out.trans (hb5.mono HB4.out.size)))
    clear hown5 hb5
    go_wp2_with fail
    go_returns
    exact ⟨_, rfl, H5.out.1, H5.out.2⟩
end Go.Proofs.Ytklklmaclaohaaa
