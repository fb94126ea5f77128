/- NfaFree, with its automaton and list laid open. -/
import Derived.Test.YtjpifofnlcajfaaRFree
namespace Go.Proofs.Ytjpifofnlcajfaa
open Go.RowKit

/-- the world of a law that holds one automaton in a box, and a list -/
structure NL (w : World) (A : Option Addr) (n c : Nat) (S a z : Int) (E : List Ed) (A2 : Option Addr) (n2 : Nat) (L : List Int) (W : World) : Prop where
  b0 : W.cell? ⟨w.heap.size, 0, none⟩ = some (.int .i64 S)
  b1 : W.cell? ⟨w.heap.size, 1, none⟩ = some (.int .i64 a)
  b2 : W.cell? ⟨w.heap.size, 2, none⟩ = some (.int .i64 z)
  b3 : W.cell? ⟨w.heap.size, 3, none⟩ = some (.slice A n c)
  bel : Below w.heap.size w W
  lt : w.heap.size < W.heap.size
  nfa : NfaIn W A n ⟨S, a, z, E⟩
  lst : Arr W W.heap.size 1 A2 n2 (NumC .i64 L)
section
variable {w W W' : World} {A A2 : Option Addr} {n c n2 : Nat} {S a z : Int} {E : List Ed} {L : List Int}
theorem NL.start (h : NfaIn w A n ⟨S, a, z, E⟩) (h2 : Arr w w.heap.size 1 A2 n2 (NumC .i64 L)) : NL w A n c S a z E A2 n2 L (w.alloc (.cells #[.int .i64 S, .int .i64 a, .int .i64 z, .slice A n c] 24)) := by
  have hb : Below w.heap.size w (w.alloc (.cells #[.int .i64 S, .int .i64 a, .int .i64 z, .slice A n c] 24)) := (Below.refl _ _).alloc (Nat.le_refl _) _
  exact ⟨by simp, by simp, by simp, by simp, hb, by simp, h.keep hb, (h2.below hb).more hb.size⟩
theorem NL.go (h : NL w A n c S a z E A2 n2 L W) (hb : Below W.heap.size W W') : NL w A n c S a z E A2 n2 L W' :=
  ⟨(hb.cell h.lt).trans h.b0, (hb.cell h.lt).trans h.b1, (hb.cell h.lt).trans h.b2, (hb.cell h.lt).trans h.b3, h.bel.trans (hb.mono (Nat.le_of_lt h.lt)), Nat.lt_of_lt_of_le h.lt hb.size, h.nfa.keep hb, (h.lst.below hb).more hb.size⟩
end

set_option maxRecDepth 100000 in
theorem free_no (A : Option Addr) (n c : Nat) (S a z : Int) (E : List Ed) (A2 : Option Addr) (n2 c2 : Nat) (w : World) (h : NfaIn w A n ⟨S, a, z, E⟩) (hr : ¬ RightN ⟨S, a, z, E⟩) :
    Calls Try.prog 6 #[.agg #[.int .i64 S, .int .i64 a, .int .i64 z, .slice A n c], .slice A2 n2 c2] w fun e w' => e = .returned (.slice none 0 0) ∧ Below w.heap.size w w' := by
  have hb0 : Below w.heap.size w (w.alloc (.cells #[.int .i64 S, .int .i64 a, .int .i64 z, .slice A n c] 24)) := (Below.refl _ _).alloc (Nat.le_refl _) _
  have HRT := Lib.hid (nright_any A n c S a z E _ (h.keep hb0))
  rw [rightN_no hr] at HRT
  have HB := Lib.hid hb0
  clear h hb0
  go_enter Try.func6, Try.ntmps6
  go_wp2_with fail
  refine HRT.out.mono ?_
  rintro e w1 ⟨rfl, hb1⟩
  have HB1 := Lib.hid hb1
  clear hb1
  go_wp2_with fail
  go_returns
  exact ⟨by first | rfl | simp, HB.out.trans (HB1.out.mono (by simp))⟩

set_option maxRecDepth 100000 in
set_option maxHeartbeats 8000000 in
theorem ints_same (A B : Option Addr) (n ca cb : Nat) (L : List Int) (w : World) (hn : n ≤ 140737488355328) (h1 : Arr w w.heap.size 1 A n (NumC .i64 L)) (h2 : Arr w w.heap.size 1 B n (NumC .i64 L)) :
    Calls Try.prog 10 #[.slice A n ca, .slice B n cb] w fun e w' => e = .returned (.bool true) ∧ ∃ m, w' = w.drewN m := by
  have H1 := Lib.hid h1
  have H2 := Lib.hid h2
  clear h1 h2
  have e0 : ((n : Int) != (n : Int)) = false := by simp
  go_enter Try.func10, Try.ntmps10
  go_wp2_with fail
  go_loopw [13] (fun i wr => ∃ k mq : Nat, k ≤ n ∧ i = .int .i64 k ∧ wr = w.drewN mq) (fun i _ => n - (intOf i).toNat)
  case atStart => exact ⟨0, 0, by omega, rfl, rfl⟩
  case round =>
    obtain ⟨k, mq, hk, rfl, rfl⟩ := hrel
    by_cases hlt : k < n
    · obtain ⟨b, o, rfl, _, hc⟩ := H1.out.one hlt
      obtain ⟨b', o', rfl, _, hc'⟩ := H2.out.one hlt
      unfold NumC at hc hc'
      obtain ⟨x, hx⟩ : ∃ x, x = L.getD k 0 := ⟨_, rfl⟩
      rw [← hx] at hc hc'
      have e1 : (x != x) = false := by simp
      clear hx
      go_wp2_with fail
      go_quiet (fail)
      go_wp2_with fail
      go_roundw
      case rel => exact ⟨k + 1, mq + nq, by omega, by go_num, by first | rfl | trivial⟩
      case measure => simp [intOf]; omega
    · obtain rfl : k = n := by omega
      go_wp2_with fail
      go_returns
      exact ⟨by first | rfl | simp, mq, rfl⟩

set_option maxRecDepth 100000 in
set_option maxHeartbeats 8000000 in
theorem law_nfree (A : Option Addr) (n c : Nat) (S a z : Int) (E : List Ed) (A2 : Option Addr) (n2 c2 : Nat) (L : List Int) (w : World) (h : NfaIn w A n ⟨S, a, z, E⟩) (hL : L.length = n2) (hn2 : n2 ≤ 140737488355328) (ha2 : Arr w w.heap.size 1 A2 n2 (NumC .i64 L)) :
    Calls Try.prog 3 #[.agg #[.int .i64 S, .int .i64 a, .int .i64 z, .slice A n c], .slice A2 n2 c2] w fun e w' => e = .returned (.bool true) ∧ Below w.heap.size w w' := by
  have L1 := Lib.hid (NL.start (c := c) h ha2)
  obtain ⟨i3, hi3, hz3, hsz3, hbt3⟩ := info_parts info3
  clear h ha2
  by_cases hr : RightN ⟨S, a, z, E⟩
  · obtain ⟨S, rfl⟩ := Int.eq_ofNat_of_zero_le (show 0 ≤ S by have : (1 : Int) ≤ S := hr.lo; omega)
    have HR := Lib.hid hr
    have hS : S ≤ 2000 := by have : (S : Int) ≤ 2000 := hr.hi; omega
    have HF := Lib.hid (fun W (hW : NL w A n c (S : Int) a z E A2 n2 L W) => free_ok A n c S a z E A2 n2 c2 L W hW.nfa hr hL hn2 hW.lst)
    have HRF := Lib.hid (fun W (hW : NL w A n c (S : Int) a z E A2 n2 L W) => rfree_ok A n c S a z E A2 n2 c2 L W hW.nfa hr hL hn2 hW.lst)
    have HRR := Lib.hid (fun W (hW : NL w A n c (S : Int) a z E A2 n2 L W) => nrright_any A n c S a z E W hW.nfa)
    rw [rightN_yes hr] at HRR
    have HFW := Lib.hid (fun W => few_any A n c S a z W (by have := L1.out.nfa.le; exact this))
    have hfl : (freeL E S L).length ≤ S := by unfold freeL; exact filter_few _ S
    obtain ⟨fl, hflq⟩ : ∃ fl, fl = freeL E S L := ⟨_, rfl⟩
    rw [← hflq] at hfl HF
    obtain ⟨m, hm⟩ : ∃ m, m = fl.length := ⟨_, rfl⟩
    rw [← hm] at hfl HF
    have HFL := Lib.hid (And.intro hflq hm)
    clear hr hflq hm
    have b0 := L1.out.b0
    have b1 := L1.out.b1
    have b2 := L1.out.b2
    have b3 := L1.out.b3
    go_enter Try.func3, Try.ntmps3
    go_wp2_with fail
    generalize w.alloc (.cells #[.int .i64 (S : Int), .int .i64 a, .int .i64 z, .slice A n c] 24) = w1 at L1 b0 b1 b2 b3 ⊢
    refine (HF.out _ L1.out).mono ?_
    rintro e w2 ⟨A9, c9, rfl, harr, hb2⟩
    have L2 := Lib.hid (L1.out.go hb2)
    have HA9 := Lib.hid harr
    clear hb2 b0 b1 b2 b3 harr
    have b0 := L2.out.b0
    have b1 := L2.out.b1
    have b2 := L2.out.b2
    have b3 := L2.out.b3
    go_wp2_with fail
    refine (HRR.out _ L2.out).mono ?_
    rintro e w3 ⟨rfl, hb3⟩
    have L3 := Lib.hid (L2.out.go hb3)
    have HA3 := Lib.hid ((HA9.out.below hb3).more hb3.size)
    clear hb3 b0 b1 b2 b3 HA9
    have b0 := L3.out.b0
    have b1 := L3.out.b1
    have b2 := L3.out.b2
    have b3 := L3.out.b3
    go_wp2_with fail
    refine (HFW.out w3).mono ?_
    rintro e w4 ⟨rfl, hb4⟩
    have L4 := Lib.hid (L3.out.go hb4)
    have HA4 := Lib.hid ((HA3.out.below hb4).more hb4.size)
    clear hb4 b0 b1 b2 b3 HA3
    have b0 := L4.out.b0
    have b1 := L4.out.b1
    have b2 := L4.out.b2
    have b3 := L4.out.b3
    obtain ⟨fw, hfw⟩ : ∃ fw, fw = (decide ((S : Int) ≤ 60) && decide (n ≤ 200)) := ⟨_, rfl⟩
    rw [← hfw]
    clear hfw
    cases fw with
    | false =>
      go_wp2_with fail
      go_returns
      exact ⟨by first | rfl | simp, L4.out.bel⟩
    | true =>
      go_wp2_with fail
      refine (HRF.out _ L4.out).mono ?_
      rintro e w5 ⟨g, seen, rfl, hbl, hsl, hsn, hb5⟩
      have L5 := Lib.hid (L4.out.go hb5)
      have HA5 := Lib.hid ((HA4.out.below hb5).more hb5.size)
      have hfl2 := freeL_of (E := E) (L := L) (xs := freeL E S L) (inl := seen) (S := S) (fun j hj => (hsn j hj).trans (by
        unfold freeL
        simp only [List.mem_map, List.mem_filter, List.mem_range, decide_eq_true_eq]
        constructor
        · intro h9; exact ⟨j, ⟨hj, h9⟩, rfl⟩
        · rintro ⟨j', ⟨h8, h9⟩, e9⟩; rw [← e9]; exact h9)) (fun i => ?_)
      rotate_left
      · unfold freeL
        simp only [List.mem_map, List.mem_filter, List.mem_range, decide_eq_true_eq]
        constructor
        · rintro ⟨j', ⟨h8, h9⟩, rfl⟩; exact h9
        · intro h9
          obtain ⟨h7, h8⟩ := h9.range (okE_of HR.out)
          exact ⟨i.toNat, ⟨by omega, by rw [Int.toNat_of_nonneg h7]; exact h9⟩, Int.toNat_of_nonneg h7⟩
      rw [← HFL.out.1] at hfl2
      have HF2 := Lib.hid hfl2
      have HBL := Lib.hid hbl
      clear hb5 b0 b1 b2 b3 HA4 hbl hsn hfl2
      go_wp2_with fail
      go_loopw [6, 25] (fun v i wr => ∃ (k : Nat) (out : List Int), i = .int .i64 k ∧ k ≤ S ∧ out = ((List.range k).filter (fun j => seen.getD j false)).map (fun (j : Nat) => (j : Int)) ∧ wr.ownsRow w5.heap.size 3 1 v out.length (numsV .i64 out) ∧ Below w5.heap.size w5 wr) (fun _ i _ => S - (intOf i).toNat)
      case atStart => exact ⟨0, [], rfl, by omega, rfl, World.ownsRow_nil _ _ _ _, Below.refl _ _⟩
      case round =>
        obtain ⟨k, out, rfl, hk, hout, hown, hbe⟩ := hrel
        obtain ⟨w6, rfl⟩ : ∃ w6 : World, w6 = wr := ⟨_, rfl⟩
        by_cases hlt : k < S
        · have hkS : (k : Int) < (S : Int) := by omega
          have hne := filter_next (fun j => seen.getD j false) k
          have hfw := filter_few (fun j => seen.getD j false) k
          rw [← hout] at hne hfw
          have hbl4 : Blk w6 g 3 (bitsV seen) := HBL.out.below hbe HBL.out.lt
          have hcg : w6.cell? ⟨g, k, none⟩ = some (.int .i64 (if seen.getD k false = true then 1 else 0)) := by rw [hbl4.cell]; exact bitsV_get (by omega)
          have HOW := Lib.hid hown
          have HBE := Lib.hid hbe
          have hbs := hbe.size
          cases hb : seen.getD k false with
          | false =>
            rw [hb, if_neg (by decide)] at hcg
            rw [if_neg (by rw [hb]; decide)] at hne
            have HNE := Lib.hid hne
            clear hne hown hbe hbl4 hout hb
            go_wp2_with fail
            go_roundw
            case rel => exact ⟨k + 1, out, by go_num, by omega, HNE.out.symm, HOW.out, HBE.out⟩
            case measure => simp [intOf]; omega
          | true =>
            rw [hb, if_pos rfl] at hcg
            rw [if_pos hb] at hne
            have HNE := Lib.hid hne
            have hcn := cell_one_new w6 (.int .i64 (k : Int)) 3
            clear hne hown hbe hbl4 hout hb
            go_wp2_with (first
              | (at_builtin; (refine wpList_append_lies _ rfl _ _ 25 rfl w5.heap.size 3 i3 (.int .i64 0) 1 8 Try.underlying25 hi3 hz3 hsz3 hbt3 rfl (by decide) u6 _ _ rfl (HOW.out.alloc _) ⟨w6.heap.size, 0, none⟩ 1 1 [.int .i64 k] rfl rfl hcn (by simp [Value.oneCell']) (by omega) (by unfold maxLen; omega) (by omega) (by simp; omega) _ rfl ?_; intro g5 c5 w7 hown5 hgrow5 hat5 _; have HA := Lib.hid (And.intro hown5 hgrow5))))
            go_roundw
            case rel => exact ⟨k + 1, _, by go_num, by omega, HNE.out.symm, by rw [List.length_append, numsV_snoc]; exact HA.out.1, (HBE.out.alloc hbs _).grown HA.out.2 (by simp; omega) (fun b e => ((HOW.out.lt b e).1))⟩
            case measure => simp [intOf]; omega
        · obtain rfl : k = S := by omega
          rw [HF2.out] at hout
          subst hout
          obtain ⟨A8, c8, rfl⟩ := own_slice hown
          rw [← HFL.out.2] at hown ⊢
          have HAA := Lib.hid (own_num hown)
          have HAB := Lib.hid ((HA5.out.below hbe).more hbe.size)
          have HLL := Lib.hid (L5.out.go hbe)
          clear hown hbe
          go_wp2_with fail
          refine (ints_same A9 A8 m c9 c8 _ w6 (by omega) HAB.out HAA.out).mono ?_
          rintro e w7 ⟨rfl, mq, rfl⟩
          go_wp2_with fail
          go_returns
          exact ⟨by first | rfl | simp, (HLL.out.go (below_drewN (Below.refl _ _) mq)).bel⟩
  · have HF := Lib.hid (fun W (hW : NL w A n c S a z E A2 n2 L W) => free_no A n c S a z E A2 n2 c2 W hW.nfa hr)
    have HRR := Lib.hid (fun W (hW : NL w A n c S a z E A2 n2 L W) => nrright_any A n c S a z E W hW.nfa)
    rw [rightN_no hr] at HRR
    have b0 := L1.out.b0
    have b1 := L1.out.b1
    have b2 := L1.out.b2
    have b3 := L1.out.b3
    go_enter Try.func3, Try.ntmps3
    go_wp2_with fail
    generalize w.alloc (.cells #[.int .i64 S, .int .i64 a, .int .i64 z, .slice A n c] 24) = w1 at L1 b0 b1 b2 b3 ⊢
    refine (HF.out _ L1.out).mono ?_
    rintro e w2 ⟨rfl, hb2⟩
    have L2 := Lib.hid (L1.out.go hb2)
    clear hb2 b0 b1 b2 b3
    have b0 := L2.out.b0
    have b1 := L2.out.b1
    have b2 := L2.out.b2
    have b3 := L2.out.b3
    go_wp2_with fail
    refine (HRR.out _ L2.out).mono ?_
    rintro e w3 ⟨rfl, hb3⟩
    have L3 := Lib.hid (L2.out.go hb3)
    clear hb3 b0 b1 b2 b3
    go_wp2_with fail
    go_returns
    exact ⟨by first | rfl | simp, L3.out.bel⟩
end Go.Proofs.Ytjpifofnlcajfaa
