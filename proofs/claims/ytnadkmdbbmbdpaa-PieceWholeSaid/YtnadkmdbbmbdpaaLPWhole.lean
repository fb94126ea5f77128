/- PieceWhole, with its automaton, text and place laid open. -/
import Derived.Test.YtnadkmdbbmbdpaaWPlain
import Derived.Deep.Cut
namespace Go.Proofs.Ytnadkmdbbmbdpaa
open Go.RowKit
attribute [local go_sem ↓] load_box

theorem strB (s : ByteArray) : s.toList.isEmpty = decide (s.size = 0) := by
  rw [ByteArray.toList_eq]
  cases s with | mk x => cases x with | mk l => cases l <;> simp [ByteArray.size]
set_option maxRecDepth 100000 in
set_option maxHeartbeats 8000000 in
theorem like_same (A B : Option Addr) (n ca cb : Nat) (L : List ByteArray) (w : World) (hn : n ≤ 140737488355328) (h1 : Arr w w.heap.size 1 A n (StrC L)) (h2 : Arr w w.heap.size 1 B n (StrC L)) :
    Calls Try.prog 19 #[.slice A n ca, .slice B n cb] w fun e w' => e = .returned (.bool true) ∧ ∃ m, w' = w.drewN m := by
  have H1 := Lib.hid h1
  have H2 := Lib.hid h2
  clear h1 h2
  have e0 : ((n : Int) != (n : Int)) = false := by simp
  go_enter Try.func19, Try.ntmps19
  go_wp2_with fail
  go_loopw [13] (fun i wr => ∃ k mq : Nat, k ≤ n ∧ i = .int .i64 k ∧ wr = w.drewN mq) (fun i _ => n - (intOf i).toNat)
  case atStart => exact ⟨0, 0, by omega, rfl, rfl⟩
  case round =>
    obtain ⟨k, mq, hk, rfl, rfl⟩ := hrel
    by_cases hlt : k < n
    · obtain ⟨b, o, rfl, _, hc⟩ := H1.out.one hlt
      obtain ⟨b', o', rfl, _, hc'⟩ := H2.out.one hlt
      unfold StrC at hc hc'
      obtain ⟨x, hx⟩ : ∃ x, x = L.getD k ⟨#[]⟩ := ⟨_, rfl⟩
      rw [← hx] at hc hc'
      have e1 : (x.toList != x.toList) = false := by simp
      have e2 : (x.toList == x.toList) = true := by simp
      clear hx
      go_wp2_with fail
      go_quiet (fail)
      go_wp2_with fail
      go_roundw
      case rel => exact ⟨k + 1, mq + nq, by omega, by go_num, by first | rfl | trivial⟩
      case measure => simp [intOf]; omega
    · obtain rfl : k = n := by omega
      go_wp2_with fail
      go_returns
      exact ⟨by first | rfl | simp, mq, rfl⟩

theorem arr_tail {w : World} {B n k b o : Nat} {L : List ByteArray} (h : Arr w B 1 (some ⟨b, o, none⟩) n (StrC L)) (hk : k < n) : Arr w B 1 (some ⟨b, o + k, none⟩) (n - k) (StrC (L.drop k)) := fun _ => by
  obtain ⟨b', o', e, hlt, hc⟩ := h (by omega)
  simp only [Option.some.injEq, Addr.mk.injEq, and_true] at e
  obtain ⟨rfl, rfl⟩ := e
  refine ⟨b, o + k, rfl, hlt, fun i j hi hj => ?_⟩
  have := hc (k + i) j (by omega) hj
  rw [show o + ((k + i) * 1 + j) = o + k + (i * 1 + j) by omega] at this
  rw [this]
  simp [StrC, List.getD_eq_getElem?_getD, List.getElem?_drop]

set_option maxRecDepth 100000 in
set_option maxHeartbeats 8000000 in
theorem law_pwhole (ds : Array Value) (A1 A2 : Option Addr) (n1 n2 c1 c2 : Nat) (D : Dfa) (RA : Nat → Option Addr) (rc : Nat → Nat) (s : ByteArray) (x : Int) (w : World) (h : DfaIn w ds A1 A2 n1 n2 c1 c2 D RA rc) :
    Calls Try.prog 6 #[.agg ds, .string s, .int .i64 x] w fun e w' => e = .returned (.bool true) ∧ Below w.heap.size w w' := by
  have L1 := LawW.start h
  have hload : ∀ W, LawW w ds A1 A2 n1 n2 c1 c2 D RA rc W → (loadBox (.pointer (some ⟨w.heap.size, 0, none⟩))).run Try.prog W = .ok (.agg ds) W := fun W hW => hW.load
  have HRR := Lib.hid (fun W hW => drright_any ds A1 A2 n1 n2 c1 c2 D RA rc W hW)
  clear h
  by_cases hr : RightD D
  · rw [rightD_yes hr] at HRR
    by_cases hs : 3000 < s.size
    · have e1 : decide ((3000 : Int) < (s.size : Int)) = true := by simp; omega
      clear hr
      go_enter Try.func6, Try.ntmps6
      go_wp2_with fail
      refine (HRR.out _ L1.mach).mono ?_
      rintro e w2 ⟨rfl, hb2⟩
      have L2 := L1.go hb2
      clear hb2
      go_wp2_with fail
      go_returns
      exact ⟨by first | rfl | simp, L2.bel⟩
    · have e1 : decide ((3000 : Int) < (s.size : Int)) = false := by simp; omega
      have HT := Lib.hid (fun W hW => ptexts_ok ds A1 A2 n1 n2 c1 c2 D RA rc s W hW hr (by omega))
      have hcl := chunks_len D s 0
      have hpl := pieces_len D s 0
      have hcat : (catB (chunks D s 0)).length = s.size := by rw [chunks_cat D s 0 (Nat.zero_le _), List.drop_zero, size_data]
      have HJ := Lib.hid (fun A c W hA hc => join_any A (chunks D s 0).length c (chunks D s 0) W rfl hA hc (by omega) (by omega))
      rw [chunks_whole D s] at HJ
      have HTJ := Lib.hid (fun k W hW => ptexts_ok ds A1 A2 n1 n2 c1 c2 D RA rc ⟨(catB ((chunks D s 0).drop k)).toArray⟩ W hW hr (by
        have h9 := catB_drop_len (chunks D s 0) k
        show (catB ((chunks D s 0).drop k)).toArray.size ≤ _
        rw [List.size_toArray]; omega))
      simp only [chunks_alone D s] at HTJ
      have HPOS := Lib.hid (fun t ht => chunks_pos D s 0 t ht)
      have HCJ := Lib.hid (fun k => catB_drop_len (chunks D s 0) k)
      obtain ⟨L, hL⟩ : ∃ L, L = chunks D s 0 := ⟨_, rfl⟩
      rw [← hL] at HT HJ HTJ HPOS HCJ hcl hcat
      have hn2 : L.length ≤ 3000 := by omega
      have hz : L.length = 0 → s.size = 0 := fun h9 => by rw [← hcat, List.eq_nil_of_length_eq_zero h9]; rfl
      have HZ := Lib.hid hz
      have HCAT := Lib.hid hcat
      obtain ⟨n, hn⟩ : ∃ n, n = L.length := ⟨_, rfl⟩
      rw [← hn] at HT HJ HZ hn2
      have HN := Lib.hid hn
      have hss : (s.toList != s.toList) = false := by simp
      have hss2 : (s.toList == s.toList) = true := by simp
      clear hr hcl hpl hcat hL hz hn
      go_enter Try.func6, Try.ntmps6
      go_wp2_with fail
      refine (HRR.out _ L1.mach).mono ?_
      rintro e w2 ⟨rfl, hb2⟩
      have L2 := L1.go hb2
      clear hb2
      go_wp2_with fail
      refine (HT.out _ L2.mach).mono ?_
      rintro e w3 ⟨A, c, rfl, hA, hnc, hb3⟩
      have L3 := L2.go hb3
      clear hb3
      have HA3 := Lib.hid hA
      go_wp2_with fail
      refine (HJ.out A c _ hA (fun _ => hnc)).mono ?_
      rintro e w4 ⟨rfl, hb4⟩
      have L4 := L3.go hb4
      have HA := Lib.hid ((hA.below hb4).more hb4.size)
      clear hb4 hA HA3
      go_wp2_with fail
      go_loop [37] (fun i => ∃ k : Nat, k ≤ n ∧ i = .int .i64 k) (fun i => n - (intOf i).toNat)
      case atStart => exact ⟨0, by omega, rfl⟩
      case round =>
        obtain ⟨k, hk, rfl⟩ := hrel
        by_cases hlt : k < n
        · obtain ⟨b, o, rfl, _, hc⟩ := HA.out.one hlt
          unfold StrC at hc
          have hkl : k < L.length := by rw [← HN.out]; exact hlt
          have hpos := HPOS.out (L.getD k ⟨#[]⟩) (by simp [hkl])
          obtain ⟨t, ht⟩ : ∃ t, t = L.getD k ⟨#[]⟩ := ⟨_, rfl⟩
          rw [← ht] at hc hpos
          have et : t.toList.isEmpty = false := by rw [strB]; exact decide_eq_false (by omega)
          clear ht hpos hkl
          go_wp2_with fail
          go_round
          case rel => exact ⟨k + 1, by omega, by go_num⟩
          case measure => simp [intOf]; omega
        · obtain rfl : k = n := by omega
          by_cases h0 : k = 0
          · have e2 : ((k : Int) == 0) = true := by simp [h0]
            have es : s.toList.isEmpty = true := by rw [strB]; exact decide_eq_true (HZ.out h0)
            clear h0
            go_wp2_with fail
            go_returns
            exact ⟨by first | rfl | simp, L4.bel⟩
          · have e2 : ((k : Int) == 0) = false := beq_eq_false_iff_ne.mpr (by omega)
            obtain ⟨r, hr1, hr2, hr3, q, hq1, hq2⟩ := turn_at x k (by omega)
            have hwr : IntKind.i64.wrap (r + (k : Int)) = r + (k : Int) := IntWalk.i64_in _ (by omega)
            obtain ⟨b, o, rfl, _, _⟩ := HA.out.one (k := 0) (by omega)
            have hsl := fun W => slice_tail b o k c q (by omega) (by omega) W
            have HAT := Lib.hid (arr_tail HA.out hq2)
            have hdl : (L.drop q).length = k - q := by rw [List.length_drop, ← HN.out]
            have hct : (catB (L.drop q)).length ≤ 262144 := by have := HCJ.out q; have := HCAT.out; omega
            have HJT := Lib.hid (fun W hA => join_any (some ⟨b, o + q, none⟩) (k - q) (c - q) (L.drop q) W hdl hA (fun _ => by omega) hct (by omega))
            have HTQ := Lib.hid (fun W hW => HTJ.out q W hW)
            rw [hdl] at HTQ
            obtain ⟨J, hJ⟩ : ∃ J : ByteArray, J = ⟨(catB (L.drop q)).toArray⟩ := ⟨_, rfl⟩
            rw [← hJ] at HTQ HJT
            obtain ⟨LT, hLT⟩ : ∃ LT, LT = L.drop q := ⟨_, rfl⟩
            rw [← hLT] at HTQ HJT HAT
            obtain ⟨p, hp⟩ : ∃ p, p = k - q := ⟨_, rfl⟩
            rw [← hp] at HTQ HJT HAT hsl
            have hpk : p ≤ 3000 := by omega
            clear h0 hdl hct hJ hLT hp
            go_wp2_with fail
            have T4 := HAT.out
            go_region_held3 (fun w' => LawW w ds A1 A2 n1 n2 c1 c2 D RA rc w' ∧ Arr w' w'.heap.size 1 (some ⟨b, o + q, none⟩) p (StrC LT))
              (first
                | assumption
                | exact ⟨L9, T9⟩
                | exact ⟨L4.drew, T4⟩)
              (first
                | (go_at_call 18; go_split_ands; refine (HJT.out _ (by assumption)).mono ?_; rintro e w9 ⟨rfl, hb9⟩; have L9 : LawW w ds A1 A2 n1 n2 c1 c2 D RA rc w9 := LawW.go (by assumption) hb9; have T9 : Arr w9 w9.heap.size 1 (some ⟨b, o + q, none⟩) p (StrC LT) := (Arr.below (by assumption : Arr _ _ 1 (some ⟨b, o + q, none⟩) p (StrC LT)) hb9).more hb9.size)
                | (go_at_call 16; go_split_ands; refine (HTQ.out _ (LawW.mach (by assumption))).mono ?_; rintro e w9 ⟨B2, cb, rfl, hB9, _, hb9⟩; have L9 : LawW w ds A1 A2 n1 n2 c1 c2 D RA rc w9 := LawW.go (by assumption) hb9; have T9 : Arr w9 w9.heap.size 1 (some ⟨b, o + q, none⟩) p (StrC LT) := (Arr.below (by assumption : Arr _ _ 1 (some ⟨b, o + q, none⟩) p (StrC LT)) hb9).more hb9.size))
            go_split_ands
            go_wp2_with fail
            refine (like_same B2 (some ⟨b, o + q, none⟩) p cb (c - q) LT w9 (by omega) hB9 T9).mono ?_
            rintro e w10 ⟨rfl, mq, rfl⟩
            go_wp2_with fail
            go_returns
            exact ⟨by first | rfl | simp, below_drewN L9.bel _⟩
  · rw [rightD_no hr] at HRR
    clear hr
    go_enter Try.func6, Try.ntmps6
    go_wp2_with fail
    refine (HRR.out _ L1.mach).mono ?_
    rintro e w2 ⟨rfl, hb2⟩
    have L2 := L1.go hb2
    clear hb2
    go_wp2_with fail
    go_returns
    exact ⟨by first | rfl | simp, L2.bel⟩
end Go.Proofs.Ytnadkmdbbmbdpaa
