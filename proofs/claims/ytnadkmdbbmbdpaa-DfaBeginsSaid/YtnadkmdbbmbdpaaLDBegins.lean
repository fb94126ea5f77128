/- DfaBegins, with its automaton, text and count laid open. -/
import Derived.Test.YtnadkmdbbmbdpaaBPlain
import Derived.Deep.Cut
namespace Go.Proofs.Ytnadkmdbbmbdpaa
open Go.RowKit
attribute [local go_sem ↓] load_box

theorem own_arr {w : World} {base : Nat} {e : TypeId} {v : Value} {l : List Int} (h : w.ownsRow base e 1 v l.length (numsV .i64 l)) : ∃ A c, v = .slice A l.length c ∧ Arr w w.heap.size 1 A l.length (NumC .i64 l) := by
  obtain ⟨A, c, rfl⟩ := own_slice h
  exact ⟨A, c, rfl, own_num h⟩

set_option maxRecDepth 100000 in
set_option maxHeartbeats 8000000 in
theorem law_dbegins (ds : Array Value) (A1 A2 : Option Addr) (n1 n2 c1 c2 : Nat) (D : Dfa) (RA : Nat → Option Addr) (rc : Nat → Nat) (s : ByteArray) (x : Int) (w : World) (h : DfaIn w ds A1 A2 n1 n2 c1 c2 D RA rc) :
    Calls Try.prog 4 #[.agg ds, .string s, .int .i64 x] w fun e w' => e = .returned (.bool true) ∧ Below w.heap.size w w' := by
  obtain ⟨i3, hi3, hz3, hsz3, hbt3⟩ := info_parts info3
  have L1 := LawW.start h
  have hload : ∀ W, LawW w ds A1 A2 n1 n2 c1 c2 D RA rc W → (loadBox (.pointer (some ⟨w.heap.size, 0, none⟩))).run Try.prog W = .ok (.agg ds) W := fun W hW => hW.load
  obtain ⟨bq, hbq⟩ : ∃ bq, bq = rightD D := ⟨_, rfl⟩
  have HBQ := Lib.hid hbq
  have hcs := cutS_le s 2000
  have HSH := Lib.hid (fun W => short_any s 2000 (by omega) W)
  obtain ⟨s', hs'⟩ : ∃ s', s' = cutS s 2000 := ⟨_, rfl⟩
  rw [← hs'] at hcs HSH
  clear hbq h hs'
  obtain ⟨m, hm, hmle⟩ : ∃ m : Nat, (min (max x 0) (s'.size : Int)) = (m : Int) ∧ m ≤ s'.size := ⟨(min (max x 0) (s'.size : Int)).toNat, by omega, by omega⟩
  have bb : (bq == bq) = true := by simp
  have HE := Lib.hid (fun W hW => dends_any ds A1 A2 n1 n2 c1 c2 D RA rc s' W hW 0 (by omega))
  have hxs : (s'.extract 0 m).size ≤ 1000000 := by rw [size_extract _ _ hmle]; omega
  have HE2 := Lib.hid (fun W hW => dends_any ds A1 A2 n1 n2 c1 c2 D RA rc (s'.extract 0 m) W hW 0 hxs)
  have HG := Lib.hid (fun W hW => dlong_any ds A1 A2 n1 n2 c1 c2 D RA rc (s'.extract 0 m) W hW 0 hxs)
  rw [endsR_begin] at HE2 HG
  have hsl : ∀ W, (Instr.slice 9 (.string s') none (some (.int .i64 (m : Int))) none).run Try.prog W = .ok (.string (s'.extract 0 m)) W := fun W => by
    rw [run_slice_string_to_if W 9 s' .i64 _ Try.underlying9, if_pos ⟨by omega, by omega⟩]
    rfl
  have hlen := endsR_len D s' 0
  obtain ⟨L, hL⟩ : ∃ L, L = endsR D s' 0 := ⟨_, rfl⟩
  rw [← hL] at HE HE2 HG hlen
  clear hL
  obtain ⟨F, hF⟩ : ∃ F, F = L.filter (fun y => decide (y ≤ (m : Int))) := ⟨_, rfl⟩
  rw [← hF] at HE2 HG
  have hFl : F.length ≤ L.length := by rw [hF]; exact List.length_filter_le _ _
  have HF := Lib.hid hF
  clear hF hxs
  go_enter Try.func4, Try.ntmps4
  go_wp2_with fail
  refine (HSH.out _).mono ?_
  rintro e w1 ⟨rfl, rfl⟩
  go_upto_region 2 with (fail)
  go_cut [2] from 14 (fun v wx => v = .int .i64 m ∧ wx = w.alloc (.cells ds 26))
  case first =>
    go_wp2_with fail
    all_goals (go_meet; exact ⟨by congr 1; omega, rfl⟩)
  case rest =>
  obtain ⟨rfl, rfl⟩ := hcut
  clear hm
  go_wp2_with fail
  refine (HE.out _ L1.mach).mono ?_
  rintro e w2 ⟨A, ca, rfl, harr, hb2⟩
  have L2 := Lib.hid (L1.go hb2)
  have HA := Lib.hid harr
  clear harr hb2 L1
  obtain ⟨n, hn⟩ : ∃ n, n = L.length := ⟨_, rfl⟩
  rw [← hn] at HA hlen hFl ⊢
  have HN := Lib.hid hn
  clear hn
  go_wp2_with fail
  go_loopw [7, 23] (fun v i wr => ∃ k : Nat, k ≤ n ∧ i = .int .i64 k ∧ wr.ownsRow w2.heap.size 3 1 v ((L.take k).filter (fun y => decide (y ≤ (m : Int)))).length (numsV .i64 ((L.take k).filter (fun y => decide (y ≤ (m : Int))))) ∧ Below w2.heap.size w2 wr ∧ w2.heap.size ≤ wr.heap.size) (fun _ i _ => n - (intOf i).toNat)
  case atStart => exact ⟨0, by omega, rfl, World.ownsRow_nil _ _ _ _, Below.refl _ _, Nat.le_refl _⟩
  case round =>
    obtain ⟨k, hk, rfl, hown, hbe, hszr⟩ := hrel
    have HBE := Lib.hid hbe
    obtain ⟨w3, rfl⟩ : ∃ w3 : World, w3 = wr := ⟨_, rfl⟩
    by_cases hlt : k < n
    · obtain ⟨b, o, rfl, _, hc⟩ := (HA.out.below hbe).one hlt
      unfold NumC at hc
      have hfs := filter_step L k (by rw [← HN.out]; exact hlt) (fun y => decide (y ≤ (m : Int)))
      obtain ⟨O, hO⟩ : ∃ O, O = (L.take k).filter (fun y => decide (y ≤ (m : Int))) := ⟨_, rfl⟩
      have hOl : O.length ≤ n := by rw [hO, HN.out]; exact Nat.le_trans (List.length_filter_le _ _) (by simp; omega)
      obtain ⟨y, hy⟩ : ∃ y, y = L.getD k 0 := ⟨_, rfl⟩
      rw [← hO] at hown hfs
      rw [← hy] at hc hfs
      have HO := Lib.hid hown
      have HFS := Lib.hid hfs
      clear hown hfs hO hy hbe
      by_cases hle : y ≤ (m : Int)
      · have e1 : decide (y ≤ (m : Int)) = true := by simpa using hle
        go_wp2_with (first
          | (at_builtin; refine wpList_app1 w2 _ rfl (.tmp 30) (.tmp 32) 29 rfl w2.heap.size 3 i3 (.int .i64 0) 8 Try.underlying29 hi3 hz3 hsz3 hbt3 rfl _ O.length (numsV .i64 O) rfl (HO.out.alloc _) (HBE.out.alloc hszr _) (.int .i64 y) _ rfl (by go_simp) rfl (by omega) (by unfold maxLen; omega) (by simp; omega) ?_; intro v5 w5 hown5 hbel5 hg5))
        go_roundw
        case rel => exact ⟨k + 1, by omega, by go_num, by rw [HFS.out, if_pos e1, List.length_append, numsV_snoc]; exact hown5, hbel5, hbel5.size⟩
        case measure => simp [intOf]; omega
      · have e1 : decide (y ≤ (m : Int)) = false := by simpa using hle
        go_wp2_with fail
        go_roundw
        case rel => exact ⟨k + 1, by omega, by go_num, by rw [HFS.out, if_neg (by rw [e1]; simp), List.append_nil]; exact HO.out, HBE.out, hszr⟩
        case measure => simp [intOf]; omega
    · obtain rfl : k = n := by omega
      rw [List.take_of_length_le (by rw [HN.out]; exact Nat.le_refl _), ← HF.out] at hown
      obtain ⟨C, cw, rfl, hC⟩ := own_arr hown
      have L3 := L2.out.go hbe
      have HC := Lib.hid hC
      obtain ⟨ll, hll⟩ : ∃ ll, ll = lastI F := ⟨_, rfl⟩
      rw [← hll] at HG
      have HLL := Lib.hid hll
      obtain ⟨f, hf⟩ : ∃ f, f = F.length := ⟨_, rfl⟩
      rw [← hf] at HC HE2 hFl ⊢
      have HFN := Lib.hid hf
      clear hown hC hbe hll hf
      go_wp2_with fail
      go_region_held3 (fun w' => LawW w ds A1 A2 n1 n2 c1 c2 D RA rc w')
        (first
          | assumption
          | exact M9
          | exact L3.drew)
        (first
          | (go_at_call 10; refine (HE2.out _ (LawW.mach (by assumption))).mono ?_; rintro e w6 ⟨B, cb, rfl, harr, hb6⟩; have M9 : LawW w ds A1 A2 n1 n2 c1 c2 D RA rc w6 := LawW.go (by assumption) hb6))
      have HB6 := Lib.hid harr
      have hC6 := (HC.out.below ((Below.refl _ _).drew.trans hb6)).more (hb6.size)
      have HC6 := Lib.hid hC6
      clear harr hC6 hb6 L3
      go_upto_if 42 with (fail)
      go_cut [11] from 14 (fun v wx => v = .int .i64 ll ∧ wx = w6)
      case first =>
        by_cases h0 : f = 0
        · have e1 : decide ((0 : Int) < (f : Int)) = false := by simp; omega
          have e1n : decide (0 < f) = false := by simp; omega
          have hf0 : ¬ 0 < f := by omega
          have hl : ll = -1 := by rw [HLL.out]; unfold lastI; rw [if_pos (by rw [← HFN.out]; exact h0)]
          clear h0
          go_wp2_with fail
          go_meet
          exact ⟨by rw [hl], rfl⟩
        · have e1 : decide ((0 : Int) < (f : Int)) = true := by simp; omega
          obtain ⟨g, rfl⟩ : ∃ g, f = g + 1 := ⟨f - 1, by omega⟩
          obtain ⟨b, o, rfl, _, hc⟩ := HC6.out.one (k := g) (by omega)
          unfold NumC at hc
          have e1n : decide (0 < g + 1) = true := by simp
          have e2 : ((g + 1 : Nat) : Int) - 1 = (g : Int) := by omega
          have hl : F.getD g 0 = ll := by rw [HLL.out]; unfold lastI; rw [if_neg (by rw [← HFN.out]; omega), ← HFN.out]; rfl
          rw [hl] at hc
          clear h0 hl
          go_wp2_with fail
          go_meet
          exact ⟨rfl, rfl⟩
      case rest =>
      obtain ⟨rfl, rfl⟩ := hcut
      have e3 : (ll == ll) = true := by simp
      have HRT := Lib.hid (fun W hW => dright_any ds A1 A2 n1 n2 c1 c2 D RA rc W hW)
      have HRR := Lib.hid (fun W hW => drright_any ds A1 A2 n1 n2 c1 c2 D RA rc W hW)
      rw [← HBQ.out] at HRT HRR
      go_wp2_with fail
      have B6 := HB6.out
      have C6 := HC6.out
      go_region_held3 (fun w' => LawW w ds A1 A2 n1 n2 c1 c2 D RA rc w' ∧ Arr w' w'.heap.size 1 B f (NumC .i64 F) ∧ Arr w' w'.heap.size 1 C f (NumC .i64 F))
        (first
          | assumption
          | exact ⟨L9, B9, C9⟩
          | exact ⟨M9.drew, B6, C6⟩)
        (first
          | (go_at_call 8; go_split_ands; refine (HRT.out _ (LawW.mach (by assumption))).mono ?_; rintro e w9 ⟨rfl, hb9⟩; have L9 : LawW w ds A1 A2 n1 n2 c1 c2 D RA rc w9 := LawW.go (by assumption) hb9; have B9 : Arr w9 w9.heap.size 1 B f (NumC .i64 F) := (Arr.below (by assumption : Arr _ _ 1 B f (NumC .i64 F)) hb9).more hb9.size; have C9 : Arr w9 w9.heap.size 1 C f (NumC .i64 F) := (Arr.below (by assumption : Arr _ _ 1 C f (NumC .i64 F)) hb9).more hb9.size)
          | (go_at_call 9; go_split_ands; refine (HRR.out _ (LawW.mach (by assumption))).mono ?_; rintro e w9 ⟨rfl, hb9⟩; have L9 : LawW w ds A1 A2 n1 n2 c1 c2 D RA rc w9 := LawW.go (by assumption) hb9; have B9 : Arr w9 w9.heap.size 1 B f (NumC .i64 F) := (Arr.below (by assumption : Arr _ _ 1 B f (NumC .i64 F)) hb9).more hb9.size; have C9 : Arr w9 w9.heap.size 1 C f (NumC .i64 F) := (Arr.below (by assumption : Arr _ _ 1 C f (NumC .i64 F)) hb9).more hb9.size)
          | (go_at_call 11; go_split_ands; refine (HG.out _ (LawW.mach (by assumption))).mono ?_; rintro e w9 ⟨rfl, hb9⟩; have L9 : LawW w ds A1 A2 n1 n2 c1 c2 D RA rc w9 := LawW.go (by assumption) hb9; have B9 : Arr w9 w9.heap.size 1 B f (NumC .i64 F) := (Arr.below (by assumption : Arr _ _ 1 B f (NumC .i64 F)) hb9).more hb9.size; have C9 : Arr w9 w9.heap.size 1 C f (NumC .i64 F) := (Arr.below (by assumption : Arr _ _ 1 C f (NumC .i64 F)) hb9).more hb9.size)
          | (go_at_call 12; go_split_ands; refine (ints_same B C f cb cw F _ (by omega) (by assumption) (by assumption)).mono ?_; rintro e w9 ⟨rfl, mq, rfl⟩; have L9 : LawW w ds A1 A2 n1 n2 c1 c2 D RA rc _ := LawW.go (by assumption) (below_drewN (Below.refl _ _) mq); have B9 := (by assumption : Arr _ _ 1 B f (NumC .i64 F)).drewN mq; have C9 := (by assumption : Arr _ _ 1 C f (NumC .i64 F)).drewN mq))
      go_split_ands
      go_wp2_with fail
      go_returns
      exact ⟨by first | rfl | simp, L9.bel⟩
end Go.Proofs.Ytnadkmdbbmbdpaa
