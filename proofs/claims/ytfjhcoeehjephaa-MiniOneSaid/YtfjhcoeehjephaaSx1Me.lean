/- The reference's small parts: Ints, empty, alike. -/
import Derived.Test.YtfjhcoeehjephaaKyMe
import Derived.Test.YtfjhcoeehjephaaSmallMe
import Derived.Test.YtfjhcoeehjephaaRFreeMe
import Derived.Deep.RegionHeld3
import Derived.Deep.RegionWith
namespace Go.Proofs.Ytfjhcoeehjephaa
open Go.RowKit
attribute [local go_sem ↓] Go.wp_at_zero Go.wp_at_succ

theorem cellAl2 {W : World} {a : Addr} {v : Value} (h : W.cell? a = some v) (o : Obj) : (W.alloc o).cell? a = some v := (World.cell?_alloc_lt _ _ _ (World.block_lt_of_cell? W a h)).trans h
set_option maxRecDepth 100000 in
set_option maxHeartbeats 8000000 in
theorem ints_any (A1 A2 : Option Addr) (n c1 c2 : Nat) (xs ys : List Int) (w : World) (hx : xs.length = n) (hy : ys.length = n) (hn : n ≤ 140737488355328)
    (h1 : Arr w w.heap.size 1 A1 n (NumC .i64 xs)) (h2 : Arr w w.heap.size 1 A2 n (NumC .i64 ys)) :
    Calls Try.prog 15 #[.slice A1 n c1, .slice A2 n c2] w fun e w' => e = .returned (.bool (decide (xs = ys))) ∧ ∃ m, w' = w.drewN m := by
  have H1 := Lib.hid h1
  have H2 := Lib.hid h2
  have HL := Lib.hid (And.intro hx hy)
  have e0 : ((n : Int) != (n : Int)) = false := by simp
  clear h1 h2 hx hy
  go_enter Try.func15, Try.ntmps15
  go_wp2_with fail
  go_loopw [13] (fun i wr => ∃ k m : Nat, k ≤ n ∧ i = .int .i64 k ∧ (∀ j, j < k → xs.getD j 0 = ys.getD j 0) ∧ wr = w.drewN m) (fun i _ => n - (intOf i).toNat)
  case atStart => exact ⟨0, 0, Nat.zero_le _, rfl, fun j hj => absurd hj (by omega), rfl⟩
  case round =>
    obtain ⟨k, m, hk, rfl, heq, rfl⟩ := hrel
    have HQ := Lib.hid heq
    clear heq
    by_cases hlt : k < n
    · obtain ⟨b1, o1, rfl, _, hc1⟩ := H1.out.one hlt
      obtain ⟨b2, o2, rfl, _, hc2⟩ := H2.out.one hlt
      unfold NumC at hc1 hc2
      obtain ⟨x, hxk⟩ : ∃ x, x = xs.getD k 0 := ⟨_, rfl⟩
      obtain ⟨y, hyk⟩ : ∃ y, y = ys.getD k 0 := ⟨_, rfl⟩
      rw [← hxk] at hc1
      rw [← hyk] at hc2
      have HX := Lib.hid hxk
      have HY := Lib.hid hyk
      clear hxk hyk
      by_cases hxy : x = y
      · have e1 : (x != y) = false := by simpa using hxy
        go_wp2_with fail
        go_quiet (fail)
        go_wp2_with fail
        go_roundw
        case rel => exact ⟨k + 1, m + nq, by omega, by go_num, fun j hj => by
                        by_cases h : j < k
                        · exact HQ.out j h
                        · obtain rfl : j = k := by omega
                          rw [← HX.out, ← HY.out]; exact hxy, by first | rfl | trivial⟩
        case measure => simp [intOf]; omega
      · have e1 : (x != y) = true := by simpa using hxy
        go_wp2_with fail
        go_quiet (fail)
        go_wp2_with fail
        go_returns
        have hne : ¬ xs = ys := fun h => hxy (by rw [HX.out, HY.out, h])
        exact ⟨by rw [decide_eq_false hne]; first | rfl | simp, m + nq, by first | rfl | simp⟩
    · obtain rfl : k = n := by omega
      go_wp2_with fail
      go_returns
      have he : xs = ys := by
        apply List.ext_getElem (by rw [HL.out.1, HL.out.2])
        intro j h1 h2
        have := HQ.out j (by rw [← HL.out.1]; exact h1)
        simpa [h1, h2] using this
      exact ⟨by rw [decide_eq_true he]; first | rfl | simp, m, rfl⟩
set_option maxRecDepth 100000 in
set_option maxHeartbeats 8000000 in
theorem empty_any (g n c : Nat) (M : List Bool) (w : World) (hn : n ≤ 140737488355328) (hM : M.length = n) (h : Blk w g 3 (bitsV M)) :
    Calls Try.prog 40 #[.slice (some ⟨g, 0, none⟩) n c] w fun e w' => e = .returned (.bool (M.all (fun b => !b))) ∧ w' = w := by
  have H := Lib.hid h
  have HM := Lib.hid hM
  clear h hM
  go_enter Try.func40, Try.ntmps40
  go_wp2_with fail
  go_loopw [7] (fun i wr => ∃ k : Nat, k ≤ n ∧ i = .int .i64 (k : Int) ∧ (∀ j, j < k → M.getD j false = false) ∧ wr = w) (fun i _ => n - (intOf i).toNat)
  case atStart => exact ⟨0, Nat.zero_le _, rfl, fun j hj => absurd hj (by omega), rfl⟩
  case round =>
    obtain ⟨k, hk, rfl, heq, hwr⟩ := hrel
    subst hwr
    have HQ := Lib.hid heq
    clear heq
    by_cases hlt : k < n
    · have d1 : decide ((k : Int) < (n : Int)) = true := by simp; omega
      have hc : wr.cell? ⟨g, k, none⟩ = some (.int .i64 (if M.getD k false = true then 1 else 0)) := by rw [H.out.cell]; exact bitsV_get (by rw [HM.out]; exact hlt)
      obtain ⟨b, hb⟩ : ∃ b, b = M.getD k false := ⟨_, rfl⟩
      rw [← hb] at hc
      have HB := Lib.hid hb
      clear hb
      cases b with
      | true =>
        rw [if_pos rfl] at hc
        go_wp2_with fail
        go_returns
        have hf : M.all (fun b => !b) = false := by
          rw [List.all_eq_false]
          exact ⟨true, by rw [HB.out]; exact getD_mem (by rw [HM.out]; exact hlt), by simp⟩
        exact ⟨by rw [hf]; first | rfl | simp, by first | rfl | trivial⟩
      | false =>
        rw [if_neg (by simp)] at hc
        go_wp2_with fail
        go_roundw
        case rel => exact ⟨k + 1, by omega, by go_num, fun j hj => by
                      by_cases e : j < k
                      · exact HQ.out j e
                      · obtain rfl : j = k := by omega
                        exact HB.out.symm, by first | rfl | trivial⟩
        case measure => simp [intOf]; omega
    · obtain rfl : k = n := by omega
      have d1 : decide ((k : Int) < (k : Int)) = false := by simp
      go_wp2_with fail
      go_returns
      have hf : M.all (fun b => !b) = true := by
        rw [List.all_eq_true]
        intro b hb
        obtain ⟨j, hj, rfl⟩ := List.getElem_of_mem hb
        have := HQ.out j (by rw [← HM.out]; exact hj)
        rw [List.getD_eq_getElem?_getD, List.getElem?_eq_getElem hj] at this
        simpa using this
      exact ⟨by rw [hf]; first | rfl | simp, by first | rfl | trivial⟩
/-- do all sets have two bytes alike? -/
def alikeB (l : List Quad) (b c : Nat) : Bool := l.all (fun q => hasB q.a q.b q.c q.d b == hasB q.a q.b q.c q.d c)
set_option maxRecDepth 100000 in
set_option maxHeartbeats 16000000 in
theorem alike_any (A : Option Addr) (n cp : Nat) (l : List Quad) (b c : Nat) (hb : b < 256) (hc : c < 256) (w : World) (hn : n ≤ 140737488355328) (hl : l.length = n) (hq : ∀ q ∈ l, q.ok) (h : Arr w w.heap.size 4 A n (QdC l)) :
    Calls Try.prog 61 #[.slice A n cp, .int .u8 (b : Int), .int .u8 (c : Int)] w fun e w' => e = .returned (.bool (alikeB l b c)) ∧ Below w.heap.size w w' := by
  have H := Lib.hid h
  have HL := Lib.hid (And.intro hl hq)
  clear h hl hq
  go_enter Try.func61, Try.ntmps61
  go_wp2_with fail
  go_loopw [11] (fun i wr => ∃ k : Nat, k ≤ n ∧ i = .int .i64 (k : Int) ∧ (∀ j, j < k → hasB (l.getD j ⟨0, 0, 0, 0⟩).a (l.getD j ⟨0, 0, 0, 0⟩).b (l.getD j ⟨0, 0, 0, 0⟩).c (l.getD j ⟨0, 0, 0, 0⟩).d b = hasB (l.getD j ⟨0, 0, 0, 0⟩).a (l.getD j ⟨0, 0, 0, 0⟩).b (l.getD j ⟨0, 0, 0, 0⟩).c (l.getD j ⟨0, 0, 0, 0⟩).d c) ∧ Below w.heap.size w wr) (fun i _ => n - (intOf i).toNat)
  case atStart => exact ⟨0, Nat.zero_le _, rfl, fun j hj => absurd hj (by omega), Below.refl _ _⟩
  case round =>
    obtain ⟨k, hk, rfl, heq, hbe⟩ := hrel
    obtain ⟨w3, rfl⟩ : ∃ w3 : World, w3 = wr := ⟨_, rfl⟩
    have HQ := Lib.hid heq
    have HBE := Lib.hid hbe
    clear heq hbe
    by_cases hlt : k < n
    · have d1 : decide ((k : Int) < (n : Int)) = true := by simp; omega
      obtain ⟨b9, o9, rfl, _, p0, p1, p2, p3⟩ := (H.out.below HBE.out).quad hlt
      have hkl : k < l.length := by rw [HL.out.1]; exact hlt
      have hqk := HL.out.2 _ (getD_mem (d := (⟨0, 0, 0, 0⟩ : Quad)) hkl)
      have hmm : l.getD k ⟨0, 0, 0, 0⟩ ∈ l := getD_mem hkl
      obtain ⟨q, hqe⟩ : ∃ q, q = l.getD k ⟨0, 0, 0, 0⟩ := ⟨_, rfl⟩
      rw [← hqe] at p0 p1 p2 p3 hqk hmm
      have HQE := Lib.hid (And.intro hqe hmm)
      clear hqe hkl hmm
      obtain ⟨s0, s1, s2, s3⟩ := q
      simp only at p0 p1 p2 p3
      obtain ⟨h0, h1, h2, h3⟩ := hqk
      simp only at h0 h1 h2 h3
      obtain ⟨xb, hxb⟩ : ∃ x, x = hasB s0 s1 s2 s3 b := ⟨_, rfl⟩
      obtain ⟨xc, hxc⟩ : ∃ x, x = hasB s0 s1 s2 s3 c := ⟨_, rfl⟩
      have hHb := fun w' => rhas_any s0 s1 s2 s3 h0 h1 h2 h3 b hb w'
      have hHc := fun w' => rhas_any s0 s1 s2 s3 h0 h1 h2 h3 c hc w'
      rw [← hxb] at hHb
      rw [← hxc] at hHc
      have HHB := Lib.hid hHb
      have HHC := Lib.hid hHc
      have HX := Lib.hid (And.intro hxb hxc)
      clear hxb hxc hHb hHc h0 h1 h2 h3
      go_upto_region 4 with (fail)
      have hblk := Blk.new w3 46 [.int .u64 s0, .int .u64 s1, .int .u64 s2, .int .u64 s3]
      have HB4 := Lib.hid (HBE.out.alloc HBE.out.size (.cells #[.int .u64 s0, .int .u64 s1, .int .u64 s2, .int .u64 s3] 46))
      obtain ⟨eb, heb⟩ : ∃ eb, eb = w3.heap.size := ⟨_, rfl⟩
      rw [← heb] at hblk ⊢
      change Blk (w3.alloc (.cells #[.int .u64 s0, .int .u64 s1, .int .u64 s2, .int .u64 s3] 46)) eb 46 _ at hblk
      clear heb p0 p1 p2 p3
      generalize w3.alloc (.cells #[.int .u64 s0, .int .u64 s1, .int .u64 s2, .int .u64 s3] 46) = w4 at hblk HB4 ⊢
      have q0 := hblk.cell 0
      have q1 := hblk.cell 1
      have q2 := hblk.cell 2
      have q3 := hblk.cell 3
      simp only [List.getElem?_cons_zero, List.getElem?_cons_succ] at q0 q1 q2 q3
      clear hblk
      go_region_held3 (fun W' => Below w.heap.size w W' ∧ W'.cell? ⟨eb, 0, none⟩ = some (.int .u64 s0) ∧ W'.cell? ⟨eb, 1, none⟩ = some (.int .u64 s1) ∧ W'.cell? ⟨eb, 2, none⟩ = some (.int .u64 s2) ∧ W'.cell? ⟨eb, 3, none⟩ = some (.int .u64 s3))
        (first
          | assumption
          | exact ⟨HB4.out.drew, q0, q1, q2, q3⟩
          | (go_split_ands; exact ⟨Below.alloc (by assumption) (Below.size (by assumption)) _, cellAl2 (by assumption) _, cellAl2 (by assumption) _, cellAl2 (by assumption) _, cellAl2 (by assumption) _⟩))
        (first
          | (go_at_call_of 42 (Value.int .u8 (b : Int)); go_split_ands; refine (HHB.out _).mono ?_; rintro e w9 ⟨rfl, rfl⟩)
          | (go_at_call_of 42 (Value.int .u8 (c : Int)); go_split_ands; refine (HHC.out _).mono ?_; rintro e w9 ⟨rfl, rfl⟩))
      have HB7 := Lib.hid (((HB4.out.alloc HB4.out.size (.cells #[.int .u64 s0, .int .u64 s1, .int .u64 s2, .int .u64 s3] 46)).alloc (Nat.le_trans HB4.out.size (by simp)) (.cells #[.int .u64 s0, .int .u64 s1, .int .u64 s2, .int .u64 s3] 46)).drew)
      clear q0 q1 q2 q3 HB4
      go_split_ands
      generalize ((w4.alloc (.cells #[.int .u64 s0, .int .u64 s1, .int .u64 s2, .int .u64 s3] 46)).alloc (.cells #[.int .u64 s0, .int .u64 s1, .int .u64 s2, .int .u64 s3] 46)).drew = w7 at HB7 ⊢
      have hno : xb ≠ xc → alikeB l b c = false := fun hne => by
        unfold alikeB
        rw [List.all_eq_false]
        refine ⟨_, HQE.out.2, ?_⟩
        show ¬ (hasB s0 s1 s2 s3 b == hasB s0 s1 s2 s3 c) = true
        rw [← HX.out.1, ← HX.out.2]
        simpa using hne
      have hyes : xb = xc → ∀ j, j < k + 1 → hasB (l.getD j ⟨0, 0, 0, 0⟩).a (l.getD j ⟨0, 0, 0, 0⟩).b (l.getD j ⟨0, 0, 0, 0⟩).c (l.getD j ⟨0, 0, 0, 0⟩).d b = hasB (l.getD j ⟨0, 0, 0, 0⟩).a (l.getD j ⟨0, 0, 0, 0⟩).b (l.getD j ⟨0, 0, 0, 0⟩).c (l.getD j ⟨0, 0, 0, 0⟩).d c := fun he j hj => by
        by_cases e : j < k
        · exact HQ.out j e
        · obtain rfl : j = k := by omega
          rw [← HQE.out.1]
          show hasB s0 s1 s2 s3 b = hasB s0 s1 s2 s3 c
          rw [← HX.out.1, ← HX.out.2]; exact he
      have HNO := Lib.hid hno
      have HYES := Lib.hid hyes
      clear hno hyes
      cases xb <;> cases xc
      · go_wp2_with fail
        go_roundw
        case rel => exact ⟨k + 1, by omega, by go_num, HYES.out rfl, HB7.out⟩
        case measure => simp [intOf]; omega
      · go_wp2_with fail
        go_returns
        exact ⟨by rw [HNO.out (by simp)]; first | rfl | simp, HB7.out⟩
      · go_wp2_with fail
        go_returns
        exact ⟨by rw [HNO.out (by simp)]; first | rfl | simp, HB7.out⟩
      · go_wp2_with fail
        go_roundw
        case rel => exact ⟨k + 1, by omega, by go_num, HYES.out rfl, HB7.out⟩
        case measure => simp [intOf]; omega
    · obtain rfl : k = n := by omega
      have d1 : decide ((k : Int) < (k : Int)) = false := by simp
      go_wp2_with fail
      go_returns
      have hf : alikeB l b c = true := by
        unfold alikeB
        rw [List.all_eq_true]
        intro q hq
        obtain ⟨j, hj, rfl⟩ := List.getElem_of_mem hq
        have := HQ.out j (by rw [← HL.out.1]; exact hj)
        rw [List.getD_eq_getElem?_getD, List.getElem?_eq_getElem hj] at this
        simpa using this
      exact ⟨by rw [hf]; first | rfl | simp, HBE.out⟩
end Go.Proofs.Ytfjhcoeehjephaa
