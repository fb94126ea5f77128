/- NfaJoins: rows of marks; mark and same. -/
import Derived.Test.YtpeoomdfopjlmaaLNT
namespace Go.Proofs.Ytpeoomdfopjlmaa
open Go.RowKit
attribute [local go_sem ↓] Go.wp_at_zero Go.wp_at_succ

def rowB (X : Nat → Bool) (L : Nat) : List Value := (List.range L).map (fun k => .bool (X k))
theorem rowB_len (X : Nat → Bool) (L : Nat) : (rowB X L).length = L := by simp [rowB]
theorem rowB_get (X : Nat → Bool) {L k : Nat} (h : k < L) : (rowB X L)[k]? = some (.bool (X k)) := by simp [rowB, h]
theorem rowB_set (X : Nat → Bool) (L i : Nat) (b : Bool) : (rowB X L).set i (.bool b) = rowB (updB X i b) L := by
  apply List.ext_getElem?
  intro j
  rw [List.getElem?_set]
  by_cases h : j < L
  · rw [rowB_get _ h]
    by_cases e : i = j
    · subst e
      rw [if_pos rfl, rowB_len, if_pos h, rowB_get _ h]
      unfold updB
      rw [if_pos rfl]
    · rw [if_neg e, rowB_get _ h]
      unfold updB
      rw [if_neg (fun h => e h.symm)]
  · have h1 : (rowB X L)[j]? = none := List.getElem?_eq_none (by rw [rowB_len]; omega)
    have h2 : (rowB (updB X i b) L)[j]? = none := List.getElem?_eq_none (by rw [rowB_len]; omega)
    rw [h2]
    by_cases e : i = j
    · rw [if_pos e, rowB_len, if_neg (by omega)]
    · rw [if_neg e, h1]
theorem rowB_zero (L : Nat) : (Array.replicate L (Value.bool false)) = (rowB (fun _ => false) L).toArray := by
  apply Array.ext
  · simp [rowB]
  · intro i h1 h2
    simp [rowB]
theorem blk_madeB (w : World) (L : Nat) : Blk (w.alloc (.cells (Array.replicate L (.bool false)) 4)) w.heap.size 4 (rowB (fun _ => false) L) := by
  have := Blk.new w 4 (rowB (fun _ => false) L)
  rw [← rowB_zero] at this
  exact this
theorem Blk.putB {w : World} {g L : Nat} {O : Nat → Bool} (h : Blk w g 4 (rowB O L)) (k : Nat) (b : Bool) : Blk (w.setCell ⟨g, k, none⟩ (.bool b)) g 4 (rowB (updB O k b) L) := by
  rw [← rowB_set]; exact h.set k _

set_option maxRecDepth 100000 in
theorem mark_any (g L q gk : Nat) (O : Nat → Bool) (w : World) (h : Blk w g 4 (rowB O L)) (hq : q < L) :
    Calls Try.prog 15 #[.slice (some ⟨g, 0, none⟩) L L, .int .i64 (q : Int), .pointer (some ⟨gk, 0, none⟩)] w fun e w' => e = .returned (.tuple #[]) ∧ w' = w.setCell ⟨g, q, none⟩ (.bool true) := by
  have c0 := h.cell q
  rw [rowB_get _ hq] at c0
  have c1 := h.frozen q
  have d1 : decide ((q : Int) < 0) = false := by simp
  have d2 : decide ((L : Int) ≤ (q : Int)) = false := by simp; omega
  have d3 : decide (L ≤ q) = false := by simp; omega
  clear h
  go_enter Try.func15, Try.ntmps15
  go_wp2_with fail
  go_returns
  exact ⟨by first | rfl | simp, by first | rfl | trivial⟩

set_option maxRecDepth 100000 in
set_option maxHeartbeats 16000000 in
theorem same_any (A : Option Addr) (n c g L : Nat) (O : Nat → Bool) (l : List Int) (w : World) (hn : n = l.length) (hl : l = outsTo O 0 L) (h : Arr w w.heap.size 1 A n (NumC .i64 l)) (hb : Blk w g 4 (rowB O L)) (hL : L ≤ 1001) :
    Calls Try.prog 16 #[.slice A n c, .slice (some ⟨g, 0, none⟩) L L] w fun e w' => e = .returned (.bool true) ∧ Below w.heap.size w w' := by
  obtain ⟨i3, hi3, hz3, hsz3, hbt3⟩ := info_parts info3
  have HN := Lib.hid hn
  have HL := Lib.hid hl
  have HA := Lib.hid h
  have HB := Lib.hid hb
  clear hn hl h hb
  go_enter Try.func16, Try.ntmps16
  go_upto_region 3 with (fail)
  go_loopw [5, 10] (fun ov iv wr => ∃ k, k ≤ L ∧ iv = .int .i64 (k : Int) ∧ wr.ownsRow w.heap.size 3 1 ov (outsTo O 0 k).length (numsV .i64 (outsTo O 0 k)) ∧ Below w.heap.size w wr) (fun _ iv _ => L - (intOf iv).toNat)
  case atStart => exact ⟨0, by omega, rfl, ⟨by simp [outsTo, numsV], .inl ⟨rfl, rfl⟩⟩, Below.refl _ _⟩
  case round =>
    obtain ⟨k, hk, rfl, hown, hbl⟩ := hrel
    obtain ⟨w3, rfl⟩ : ∃ w3 : World, w3 = wr := ⟨_, rfl⟩
    obtain ⟨v, rfl⟩ : ∃ v : Value, v = u5 := ⟨_, rfl⟩
    have HQ := Lib.hid (And.intro hown hbl)
    by_cases hlt : k < L
    · have c0 := (HB.out.below hbl HB.out.lt).cell k
      rw [rowB_get _ hlt] at c0
      have hnx := outsTo_next O 0 k
      rw [Nat.zero_add] at hnx
      obtain ⟨out, hout⟩ : ∃ out, out = outsTo O 0 k := ⟨_, rfl⟩
      have hol : out.length ≤ 1001 := by have := outsTo_len O 0 k; rw [hout]; omega
      obtain ⟨ok, hok⟩ : ∃ ok, ok = O k := ⟨_, rfl⟩
      rw [← hok] at c0 hnx
      rw [← hout] at hnx
      have ho2 := HQ.out.1
      rw [← hout] at ho2
      have HO2 := Lib.hid ho2
      have HNX := Lib.hid hnx
      have hszl := hbl.size
      clear hown hbl hok hnx ho2
      cases ok
      · go_wp2_with fail
        go_roundw
        case rel =>
          refine ⟨k + 1, by omega, by go_num, ?_, HQ.out.2⟩
          have := HNX.out
          rw [if_neg (by decide)] at this
          rw [this]; exact HO2.out
        case measure => simp [intOf]; omega
      · have hcn := cell_one_new w3 (.int .i64 (k : Int)) 3
        go_wp2_with (at_builtin; (refine wpList_append_lies _ rfl _ _ 39 rfl w.heap.size 3 i3 (.int .i64 0) 1 8 Try.underlying39 hi3 hz3 hsz3 hbt3 rfl (by decide) v _ _ rfl (HO2.out.alloc _) ⟨w3.heap.size, 0, none⟩ 1 1 [.int .i64 (k : Int)] rfl rfl hcn (by simp [Value.oneCell']) (by omega) (by unfold maxLen; omega) (by omega) (by simp; omega) _ rfl ?_; intro g5 c5 w5 hown5 hgrow5 hat5 _))
        go_roundw
        case rel =>
          refine ⟨k + 1, by omega, by go_num, ?_, (HQ.out.2.alloc HQ.out.2.size _).grown hgrow5 (by simp; omega) (fun b e => (HO2.out.lt b e).1)⟩
          have := HNX.out
          rw [if_pos rfl] at this
          rw [this, List.length_append, numsV_snoc]
          subst hout
          exact hown5
        case measure => simp [intOf]; omega
    · obtain rfl : k = L := by omega
      rw [← HL.out] at hown
      obtain ⟨A2, c2, rfl⟩ := own_sl hown
      have hol : n ≤ 1001 := by have h9 := HN.out; have := outsTo_len O 0 k; rw [← HL.out] at this; omega
      obtain ⟨m, hm⟩ : ∃ m, m = l.length := ⟨_, rfl⟩
      have hnm : n = m := HN.out.trans hm.symm
      have harr := own_num hown
      rw [← hm] at harr ⊢
      subst hnm
      have HIS := Lib.hid (ints_same A A2 n c c2 l w3 (by omega) ((HA.out.below hbl).more hbl.size) harr)
      clear hown hbl harr hm
      go_wp2_with (go_at_call 12; refine HIS.out.mono ?_; rintro e w9 ⟨rfl, mq, rfl⟩)
      go_returns
      exact ⟨by first | rfl | simp, below_drewN HQ.out.2 mq⟩
end Go.Proofs.Ytpeoomdfopjlmaa
