/- dfa.Build of an automaton that may not be. -/
import Derived.Test.YtfjhcoeehjephaaBxMd
import Derived.Test.YtfjhcoeehjephaaLeavingMd
import Derived.Test.YtfjhcoeehjephaaNfaMd
namespace Go.Proofs.Ytfjhcoeehjephaa
open Go.RowKit
attribute [local go_sem ↓] Go.wp_at_zero Go.wp_at_succ
attribute [local go_sem ↓] load_box store_box load_dfa store_dfa build_dfa

set_option maxRecDepth 100000 in
set_option maxHeartbeats 16000000 in
theorem build_w (A : Option Addr) (n c : Nat) (S a z : Int) (E : List Ed) (W : World) (h : NfaIn W A n ⟨S, a, z, E⟩) (hr : ¬ RightN ⟨S, a, z, E⟩) :
    Calls Try.prog 10 #[.agg #[.int .i64 S, .int .i64 a, .int .i64 z, .slice A n c]] W fun e w' => e = .returned (.tuple #[.agg zs30, .int .i64 1]) ∧ Below W.heap.size W w' := by
  have hb0 : Below W.heap.size W ((W.alloc (.cells #[.int .i64 S, .int .i64 a, .int .i64 z, .slice A n c] 24)).alloc (.cells zs30 30)) := ((Below.refl _ _).alloc (Nat.le_refl _) _).alloc (by simp) _
  have hk0 : Blk ((W.alloc (.cells #[.int .i64 S, .int .i64 a, .int .i64 z, .slice A n c] 24)).alloc (.cells zs30 30)) W.heap.size 24 [.int .i64 S, .int .i64 a, .int .i64 z, .slice A n c] := (Blk.new W 24 [.int .i64 S, .int .i64 a, .int .i64 z, .slice A n c]).alloc _
  have hk1 : Blk ((W.alloc (.cells #[.int .i64 S, .int .i64 a, .int .i64 z, .slice A n c] 24)).alloc (.cells zs30 30)) (W.heap.size + 1) 30 (dV (fun _ => 0) (.slice none 0 0) (.slice none 0 0)) := by
    have := Blk.new (W.alloc (.cells #[.int .i64 S, .int .i64 a, .int .i64 z, .slice A n c] 24)) 30 (dV (fun _ => 0) (.slice none 0 0) (.slice none 0 0))
    rw [World.size_alloc] at this
    exact this
  have HIN := Lib.hid (h.keep hb0)
  have HB := Lib.hid hb0
  have HK1 := Lib.hid hk1
  have HNR := Lib.hid (fun w1 h9 => nright_any A n c S a z E w1 h9)
  have HRN := Lib.hid (rightN_no hr)
  have hzV := zeroV30
  have hbd := buildD_nil
  have c0 := hk0.cell 0
  have c1 := hk0.cell 1
  have c2 := hk0.cell 2
  have c3 := hk0.cell 3
  simp only [List.getElem?_cons_zero, List.getElem?_cons_succ] at c0 c1 c2 c3
  clear h hb0 hr hk0 hk1
  go_enter Try.func10, Try.ntmps10
  go_upto_region 2 with (go_at_call 31; refine (HNR.out _ HIN.out).mono ?_; rintro e w1 ⟨rfl, hb1⟩; rw [HRN.out]; have HB1 := Lib.hid hb1; clear hb1)
  clear c0 c1 c2 c3
  have hk1 := HK1.out.below HB1.out HK1.out.lt
  have hst : (storeD (.pointer (some ⟨W.heap.size + 1, 0, none⟩)) (.agg zs30)).run Try.prog w1 = .ok () (w1.setRow (W.heap.size + 1) zs30) := store30 hk1 (dV_len _ _ _) (dV (fun _ => 0) (.slice none 0 0) (.slice none 0 0)) (dV_len _ _ _) (dV_one _ _ _ _ _ _ _)
  have HK2 := Lib.hid (hk1.row zs30)
  have HBW := Lib.hid (below_setRow (HB.out.trans (HB1.out.mono HB.out.size)) (show W.heap.size ≤ W.heap.size + 1 by omega) zs30)
  clear hk1
  go_wp2_with fail
  (try simp only [Exit.inBlock, Exit.then])
  refine bodyPost_ret (res30 rfl rfl rfl HK2.out (dV_len _ _ _)) rfl ?_
  exact ⟨rfl, HBW.out⟩
end Go.Proofs.Ytfjhcoeehjephaa
