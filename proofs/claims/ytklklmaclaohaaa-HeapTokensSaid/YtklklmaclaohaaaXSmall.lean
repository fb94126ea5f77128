/- Small functions over merges and ids: the contracts. -/
import Derived.Test.YtklklmaclaohaaaXPlain
import Derived.Test.YtklklmaclaohaaaMT
import Derived.Test.YtklklmaclaohaaaEng
import Derived.Test.YtklklmaclaohaaaSm
import Derived.OwnWalk
namespace Go.Proofs.Ytklklmaclaohaaa.R13
open Go.RowKit


theorem rank_any (A : Option Addr) (n c : Nat) (l : List (Int × Int)) (a b : Int) (w : World) (hl : l.length = n) (hn : n ≤ 140737488355328) (h1 : Arr w w.heap.size 2 A n (PairC l)) :
    Calls Try.prog 35 #[.slice A n c, .int .i64 a, .int .i64 b] w fun e w' => e = .returned (.int .i64 (rankI l a b)) ∧ Below w.heap.size w w' := by
  have H1 := Lib.hid h1
  clear h1
  go_enter Try.func35, Try.ntmps35
  go_wp2
  go_loopw [11] (fun i wr => ∃ k : Nat, k ≤ n ∧ i = .int .i64 k ∧ (∀ j, j < k → l.getD j (0, 0) ≠ (a, b)) ∧ Below w.heap.size w wr) (fun i _ => n - (intOf i).toNat)
  case atStart => exact ⟨0, Nat.zero_le _, rfl, fun j hj => absurd hj (by omega), Below.refl _ _⟩
  case round =>
    obtain ⟨k, hk, rfl, hno, hb⟩ := hrel
    have HN := Lib.hid hno
    clear hno
    by_cases hlt : k < n
    · obtain ⟨b1, o1, rfl, _, hc0, hc1⟩ := (H1.out.below hb).two hlt
      simp only [PairC, reduceIte, Nat.succ_ne_zero] at hc0 hc1
      obtain ⟨x, hx⟩ : ∃ x, x = (l.getD k (0, 0)).1 := ⟨_, rfl⟩
      obtain ⟨y, hy⟩ : ∃ y, y = (l.getD k (0, 0)).2 := ⟨_, rfl⟩
      rw [← hx] at hc0
      rw [← hy] at hc1
      have HX := Lib.hid hx
      have HY := Lib.hid hy
      clear hx hy
      by_cases hxa : x = a
      · have hbe : (x == a) = true := by simpa using hxa
        have HXA := Lib.hid hxa
        clear hxa
        by_cases hyb : y = b
        · have hbe2 : (y == b) = true := by simpa using hyb
          have HYB := Lib.hid hyb
          clear hyb
          go_wp2
          go_ret
          refine ⟨ret_int ?_, hb.alloc hb.size _⟩
          have hr : rank l a b = some k := rankTo_some.2 ⟨by omega, Prod.ext (HX.out.symm.trans HXA.out) (HY.out.symm.trans HYB.out), HN.out⟩
          unfold rankI
          rw [hr]
        · have hbe2 : (y == b) = false := by simpa using hyb
          have HYB := Lib.hid hyb
          clear hyb
          go_wp2
          go_roundw
          case rel => exact ⟨k + 1, by omega, by go_num, fun j hj => by
                        by_cases h : j < k
                        · exact HN.out j h
                        · obtain rfl : j = k := by omega
                          intro e; exact HYB.out (by rw [HY.out, e]), hb.alloc hb.size _⟩
          case measure => simp [intOf]; omega
      · have hbe : (x == a) = false := by simpa using hxa
        have HXA := Lib.hid hxa
        clear hxa
        go_wp2
        go_roundw
        case rel => exact ⟨k + 1, by omega, by go_num, fun j hj => by
                      by_cases h : j < k
                      · exact HN.out j h
                      · obtain rfl : j = k := by omega
                        intro e; exact HXA.out (by rw [HX.out, e]), hb.alloc hb.size _⟩
        case measure => simp [intOf]; omega
    · go_wp2
      go_ret
      refine ⟨ret_int ?_, hb⟩
      have hr : rank l a b = none := rankTo_none.2 fun j hj => HN.out j (by omega)
      unfold rankI
      rw [hr]

end Go.Proofs.Ytklklmaclaohaaa.R13
