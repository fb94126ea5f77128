/- How numbers are mixed: the program's and the reference's functions give one and the same. -/
import Derived.Test.YtgejpggbmgiocaaProg
import Derived.Test.YtgejpggbmgiocaaBase
import Derived.Laws.BitsAllLaws
import Derived.Laws.BitsLemmas
namespace Go.Proofs.Ytgejpggbmgiocaa
open Go.RowKit

def mixA (s k : Int) : Int := IntKind.u64.wrap (k + IntKind.u64.wrap ((s + 1) * 11400714819323198485))
def mixB (a c m : Int) : Int := IntKind.u64.wrap (bits BinOp.xor IntKind.u64 a (a / c) * m)
def mixC (a c : Int) : Int := bits BinOp.xor IntKind.u64 a (a / c)
def mix (s k : Int) : Int := mixC (mixB (mixB (mixA s k) 1073741824 13787848793156543929) 134217728 10723151780598845931) 2147483648

theorem wrap_u64_bd (x : Int) : 0 ≤ IntKind.u64.wrap x ∧ IntKind.u64.wrap x < 18446744073709551616 := by
  have : IntKind.u64.wrap x = x % 18446744073709551616 := by simp [IntKind.wrap_u64]
  rw [this]
  exact ⟨Int.emod_nonneg _ (by decide), Int.emod_lt_of_pos _ (by decide)⟩
theorem wrap_u64_in (x : Int) (h0 : 0 ≤ x) (h1 : x < 18446744073709551616) : IntKind.u64.wrap x = x := by
  have : IntKind.u64.wrap x = x % 18446744073709551616 := by simp [IntKind.wrap_u64]
  rw [this]
  exact Int.emod_eq_of_lt h0 h1
theorem wrap_tdiv (a c : Int) (h0 : 0 ≤ a) (h1 : a < 18446744073709551616) (hc : 0 < c) : IntKind.u64.wrap (a.tdiv c) = a / c := by
  rw [Int.tdiv_eq_ediv_of_nonneg h0]
  refine wrap_u64_in _ (Int.ediv_nonneg h0 (by omega)) (Int.lt_of_le_of_lt (Int.ediv_le_self _ h0) h1)
theorem mixA_bd (s k : Int) : 0 ≤ mixA s k ∧ mixA s k < 18446744073709551616 := wrap_u64_bd _
theorem mixB_bd (a c m : Int) : 0 ≤ mixB a c m ∧ mixB a c m < 18446744073709551616 := wrap_u64_bd _
theorem mix_bd (s k : Int) : 0 ≤ mix s k ∧ mix s k < 18446744073709551616 := wrap_u64_bd _

theorem ret_u64 {a b : Int} (h : a = b) : Ending.returned (.int .u64 a) = .returned (.int .u64 b) := by rw [h]
set_option maxHeartbeats 400000 in
theorem mix_any (s k : Int) (w : World) (hs0 : 0 ≤ s) (hs1 : s < 4294967296) :
    Calls Try.prog 37 #[.int .u32 s, .int .u64 k] w fun e w' => e = .returned (.int .u64 (mix s k)) ∧ w' = w := by
  go_enter Try.func37, Try.ntmps37
  go_wp2
  go_ret
  exact ⟨ret_u64 rfl, rfl⟩
theorem fold_t (a c : Int) (h0 : 0 ≤ a) (h1 : a < 18446744073709551616) (hc : 0 < c) : bits BinOp.xor IntKind.u64 a (IntKind.u64.wrap (a.tdiv c)) = mixC a c := by
  rw [wrap_tdiv a c h0 h1 hc]; rfl
theorem mix_ref (s k : Int) : mix s k =
   (let a := mixA s k
    let b := IntKind.u64.wrap (bits BinOp.xor IntKind.u64 a (IntKind.u64.wrap (a.tdiv 1073741824)) * 13787848793156543929)
    let c := IntKind.u64.wrap (bits BinOp.xor IntKind.u64 b (IntKind.u64.wrap (b.tdiv 134217728)) * 10723151780598845931)
    bits BinOp.xor IntKind.u64 c (IntKind.u64.wrap (c.tdiv 2147483648))) := by
  have hA := mixA_bd s k
  dsimp only
  rw [wrap_tdiv _ 1073741824 hA.1 hA.2 (by decide)]
  have hB := mixB_bd (mixA s k) 1073741824 13787848793156543929
  have eB : IntKind.u64.wrap (bits BinOp.xor IntKind.u64 (mixA s k) (mixA s k / 1073741824) * 13787848793156543929) = mixB (mixA s k) 1073741824 13787848793156543929 := rfl
  rw [eB, wrap_tdiv _ 134217728 hB.1 hB.2 (by decide)]
  have hC := mixB_bd (mixB (mixA s k) 1073741824 13787848793156543929) 134217728 10723151780598845931
  have eC : IntKind.u64.wrap (bits BinOp.xor IntKind.u64 (mixB (mixA s k) 1073741824 13787848793156543929) (mixB (mixA s k) 1073741824 13787848793156543929 / 134217728) * 10723151780598845931) = mixB (mixB (mixA s k) 1073741824 13787848793156543929) 134217728 10723151780598845931 := rfl
  rw [eC, wrap_tdiv _ 2147483648 hC.1 hC.2 (by decide)]
  rfl
set_option maxHeartbeats 400000 in
theorem rmix_any (s k : Int) (w : World) (hs0 : 0 ≤ s) (hs1 : s < 4294967296) :
    Calls Try.prog 40 #[.int .u32 s, .int .u64 k] w fun e w' => e = .returned (.int .u64 (mix s k)) ∧ w' = w := by
  have HR := Lib.hid (mix_ref s k)
  go_enter Try.func40, Try.ntmps40
  go_wp2
  go_ret
  rw [HR.out]
  exact ⟨ret_u64 rfl, rfl⟩
end Go.Proofs.Ytgejpggbmgiocaa
