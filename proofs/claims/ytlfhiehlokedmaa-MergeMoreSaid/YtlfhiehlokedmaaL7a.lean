/- MergeMore: the merges, and one more. -/
import Derived.Test.YtlfhiehlokedmaaKPlain
import Derived.Test.YtlfhiehlokedmaaApp
import Derived.Laws.RangeString
namespace Go.Proofs.Ytlfhiehlokedmaa
open Go.RowKit

def pairsV (l : List (Int × Int)) : List Value := l.flatMap fun p => [.int .i64 p.1, .int .i64 p.2]
theorem length_pairsV : ∀ l : List (Int × Int), (pairsV l).length = l.length * 2
  | [] => rfl
  | p :: l => by
    have := length_pairsV l
    simp only [pairsV, List.flatMap_cons, List.length_append, List.length_cons, List.length_nil] at this ⊢
    omega
theorem pairsV_get : ∀ (l : List (Int × Int)) (k j : Nat), k < l.length → j < 2 → (pairsV l)[k * 2 + j]? = some (PairC l k j)
  | p :: l, 0, j, _, hj => by
    match j, hj with
    | 0, _ => simp [pairsV, PairC]
    | 1, _ => simp [pairsV, PairC]
  | p :: l, k + 1, j, hk, hj => by
    have ih := pairsV_get l k j (by simpa using hk) hj
    have e : pairsV (p :: l) = [.int .i64 p.1, .int .i64 p.2] ++ pairsV l := by simp [pairsV]
    rw [e, show (k + 1) * 2 + j = 2 + (k * 2 + j) by omega, List.getElem?_append_right (by simp), show 2 + (k * 2 + j) - [Value.int .i64 p.1, .int .i64 p.2].length = k * 2 + j by simp, ih]
    simp [PairC]
theorem pairsV_snoc (l : List (Int × Int)) (p : Int × Int) : pairsV (l ++ [p]) = pairsV l ++ [.int .i64 p.1, .int .i64 p.2] := by simp [pairsV, List.flatMap_append]
theorem pairsV_one (l : List (Int × Int)) : ∀ u ∈ pairsV l, u.oneCell' = true := by
  intro u hu
  simp only [pairsV, List.mem_flatMap] at hu
  obtain ⟨p, _, hp⟩ := hu
  simp at hp
  rcases hp with rfl | rfl <;> rfl

theorem add_eq (b off j : Nat) : (⟨b, off, none⟩ : Addr).add j = ⟨b, off + j, none⟩ := by unfold Addr.add; split <;> simp_all

theorem pairs_news {w : World} {B n : Nat} {A : Option Addr} {l : List (Int × Int)} (h : Arr w B 2 A n (PairC l)) (hl : l.length = n) : ∀ ad, A = some ad → ∀ j u, (pairsV l)[j]? = some u → w.cell? (ad.add j) = some u := by
  rintro ad rfl j u hj
  have hjl : j < (pairsV l).length := by
    rcases Nat.lt_or_ge j (pairsV l).length with h | h
    · exact h
    · rw [List.getElem?_eq_none h] at hj; cases hj
  rw [length_pairsV] at hjl
  obtain ⟨b, off, e, _, hc⟩ := h (by omega)
  obtain rfl : ad = ⟨b, off, none⟩ := by injection e
  rw [add_eq, show j = j / 2 * 2 + j % 2 by omega, hc (j / 2) (j % 2) (by omega) (by omega)]
  rw [show j = j / 2 * 2 + j % 2 by omega, pairsV_get l _ _ (by omega) (by omega)] at hj
  exact hj

theorem own_pairs {w : World} {base : Nat} {v : Value} {n : Nat} {l : List (Int × Int)} {e : TypeId} (h : w.ownsRow base e 2 v n (pairsV l)) : l.length = n ∧ ∃ A c, v = .slice A n c ∧ Arr w w.heap.size 2 A n (PairC l) := by
  have hl : l.length = n := by have := h.1; rw [length_pairsV] at this; omega
  obtain ⟨A, c, rfl⟩ := own_form h
  refine ⟨hl, A, c, rfl, fun hn => ?_⟩
  obtain ⟨g, cap, hv, hb, hg⟩ := h.form hn
  simp only [Value.slice.injEq, true_and] at hv
  obtain ⟨rfl, rfl⟩ := hv
  refine ⟨g, 0, rfl, hg, fun k j hk hj => ?_⟩
  have := h.cells (g := g) rfl (k * 2 + j) (PairC l k j) (pairsV_get l k j (by omega) hj)
  rw [add_eq] at this
  exact this

theorem cells_news {w : World} {g : Nat} {a b : Value} (h0 : w.cell? ⟨g, 0, none⟩ = some a) (h1 : w.cell? ⟨g, 1, none⟩ = some b) : ∀ ad, some (⟨g, 0, none⟩ : Addr) = some ad → ∀ j u, [a, b][j]? = some u → w.cell? (ad.add j) = some u := by
  rintro ad e j u hj
  obtain rfl : (⟨g, 0, none⟩ : Addr) = ad := by injection e
  rw [add_eq]
  match j, hj with
  | 0, hj => simp at hj; subst hj; simpa using h0
  | 1, hj => simp at hj; subst hj; simpa using h1

theorem info43 : (Try.prog.info? 43).map (fun i => (i.size, i.bytes)) = some (2, 16) := by kernel_rfl
theorem info43z : (Try.prog.info? 43).bind (fun i => i.zero) = some (.agg #[.int .i64 0, .int .i64 0]) := by kernel_rfl
theorem info43_all : ∃ i, Try.prog.info? 43 = some i ∧ i.zero = some (.agg #[.int .i64 0, .int .i64 0]) ∧ i.size = 2 ∧ i.bytes = 16 := by
  have h1 := info43
  have h2 := info43z
  cases h : Try.prog.info? 43 with
  | none => rw [h] at h1; cases h1
  | some i =>
    rw [h] at h1 h2
    simp at h1 h2
    exact ⟨i, rfl, h2, h1.1, h1.2⟩

theorem next_a (w : World) (ty : TypeId) : (Instr.next (.pointer (some ⟨w.heap.size, 0, none⟩)) true ty).run Try.prog (w.iter ⟨#[97]⟩ 0) = .ok (.tuple #[.bool true, .int .i64 0, .int .i32 97]) (w.iter ⟨#[97]⟩ 1) :=
  run_next_ascii (P := Try.prog) w ⟨#[97]⟩ 0 ty (by decide) (by decide)
theorem next_e (w : World) (ty : TypeId) : (Instr.next (.pointer (some ⟨w.heap.size, 0, none⟩)) true ty).run Try.prog (w.iter ⟨#[97]⟩ 1) = .ok (.tuple #[.bool false]) (w.iter ⟨#[97]⟩ 1) :=
  run_next_end (P := Try.prog) w ⟨#[97]⟩ 1 ty (by decide)
theorem below_iter (w : World) (s : ByteArray) (p : Nat) : Below w.heap.size w (w.iter s p) := (Below.refl _ _).alloc (Nat.le_refl _) _
theorem runes_a (w : World) : Calls Try.prog 27 #[.string ⟨#[97]⟩] w fun e w' => e = .returned (.int .i64 1) ∧ Below w.heap.size w w' := by
  have h1 := next_a w
  have h2 := next_e w
  go_enter Try.func27, Try.ntmps27
  go_wp2
  refine wp_loop_rounds 2 ?_
  rw [rounds_succ]
  go_wp2
  rw [rounds_succ]
  go_wp2
  go_ret
  exact ⟨rfl, below_iter _ _ _⟩
theorem count_a (w : World) : Calls Try.prog 25 #[.string ⟨#[97]⟩] w fun e w' => e = .returned (.int .i64 1) ∧ Below w.heap.size w w' := by
  go_enter Try.func25, Try.ntmps25
  go_wp2_with fail
  refine (runes_a w).mono ?_
  rintro e w' ⟨rfl, hb⟩
  go_wp2_with fail
  go_ret
  exact ⟨rfl, hb⟩
theorem alive_any (w : World) : Calls Try.prog 20 #[] w fun e w' => e = .returned (.bool true) ∧ Below w.heap.size w w' := by
  go_enter Try.func20, Try.ntmps20
  go_wp2_with fail
  refine (count_a w).mono ?_
  rintro e w' ⟨rfl, hb⟩
  go_wp2_with fail
  go_ret
  exact ⟨rfl, hb⟩
end Go.Proofs.Ytlfhiehlokedmaa
