/- The reference's Apply. -/
import Derived.Test.YtfjgfabochiflaaTRGrow
import Derived.Test.YtfjgfabochiflaaTApply
namespace Go.Proofs.Ytfjgfabochiflaa.T12
open Go.RowKit

theorem conv_own {w : World} {base n : Nat} {v : Value} {t : Bs} (h : w.ownsRow base 5 1 v n (Lib.byteCells t)) : (convert 65 9 v).run Try.prog w = .ok (.string ⟨t.toArray⟩) w := by
  have hl : t.length = n := by have := h.1; simpa [Lib.byteCells] using this
  rcases h.2 with ⟨rfl, rfl⟩ | ⟨g, cap, cur, rfl, _⟩
  · obtain rfl : t = [] := List.eq_nil_of_length_eq_zero hl
    rw [run_convert_bytes_string w 65 9 5 none 0 0 Try.underlying65 Try.underlying5 Try.underlying9]
    rfl
  · rw [← hl]
    refine run_convert_bytes_back w 65 9 5 ⟨g, 0, none⟩ cap t Try.underlying65 Try.underlying5 Try.underlying9 fun j hj => ?_
    exact h.cells (g := g) rfl j (.int .u8 (t[j].toNat : Int)) (by simp [Lib.byteCells, hj])
theorem own_below {w w' : World} {base : Nat} {e : TypeId} {v : Value} {n : Nat} {xs : List Value} (h : w.ownsRow base e 1 v n xs) (hb : Below w.heap.size w w') : w'.ownsRow base e 1 v n xs :=
  h.kept (row := none) ⟨hb.os, hb.tape, hb.output, hb.size, fun k hk _ => hb.block k hk⟩ (by cases v.ownBlock <;> simp)
theorem box_set2 {w : World} {g : Nat} {a b x y : Value} {T : TypeId} (h : w.heap[g]? = some (.cells #[a, b] T (0, 0))) :
    ((w.setCell ⟨g, 0, none⟩ x).setCell ⟨g, 1, none⟩ y).heap[g]? = some (.cells #[x, y] T (0, 0)) := by
  have h1 := heap_setCell_same w g 0 _ T x h
  have h2 := heap_setCell_same (w.setCell ⟨g, 0, none⟩ x) g 1 _ T y h1
  rw [h2]; rfl

/-- the best of the first k rules at a text's beginning; an empty one: none -/
structure Bst (l : List SR) (rest : Bs) (k : Nat) (bf bt : ByteArray) : Prop where
  most : ∀ a, a < k → (l.getD a noRule).1.data.toList <+: rest → (l.getD a noRule).1.size ≤ bf.size
  one : bf.size = 0 ∨ ∃ j, j < k ∧ bf = (l.getD j noRule).1 ∧ bt = (l.getD j noRule).2 ∧ bf.data.toList <+: rest
theorem Bst.none {l : List SR} {rest : Bs} {n : Nat} {bf bt : ByteArray} (h : Bst l rest n bf bt) (hok : AllOk l) (hl : l.length = n) (h0 : bf.size = 0) : None (rulesOf l) rest := fun r hr hp => by
  obtain ⟨k, hk, rfl⟩ := mem_rulesOf.mp hr
  have h1 := h.most k (by omega) hp
  have h2 := (hok.2 k hk).some
  omega
theorem Bst.best {l : List SR} {rest : Bs} {n : Nat} {bf bt : ByteArray} (h : Bst l rest n bf bt) (hl : l.length = n) (h0 : bf.size ≠ 0) : Best (rulesOf l) rest (bf.data.toList, bt.data.toList) := by
  rcases h.one with h1 | ⟨j, hj, rfl, rfl, hp⟩
  · exact absurd h1 h0
  · exact ⟨mem_rulesOf.mpr ⟨j, by omega, rfl⟩, hp, fun q hq hqp => by
      obtain ⟨k, hk, rfl⟩ := mem_rulesOf.mp hq
      have := h.most k (by omega) hqp
      simp only [size_data]
      exact this⟩
theorem Bst.few {l : List SR} {rest : Bs} {n : Nat} {bf bt : ByteArray} (h : Bst l rest n bf bt) (hok : AllOk l) (hl : l.length = n) (h0 : bf.size ≠ 0) : bt.size ≤ 32 ∧ bf.size ≤ rest.length := by
  rcases h.one with h1 | ⟨j, hj, rfl, rfl, hp⟩
  · exact absurd h1 h0
  · exact ⟨(hok.2 j (by omega)).few2, by have := hp.length_le; rwa [size_data] at this⟩

structure ROut (l : List SR) (s : ByteArray) (w : World) (i : Nat) (out : Bs) (v : Value) (wr : World) : Prop where
  le : i ≤ s.size
  sofar : Sofar (rulesOf l) s.data.toList out (s.data.toList.drop i)
  few : out.length ≤ 32 * i
  own : wr.ownsRow w.heap.size 5 1 v out.length (Lib.byteCells out)
  below : Below w.heap.size w wr

end Go.Proofs.Ytfjgfabochiflaa.T12
