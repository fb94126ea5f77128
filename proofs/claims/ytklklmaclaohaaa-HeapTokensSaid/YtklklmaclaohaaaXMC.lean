/- The shelf's Clone and Delete at ids, in this seat's words; a look-up in the map of ranks. -/
import Derived.Test.YtklklmaclaohaaaKey
import Derived.Test.YtklklmaclaohaaaXRA
import Derived.Test.YtklklmaclaohaaaShelf
import Derived.Lib.OwnBridge
namespace Go.Proofs.Ytklklmaclaohaaa.R13
open Go.RowKit Go.Maps Go.WideMaps

theorem clone_any (A : Option Addr) (n c : Nat) (ids : List Int) (w : World) (hi : ids.length = n) (hn : n ≤ 1099511627776) (h : Arr w w.heap.size 1 A n (IntC ids)) :
    Calls Try.prog 39 #[.slice A n c] w fun e w' => ∃ v, e = .returned v ∧ w'.ownsRow w.heap.size 3 1 v n (intsV ids) ∧ Below w.heap.size w w' := by
  cases A with
  | none =>
    have h0 : n = 0 := by
      by_cases h0 : n = 0
      · exact h0
      · obtain ⟨_, _, e, _⟩ := h (by omega); cases e
    subst h0
    obtain rfl : ids = [] := List.eq_nil_of_length_eq_zero hi
    refine (Try.slices_Clone_int_nil 0 c w).mono ?_
    rintro e w' ⟨rfl, rfl⟩
    exact ⟨_, rfl, World.ownsRow_nil _ _ _ _, Below.refl _ _⟩
  | some a =>
    by_cases h0 : n = 0
    · subst h0
      obtain rfl : ids = [] := List.eq_nil_of_length_eq_zero hi
      refine (Try.slices_Clone_int_zero a c w).mono ?_
      rintro e w' ⟨v, rfl, h1, _, h3⟩
      exact ⟨_, rfl, h1, h3⟩
    · obtain ⟨b, off, e, _, hc⟩ := h (by omega)
      obtain rfl : a = ⟨b, off, none⟩ := by injection e
      refine (Try.slices_Clone_int b off n c ids w (by omega) (by omega) (fun j hj => ?_)).mono ?_
      · have := hc j 0 (by omega) (by omega)
        simpa [IntC] using this
      · rintro e w' ⟨v, rfl, h1, _, h3⟩
        refine ⟨_, rfl, ?_, h3⟩
        rw [List.take_of_length_le (by omega)] at h1
        exact h1

theorem delete_any (base g m cap t : Nat) (zs : List Int) (w : World) (ht : t + 1 < m) (h : w.ownsRow base 3 1 (.slice (some ⟨g, 0, none⟩) m cap) m (intsV zs)) :
    Calls Try.prog 40 #[.slice (some ⟨g, 0, none⟩) m cap, .int .i64 ((t : Int) + 1), .int .i64 ((t : Int) + 2)] w fun e w' => ∃ v, e = .returned v ∧ w'.ownsRow base 3 1 v (m - 1) (intsV (zs.take (t + 1) ++ zs.drop (t + 2))) ∧ w.grownBy w' (some g) ∧ sliceLen v = m - 1 := by
  obtain ⟨g', cap', e, hb, hg, hmc, hcm, hl, hH⟩ := Lib.holds_of_ownsRow (enc := Value.int .i64) (zs := zs) h (by simp)
  simp only [Value.slice.injEq, Option.some.injEq, Addr.mk.injEq, and_true, true_and] at e
  obtain ⟨rfl, rfl⟩ := e
  have hC := Try.slices_Delete_int g 0 cap (t + 1) (t + 2) zs w hH (by omega) (by simpa [maxLen] using hcm) (by omega) (by omega)
  rw [hl] at hC
  refine Calls.mono hC ?_
  rintro e w' ⟨rfl, q, rfl⟩
  have hlen : (zs.take (t + 1) ++ zs.drop (t + 2) ++ List.replicate (t + 2 - (t + 1)) 0).length = m := by simp; omega
  have h2 := Lib.ownsRow_putRow (q := q) (k := m - 1) h hlen (by omega)
  have hk : (zs.take (t + 1) ++ zs.drop (t + 2) ++ List.replicate (t + 2 - (t + 1)) 0).take (m - 1) = zs.take (t + 1) ++ zs.drop (t + 2) := by
    rw [List.take_append_of_le_length (by simp; omega)]
    exact List.take_of_length_le (by simp; omega)
  rw [hk] at h2
  refine ⟨_, rfl, ?_, ⟨rfl, rfl, rfl, by simp [Sort.putRow, Sort.mapBlock, Sort.ahead], fun k _ hk => ?_⟩, by simp [sliceLen]⟩
  · have : m - (t + 2 - (t + 1)) = m - 1 := by omega
    rw [this]
    exact h2
  · simp [Sort.putRow, Sort.mapBlock, Sort.ahead, Array.getElem?_modify, show g ≠ k from fun e => hk (by rw [e])]

theorem below_by {B : Nat} {w0 w w' : World} {g : Nat} (h : Below B w0 w) (hB : B ≤ w.heap.size) (hg : w.grownBy w' (some g)) (hb : B ≤ g) : Below B w0 w' :=
  h.grown hg hB (fun k hk => by cases hk; exact hb)

theorem map_keep {H : Type} {P : Program} {k : TypeId} {R : Value → Option (DataW H × List MemPlace)} {w w' : World} {b n : Nat} {D : DataW H} {B : Nat} (h : w.ownsMap P k R b n D) (hb : Below B w w') (hB : w.heap.size ≤ B) : w'.ownsMap P k R b n D :=
  h.kept (row := none) ⟨hb.os, hb.tape, hb.output, hb.size, fun k hk _ => hb.block k (by omega)⟩ (by simp)

theorem set_take_drop (out : List Int) (b t : Nat) (h : t + 1 < out.length) : (out.set t (256 + (b : Int))).take (t + 1) ++ (out.set t (256 + (b : Int))).drop (t + 2) = merged out b t := by
  rw [merged, List.take_succ_eq_append_getElem (by simp; omega), List.drop_set_of_lt (by omega)]
  simp only [List.take_set]
  rw [List.set_eq_of_length_le (by simp; omega)]
  simp

theorem intsV_set (l : List Int) (t : Nat) (x : Int) : (intsV l).set t (.int .i64 x) = intsV (l.set t x) := by simp [intsV, List.map_set]

/-- 'r, ok := ranks[m]' at the operation -/
theorem wpList_lookup_ranks (w : World) {ops : Array Oper} {rest : List Oper} {o : Oper} {a : Act} {Q : Exit → Act → World → Prop}
    (hgd : o.guard = none) (m x : Operand) (hop : o.op = Op.lookup 46 m x true) (g n : Nat) (D : DataW Unit) (F : Int → Int → Option Nat) (hm : a.eval m = .map (some g))
    (hown : w.ownsMap Try.prog 58 (plainElem Try.prog 3) g n D) (hR : Ranks D F) (p q : Int) (hp : I64 p) (hq : I64 q) (hx : a.eval x = .agg #[.int .i64 p, .int .i64 q])
    (iv : Int) (ok : Bool) (hiv : (match F p q with | some k => (k : Int) | none => 0) = iv) (hok : (F p q).isSome = ok)
    (h : wpList Try.prog ops Q rest (a.put o.dst (.tuple #[.int .i64 iv, .bool ok])) w) :
    wpList Try.prog ops Q (o :: rest) a w := by
  refine wpList_plain hgd fun K' hK' => ?_
  have hrun : (Instr.lookup 46 (.map (some g)) (.agg #[.int .i64 p, .int .i64 q]) true).run Try.prog w = .ok (.tuple #[.int .i64 iv, .bool ok]) w := by
    rw [← hiv, ← hok]
    exact ranks_lookup hown hR p q hp hq
  unfold Oper.wp
  simp [execOp, hop, hm, hx, hrun, Result.andThen]
  exact hK' _ _ h
end Go.Proofs.Ytklklmaclaohaaa.R13
