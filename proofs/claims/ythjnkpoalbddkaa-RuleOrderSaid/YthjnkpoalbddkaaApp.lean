/- An append at a step of a region that draws its order; rows of the call's own with what lies below them. -/
import Derived.Test.YthjnkpoalbddkaaBase
import Derived.Deep.RegionLaw
namespace Go.Proofs.Ythjnkpoalbddkaa
open Go.RowKit

/-- a row of the call's own, in a world that is as w0 was below base -/
structure OwnB (base : Nat) (w0 w : World) (e : TypeId) (size : Nat) (v : Value) (n : Nat) (xs : List Value) : Prop where
  own : w.ownsRow base e size v n xs
  below : Below base w0 w
  base : base ≤ w.heap.size

section
variable {base : Nat} {w0 w : World} {e : TypeId} {size : Nat} {v : Value} {n : Nat} {xs : List Value}
theorem OwnB.alloc (h : OwnB base w0 w e size v n xs) (o : Obj) : OwnB base w0 (w.alloc o) e size v n xs := ⟨h.own.alloc o, h.below.alloc h.base o, by have := h.base; simp; omega⟩
theorem OwnB.drew (h : OwnB base w0 w e size v n xs) : OwnB base w0 w.drew e size v n xs := ⟨h.own.drew, h.below.drew, h.base⟩
theorem OwnB.nil (h : Below base w0 w) (hb : base ≤ w.heap.size) : OwnB base w0 w e size (.slice none 0 0) 0 [] := ⟨World.ownsRow_nil _ _ _ _, h, hb⟩
theorem OwnB.made (h : Below base w0 w) (hb : base ≤ w.heap.size) : OwnB base w0 (w.alloc (.cells #[] e)) e size (.slice (some ⟨w.heap.size, 0, none⟩) 0 0) 0 [] :=
  ⟨World.ownsRow_made w #[] 0 hb (by simp [maxLen]) (by simp), h.alloc hb _, by simp; omega⟩
end

/-- 'append(v, x...)' at a step of a region that draws -/
theorem step_app {P : Program} (w : World) {ops : Array Oper} {o : Oper} {a : Act} {K : Act → World → Prop} {Q : Exit → Act → World → Prop} {E : Prop} (hgd : o.guard = none) (s x : Operand) (t : TypeId)
    (ho : o.op = .call { callee := .builtin .append, args := #[s, x], argTypes := #[t, t] })
    (base : Nat) (e : TypeId) (i : TypeInfo) (z : Value) (size bytes : Nat) (ht : P.underlying t = some (.slice e)) (hi : P.info? e = some i) (hz : i.zero = some z)
    (hsize : i.size = size) (hby : i.bytes = bytes) (hzs : z.cells.size = size) (hsz : 0 < size)
    (w0 : World) (v : Value) (n : Nat) (xs : List Value) (hs : a.eval s = v) (hown : OwnB base w0 w e size v n xs)
    (A : Option Addr) (m c : Nat) (news : List Value) (hx : a.eval x = .slice A m c) (hl : news.length = m * size) (hA : A = none → m = 0 ∧ c = 0)
    (hnews : ∀ ad, A = some ad → ∀ j u, news[j]? = some u → w.cell? (ad.add j) = some u) (h1 : ∀ u ∈ news, u.oneCell' = true)
    (h63 : n + m ≤ maxLen) (hbytes : (n + m) * bytes ≤ 140737488355328)
    (h : ∀ v' w', OwnB base w0 w' e size v' (n + m) (xs ++ news) → w.grownBy w' v.ownBlock → K (a.put o.dst v') w') :
    if Region.wanted o (yielded ops a.tmps) = true then Oper.wp P o a w K Q else E := by
  have hw : Region.wanted o (yielded ops a.tmps) = true := by simp [Region.wanted, hgd]
  rw [if_pos hw]
  cases A with
  | none =>
    obtain ⟨rfl, rfl⟩ := hA rfl
    obtain rfl : news = [] := List.eq_nil_of_length_eq_zero (by simpa using hl)
    have hrun := run_append_owned_none (P := P) (w := w) base t o.type e i size ht hi v n xs hown.own
    have hK := h v w (by simpa using hown) ⟨rfl, rfl, rfl, Nat.le_refl _, fun _ _ _ => rfl⟩
    unfold Oper.wp
    simp [execOp, ho, resolve, invoke, builtin, hs, hx, hrun, Result.andThen]
    exact hK
  | some ad =>
    refine wp_append_own w s x t ho base e i z size bytes ht hi hz hsize hby hzs hsz v n xs hs hown.own ad m c news hx hl (hnews ad rfl) h1 h63 hbytes hown.base ?_
    intro v' w' h2 h3 _
    exact h v' w' ⟨h2, hown.below.grown h3 hown.base (fun k hk => (hown.own.lt k hk).1), Nat.le_trans hown.base h3.size⟩ h3

/-- the same in a list of operations -/
theorem wpList_appA {P : Program} (w : World) {ops : Array Oper} {rest : List Oper} {o : Oper} {a : Act} {Q : Exit → Act → World → Prop} (hgd : o.guard = none) (s x : Operand) (t : TypeId)
    (ho : o.op = .call { callee := .builtin .append, args := #[s, x], argTypes := #[t, t] })
    (base : Nat) (e : TypeId) (i : TypeInfo) (z : Value) (size bytes : Nat) (ht : P.underlying t = some (.slice e)) (hi : P.info? e = some i) (hz : i.zero = some z)
    (hsize : i.size = size) (hby : i.bytes = bytes) (hzs : z.cells.size = size) (hsz : 0 < size)
    (w0 : World) (v : Value) (n : Nat) (xs : List Value) (hs : a.eval s = v) (hown : OwnB base w0 w e size v n xs)
    (A : Option Addr) (m c : Nat) (news : List Value) (hx : a.eval x = .slice A m c) (hl : news.length = m * size) (hA : A = none → m = 0 ∧ c = 0)
    (hnews : ∀ ad, A = some ad → ∀ j u, news[j]? = some u → w.cell? (ad.add j) = some u) (h1 : ∀ u ∈ news, u.oneCell' = true)
    (h63 : n + m ≤ maxLen) (hbytes : (n + m) * bytes ≤ 140737488355328)
    (h : ∀ v' w', OwnB base w0 w' e size v' (n + m) (xs ++ news) → w.grownBy w' v.ownBlock → wpList P ops Q rest (a.put o.dst v') w') :
    wpList P ops Q (o :: rest) a w := by
  cases A with
  | none =>
    refine wpList_plain hgd fun K' hK' => ?_
    obtain ⟨rfl, rfl⟩ := hA rfl
    obtain rfl : news = [] := List.eq_nil_of_length_eq_zero (by simpa using hl)
    have hrun := run_append_owned_none (P := P) (w := w) base t o.type e i size ht hi v n xs hown.own
    have hK := h v w (by simpa using hown) ⟨rfl, rfl, rfl, Nat.le_refl _, fun _ _ _ => rfl⟩
    unfold Oper.wp
    simp [execOp, ho, resolve, invoke, builtin, hs, hx, hrun, Result.andThen]
    exact hK' _ _ hK
  | some ad =>
    refine wpList_append_own w hgd s x t ho base e i z size bytes ht hi hz hsize hby hzs hsz v n xs hs hown.own ad m c news hx hl (hnews ad rfl) h1 h63 hbytes hown.base ?_
    intro v' w' h2 h3 _
    exact h v' w' ⟨h2, hown.below.grown h3 hown.base (fun k hk => (hown.own.lt k hk).1), Nat.le_trans hown.base h3.size⟩ h3
end Go.Proofs.Ythjnkpoalbddkaa
