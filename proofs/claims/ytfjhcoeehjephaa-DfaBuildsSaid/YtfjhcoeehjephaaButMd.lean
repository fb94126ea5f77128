/- All elder blocks but some are as they were. -/
import Derived.Test.YtfjhcoeehjephaaClsMd
import Derived.Test.YtfjhcoeehjephaaFrDMd
import Derived.Maps.OwnSet
namespace Go.Proofs.Ytfjhcoeehjephaa
open Go.RowKit Go.Maps Go.WideMaps
/-- all elder blocks but those in S are as they were -/
structure But (S : Nat → Prop) (w w' : World) : Prop where
  os : w'.os = w.os
  tape : w'.tape = w.tape
  output : w'.output = w.output
  size : w.heap.size ≤ w'.heap.size
  block : ∀ k, k < w.heap.size → ¬ S k → w'.heap[k]? = w.heap[k]?
section
variable {S S' : Nat → Prop} {w w1 w2 : World}
theorem But.refl (S : Nat → Prop) (w : World) : But S w w := ⟨rfl, rfl, rfl, Nat.le_refl _, fun _ _ _ => rfl⟩
theorem But.trans (h : But S w w1) (h2 : But S' w1 w2) (hs : ∀ k, k < w.heap.size → S' k → S k) : But S w w2 :=
  ⟨h2.os.trans h.os, h2.tape.trans h.tape, h2.output.trans h.output, Nat.le_trans h.size h2.size, fun k hk hn =>
    (h2.block k (Nat.lt_of_lt_of_le hk h.size) (fun e => hn (hs k hk e))).trans (h.block k hk hn)⟩
theorem But.of_grown {row : Option Nat} (h : w.grownBy w1 row) : But (fun k => row = some k) w w1 :=
  ⟨h.os, h.tape, h.output, h.size, fun k hk hn => h.block k hk (fun e => hn e.symm)⟩
theorem But.of_below {B : Nat} (h : Below B w w1) : But (fun k => B ≤ k) w w1 :=
  ⟨h.os, h.tape, h.output, h.size, fun k _ hn => h.block k (by omega)⟩
theorem But.below {B : Nat} (h : But S w w1) (hB : B ≤ w.heap.size) (hs : ∀ k, S k → B ≤ k) : Below B w w1 :=
  ⟨h.os, h.tape, h.output, h.size, fun k hk => h.block k (by omega) (fun e => by have := hs k e; omega)⟩
theorem But.mono (h : But S w w1) (hs : ∀ k, k < w.heap.size → S k → S' k) : But S' w w1 :=
  ⟨h.os, h.tape, h.output, h.size, fun k hk hn => h.block k hk (fun e => hn (hs k hk e))⟩
theorem But.blk {g : Nat} {t : TypeId} {cur : List Value} (h : But S w w1) (hb : Blk w g t cur) (hn : ¬ S g) : Blk w1 g t cur := (h.block g hb.lt hn).trans hb
theorem But.own {base size n : Nat} {e : TypeId} {v : Value} {xs : List Value} (h : But S w w1) (ho : w.ownsRow base e size v n xs) (hn : ∀ k, v.ownBlock = some k → ¬ S k) : w1.ownsRow base e size v n xs :=
  own_move ho (fun k _ e h9 _ => (h.block k (ho.lt k e).2 (hn k e)).trans h9)
end
theorem own_nilA {w : World} {base size n c : Nat} {e : TypeId} {A : Option Addr} {xs : List Value} (h : w.ownsRow base e size (.slice A n c) n xs) : A = none → n = 0 ∧ c = 0 := fun hA => by
  rcases h.2 with ⟨h1, h2⟩ | ⟨g, cap, cur, hv, _⟩
  · injection h1 with h3 h4 h5
    exact ⟨h2, h5⟩
  · injection hv with h3
    rw [hA] at h3
    cases h3
theorem But.maps {S : Nat → Prop} {w w1 : World} {P : Program} {kt : TypeId} {R : Value → Option (DataW Unit × List MemPlace)} {g k : Nat} {D : DataW Unit} (h : But S w w1) (hm : w.ownsMap P kt R g k D) (hn : ¬ S g) : w1.ownsMap P kt R g k D := by
  have hlt := hm.lt
  obtain ⟨es, c, h1, h2⟩ := hm
  exact ⟨es, c, (h.block g hlt hn).trans h1, h2⟩
/-! Blocks of other kinds are other blocks. -/
theorem blk_ne {W : World} {g g' : Nat} {t t' : TypeId} {cur cur' : List Value} (h : Blk W g t cur) (h' : Blk W g' t' cur') (hne : t ≠ t') : g ≠ g' := fun e => by
  subst e
  have := h.symm.trans h'
  injection this with this
  injection this with _ h2
  exact hne h2
theorem blk_own_ne {W : World} {g : Nat} {t e : TypeId} {cur : List Value} {base size n : Nat} {v : Value} {xs : List Value} (h : Blk W g t cur) (ho : W.ownsRow base e size v n xs) (hne : t ≠ e) : v.ownBlock ≠ some g := fun hv => by
  rcases ho.2 with ⟨rfl, _⟩ | ⟨g', cap, cur', rfl, _, hg, _⟩
  · cases hv
  · injection hv with hv
    simp only at hv
    subst hv
    have := h.symm.trans hg
    injection this with this
    injection this with _ h2
    exact hne h2
theorem own_own_ne {W : World} {e e' : TypeId} {base size n base' size' n' : Nat} {v v' : Value} {xs xs' : List Value} (h : W.ownsRow base e size v n xs) (h' : W.ownsRow base' e' size' v' n' xs') (hne : e ≠ e') : ∀ k, v.ownBlock = some k → v'.ownBlock ≠ some k := fun k hk => by
  rcases h.2 with ⟨rfl, _⟩ | ⟨g, cap, cur, rfl, _, hg, _⟩
  · cases hk
  · injection hk with hk
    simp only at hk
    subst hk
    exact blk_own_ne (cur := cur.toList) (show W.heap[g]? = some (.cells cur.toList.toArray e (0, 0)) by simpa using hg) h' hne
theorem map_blk_ne {W : World} {P : Program} {kt : TypeId} {R : Value → Option (DataW Unit × List MemPlace)} {g k g' : Nat} {D : DataW Unit} {t : TypeId} {cur : List Value} (hm : W.ownsMap P kt R g k D) (h : Blk W g' t cur) : g ≠ g' := fun e => by
  subst e
  obtain ⟨es, c, h1, _⟩ := hm
  have := h1.symm.trans h
  injection this with this
  cases this
theorem map_own_ne {W : World} {P : Program} {kt : TypeId} {R : Value → Option (DataW Unit × List MemPlace)} {g k : Nat} {D : DataW Unit} {e : TypeId} {base size n : Nat} {v : Value} {xs : List Value} (hm : W.ownsMap P kt R g k D) (ho : W.ownsRow base e size v n xs) : v.ownBlock ≠ some g := fun hv => by
  rcases ho.2 with ⟨rfl, _⟩ | ⟨g', cap, cur', rfl, _, hg, _⟩
  · cases hv
  · injection hv with hv
    simp only at hv
    subst hv
    exact map_blk_ne hm (g' := g') (cur := cur'.toList) (t := e) (show W.heap[g']? = some (.cells cur'.toList.toArray e (0, 0)) by simpa using hg) rfl
end Go.Proofs.Ytfjhcoeehjephaa
