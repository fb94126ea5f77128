/- nfa.Free. -/
import Derived.Test.YtfjgfabochiflaaItTc
import Derived.Test.YtfjgfabochiflaaNfaTc
namespace Go.Proofs.Ytfjgfabochiflaa
open Go.RowKit Go.Shelf
attribute [local go_sem] Oper.semAt_some

theorem closure_any (A1 A2 : Option Addr) (n1 c1 n2 c2 : Nat) (w : World) :
    Calls Try.prog 125 #[.slice A1 n1 c1, .slice A2 n2 c2] w fun e w' => e = .returned (.func (.func 137) #[] #[.pointer (some ⟨w.heap.size, 0, none⟩), .pointer (some ⟨w.heap.size + 1, 0, none⟩)]) ∧ w' = (w.alloc (.cells #[.slice A1 n1 c1] 207)).alloc (.cells #[.slice A2 n2 c2] 32) := by
  go_enter Try.func125, Try.ntmps125
  go_wp2_with fail
  go_returns
  exact ⟨by first | rfl | simp, rfl⟩
open Classical in
noncomputable def freeL (E : List Ed) (S : Nat) (L : List Int) : List Int := ((List.range S).filter (fun (j : Nat) => decide (Rch E S L (j : Int)))).map (fun (j : Nat) => (j : Int))

theorem Keep.cell {X : World → Nat → Prop} {w w' : World} (hk : Keep X w w') {b o : Nat} {v : Value} (hc : w.cell? ⟨b, o, none⟩ = some v) (hx : ¬ X w b) : w'.cell? ⟨b, o, none⟩ = some v := by
  cases hb : w.heap[b]? with
  | none => simp [World.cell?, hb] at hc
  | some ob =>
    have hcl : ob.isCells = true := by
      unfold World.cell? at hc
      rw [show w.heap[(⟨b, o, none⟩ : Addr).block]? = some ob from hb] at hc
      cases ob <;> first | rfl | simp at hc
    have := hk.same b ob hb hcl hx
    unfold World.cell? at hc ⊢
    rw [show w.heap[(⟨b, o, none⟩ : Addr).block]? = some ob from hb] at hc
    rw [show w'.heap[(⟨b, o, none⟩ : Addr).block]? = some ob from this]
    exact hc
def Off (X : World → Nat → Prop) (w : World) (A : Option Addr) : Prop := ∀ a, A = some a → ¬ X w a.block
theorem Keep.arr {X : World → Nat → Prop} {w w' : World} (hk : Keep X w w') {B size n : Nat} {A : Option Addr} {C : Nat → Nat → Value} (h : Arr w B size A n C) (hx : 0 < n → Off X w A) : Arr w' B size A n C := fun hn => by
  obtain ⟨b, off, e, hlt, hc⟩ := h hn
  exact ⟨b, off, e, hlt, fun k j h1 h2 => hk.cell (hc k j h1 h2) (hx hn _ e)⟩
/-- what came in lies as it lay -/
theorem cfacts_of {w : World} {p1 p2 g S n2 c2 : Nat} {E : List Ed} {RA : Nat → Option Addr} {rc : Nat → Nat} {A2 : Option Addr} {L : List Int} {X : World → Nat → Prop} (h : CFacts w p1 p2 g S E RA rc A2 n2 c2 L)
    (h1 : ¬ X w p1) (h2 : ¬ X w p2) (h3 : ¬ X w g) (h4 : ∀ k, k < S → Off X w (RA k)) (h5 : 0 < n2 → Off X w A2) : ∀ W', Keep X w W' → CFacts W' p1 p2 g S E RA rc A2 n2 c2 L := fun W' hk =>
  ⟨hk.cell h.c1 h1, hk.cell h.c2 h2, ⟨(hk.arr h.rows.arr (fun _ a e => by cases e; exact h3)).more hk.size, fun k hk' => (hk.arr (h.rows.row k hk') (fun _ => h4 k hk')).more hk.size⟩, (hk.arr h.arr h5).more hk.size⟩

theorem own_num {w : World} {base n c : Nat} {A : Option Addr} {q : IntKind} {xs : List Int} (h : w.ownsRow base 3 1 (.slice A n c) n (numsV q xs)) : Arr w w.heap.size 1 A n (NumC q xs) := fun hn => by
  obtain ⟨b, o, e, hlt, hc⟩ := Arr.of_own h hn
  have hl : xs.length = n := by have := h.1; simpa [numsV] using this
  refine ⟨b, o, e, hlt, fun k j hk hj => ?_⟩
  rw [hc k j hk hj]
  simp [NumC, numsV, show k < xs.length by omega]
theorem freeL_of {E : List Ed} {S : Nat} {L : List Int} {inl : List Bool} {xs : List Int} (hm : ∀ j, j < S → (inl.getD j false = true ↔ (j : Int) ∈ xs)) (hxs : ∀ i, i ∈ xs ↔ Rch E S L i) :
    ((List.range S).filter (fun j => inl.getD j false)).map (fun (j : Nat) => (j : Int)) = freeL E S L := by
  unfold freeL
  congr 1
  refine List.filter_congr (fun j hj => ?_)
  have hj' : j < S := by simpa using hj
  classical
  rw [Bool.eq_iff_iff]
  refine ((hm j hj').trans (hxs j)).trans ?_
  simp
theorem filter_next (f : Nat → Bool) (k : Nat) : ((List.range (k + 1)).filter f).map (fun (j : Nat) => (j : Int)) = if f k = true then ((List.range k).filter f).map (fun (j : Nat) => (j : Int)) ++ [(k : Int)] else ((List.range k).filter f).map (fun (j : Nat) => (j : Int)) := by
  rw [List.range_succ, List.filter_append, List.map_append]
  by_cases h : f k = true
  · rw [if_pos h]; simp [h]
  · rw [if_neg h]; simp [h]
theorem filter_few (f : Nat → Bool) (k : Nat) : (((List.range k).filter f).map (fun (j : Nat) => (j : Int))).length ≤ k := by
  rw [List.length_map]
  exact Nat.le_trans (List.length_filter_le _ _) (by simp)
end Go.Proofs.Ytfjgfabochiflaa
