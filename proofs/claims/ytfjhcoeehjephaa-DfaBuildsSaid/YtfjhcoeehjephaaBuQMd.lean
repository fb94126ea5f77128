/- dfa.Build: what its inner loops gather. Plain. -/
import Derived.Test.YtfjhcoeehjephaaNfaMd
namespace Go.Proofs.Ytfjhcoeehjephaa
theorem moveL_snoc (E : List Ed) (l : List Nat) (i b : Nat) : moveL E (l ++ [i]) b = moveL E l b ++ ((overE E i).filter (fun e => hasE e b)).map Ed.dst := by simp [moveL]
theorem gath_snoc (l : List Ed) (e : Ed) (b : Nat) : ((l ++ [e]).filter (fun e => hasE e b)).map Ed.dst = (l.filter (fun e => hasE e b)).map Ed.dst ++ (if hasE e b = true then [e.dst] else []) := by
  rw [List.filter_append, List.map_append]
  cases h : hasE e b <;> simp [h]
/-- all edges of some states are no more than all edges -/
theorem overs_len (E : List Ed) : ∀ {X : List Nat}, X.Nodup → (X.flatMap (fun i => overE E i)).length ≤ E.length := by
  induction E with
  | nil =>
    intro X _
    have : X.flatMap (fun i => overE [] i) = [] := List.flatMap_eq_nil_iff.2 (fun _ _ => rfl)
    rw [this]; exact Nat.le_refl 0
  | cons e E ih =>
    intro X hX
    have key : ∀ {X : List Nat}, X.Nodup → (X.flatMap (fun i => overE (e :: E) i)).length ≤ (X.flatMap (fun i => overE E i)).length + (if e.free = false ∧ ∃ i ∈ X, e.src = (i : Int) then 1 else 0) := by
      intro X
      induction X with
      | nil => intro _; simp
      | cons x X ihX =>
        intro hX
        rw [List.nodup_cons] at hX
        have h1 := ihX hX.2
        rw [List.flatMap_cons, List.flatMap_cons, List.length_append, List.length_append]
        by_cases hx : e.free = false ∧ e.src = (x : Int)
        · have h2 : (overE (e :: E) x).length = (overE E x).length + 1 := by simp [overE, hx.1, hx.2]
          have h3 : ¬ (e.free = false ∧ ∃ i ∈ X, e.src = (i : Int)) := fun h9 => by
            obtain ⟨_, i, hi, he⟩ := h9
            have : i = x := by have := hx.2; omega
            exact hX.1 (this ▸ hi)
          rw [if_neg h3] at h1
          rw [if_pos ⟨hx.1, x, by simp, hx.2⟩]
          omega
        · have h2 : (overE (e :: E) x).length = (overE E x).length := by
            unfold overE
            rw [List.filter_cons_of_neg]
            simp only [Bool.and_eq_true, Bool.not_eq_true', decide_eq_true_eq]
            exact hx
          have h3 : (if e.free = false ∧ ∃ i ∈ X, e.src = (i : Int) then 1 else 0) ≤ (if e.free = false ∧ ∃ i ∈ x :: X, e.src = (i : Int) then 1 else 0) := by
            split
            · rename_i h9
              rw [if_pos ⟨h9.1, h9.2.imp (fun i hi => ⟨List.mem_cons_of_mem _ hi.1, hi.2⟩)⟩]; exact Nat.le_refl 1
            · exact Nat.zero_le _
          omega
    have h1 := key hX
    have h2 := ih hX
    have h3 : (if e.free = false ∧ ∃ i ∈ X, e.src = (i : Int) then 1 else 0) ≤ 1 := by split <;> omega
    simp only [List.length_cons]
    omega
theorem moveL_len (E : List Ed) {X : List Nat} (hX : X.Nodup) (b : Nat) : (moveL E X b).length ≤ E.length := by
  refine Nat.le_trans ?_ (overs_len E hX)
  unfold moveL
  clear hX
  induction X with
  | nil => simp
  | cons x X ih =>
    rw [List.flatMap_cons, List.flatMap_cons, List.length_append, List.length_append, List.length_map]
    have := List.length_filter_le (fun e => hasE e b) (overE E x)
    omega
end Go.Proofs.Ytfjhcoeehjephaa
