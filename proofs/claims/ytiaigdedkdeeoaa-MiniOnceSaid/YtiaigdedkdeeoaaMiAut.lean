/- Automata: what a state takes; states that take the same; parting states; the order in which states are met. Plain. -/
import Derived.Lib.Hide
namespace Go.Proofs.Ytiaigdedkdeeoaa
structure Aut where
  n : Nat
  acc : Nat → Bool
  nx : Nat → Nat → Int
structure Aut.Ok (A : Aut) : Prop where
  pos : 0 < A.n
  lo : ∀ i b, i < A.n → b < 256 → -1 ≤ A.nx i b
  hi : ∀ i b, i < A.n → b < 256 → A.nx i b < (A.n : Int)
def Byt (w : List Nat) : Prop := ∀ b ∈ w, b < 256
def run (A : Aut) : Nat → List Nat → Bool
  | i, [] => A.acc i
  | i, b :: w => if 0 ≤ A.nx i b then run A (A.nx i b).toNat w else false
/-- two states take the same texts -/
def LE (A B : Aut) (i j : Nat) : Prop := ∀ w, Byt w → run A i w = run B j w
def Live (A : Aut) (i : Nat) : Prop := ∃ w, Byt w ∧ run A i w = true
def Dead (A : Aut) (i b : Nat) : Prop := A.nx i b < 0 ∨ ¬ Live A (A.nx i b).toNat
section
variable {A B C : Aut}
theorem LE.refl (A : Aut) (i : Nat) : LE A A i i := fun _ _ => rfl
theorem LE.symm {i j : Nat} (h : LE A B i j) : LE B A j i := fun w hw => (h w hw).symm
theorem LE.trans {i j k : Nat} (h : LE A B i j) (h2 : LE B C j k) : LE A C i k := fun w hw => (h w hw).trans (h2 w hw)
theorem LE.live {i j : Nat} (h : LE A B i j) : Live A i ↔ Live B j := by
  constructor
  · rintro ⟨w, hw, hr⟩; exact ⟨w, hw, by rw [← h w hw]; exact hr⟩
  · rintro ⟨w, hw, hr⟩; exact ⟨w, hw, by rw [h w hw]; exact hr⟩
theorem LE.acc {i j : Nat} (h : LE A B i j) : A.acc i = B.acc j := h [] (fun _ hb => by cases hb)
theorem live_acc {i : Nat} (h : A.acc i = true) : Live A i := ⟨[], fun _ hb => (by cases hb), h⟩
theorem live_step {i b : Nat} (hb : b < 256) (h0 : 0 ≤ A.nx i b) (h : Live A (A.nx i b).toNat) : Live A i := by
  obtain ⟨w, hw, hr⟩ := h
  refine ⟨b :: w, fun c hc => ?_, ?_⟩
  · rcases List.mem_cons.1 hc with rfl | hc
    · exact hb
    · exact hw c hc
  · show (if 0 ≤ A.nx i b then run A (A.nx i b).toNat w else false) = true
    rw [if_pos h0]; exact hr
/-- the live states are the least set that holds what accepts and is closed -/
theorem live_least {S : Nat → Prop} (hacc : ∀ i, i < A.n → A.acc i = true → S i) (hstep : ∀ i b, i < A.n → b < 256 → 0 ≤ A.nx i b → S (A.nx i b).toNat → S i) (hok : A.Ok) {i : Nat} (hi : i < A.n) (h : Live A i) : S i := by
  obtain ⟨w, hw, hr⟩ := h
  induction w generalizing i with
  | nil => exact hacc i hi hr
  | cons b w ih =>
    have hb : b < 256 := hw b List.mem_cons_self
    have hr2 : (if 0 ≤ A.nx i b then run A (A.nx i b).toNat w else false) = true := hr
    by_cases h0 : 0 ≤ A.nx i b
    · rw [if_pos h0] at hr2
      exact hstep i b hi hb h0 (ih (by have := hok.hi i b hi hb; omega) (fun c hc => hw c (List.mem_cons_of_mem _ hc)) hr2)
    · rw [if_neg h0] at hr2; cases hr2
theorem run_dead {i b : Nat} (h : Dead A i b) {w : List Nat} (hw : Byt w) : run A i (b :: w) = false := by
  show (if 0 ≤ A.nx i b then run A (A.nx i b).toNat w else false) = false
  rcases h with h | h
  · rw [if_neg (by omega)]
  · split
    · cases e : run A (A.nx i b).toNat w
      · rfl
      · exact (h ⟨w, hw, e⟩).elim
    · rfl
theorem not_dead {i b : Nat} (h : ¬ Dead A i b) : 0 ≤ A.nx i b ∧ Live A (A.nx i b).toNat := by
  unfold Dead at h
  constructor
  · apply Classical.byContradiction
    intro h9
    exact h (.inl (by omega))
  · apply Classical.byContradiction
    intro h9
    exact h (.inr h9)
theorem run_go {i b : Nat} (h : 0 ≤ A.nx i b) (w : List Nat) : run A i (b :: w) = run A (A.nx i b).toNat w := by
  show (if 0 ≤ A.nx i b then run A (A.nx i b).toNat w else false) = _
  rw [if_pos h]
theorem byt_cons {b : Nat} {w : List Nat} (hb : b < 256) (hw : Byt w) : Byt (b :: w) := fun c hc => by
  rcases List.mem_cons.1 hc with rfl | hc
  · exact hb
  · exact hw c hc
/-- a relation that is kept by steps is one of states that take the same -/
theorem le_closed {R : Nat → Nat → Prop} (hacc : ∀ i j, R i j → A.acc i = B.acc j) (hstep : ∀ i j b, R i j → b < 256 → (Dead A i b ↔ Dead B j b) ∧ (¬ Dead A i b → R (A.nx i b).toNat (B.nx j b).toNat)) {i j : Nat} (h : R i j) : LE A B i j := fun w hw => by
  induction w generalizing i j with
  | nil => exact hacc i j h
  | cons b w ih =>
    have hb : b < 256 := hw b List.mem_cons_self
    have hw' : Byt w := fun c hc => hw c (List.mem_cons_of_mem _ hc)
    have h1 := hstep i j b h hb
    by_cases hd : Dead A i b
    · rw [run_dead hd hw', run_dead (h1.1.1 hd) hw']
    · have hd' : ¬ Dead B j b := fun h9 => hd (h1.1.2 h9)
      rw [run_go (not_dead hd).1, run_go (not_dead hd').1]
      exact ih (h1.2 hd) hw'
theorem LE.dead {i j b : Nat} (h : LE A B i j) (hb : b < 256) : Dead A i b ↔ Dead B j b := by
  have key : ∀ {A B : Aut} {i j : Nat}, LE A B i j → Dead A i b → Dead B j b := fun {A B i j} h hd => by
    apply Classical.byContradiction
    intro h9
    have h2 := not_dead h9
    obtain ⟨w, hw, hr⟩ := h2.2
    have h3 := h (b :: w) (byt_cons hb hw)
    rw [run_dead hd hw, run_go h2.1, hr] at h3
    cases h3
  exact ⟨key h, key h.symm⟩
theorem LE.step {i j b : Nat} (h : LE A B i j) (hb : b < 256) (hd : ¬ Dead A i b) : LE A B (A.nx i b).toNat (B.nx j b).toNat := fun w hw => by
  have hd' : ¬ Dead B j b := fun h9 => hd ((h.dead hb).2 h9)
  have h3 := h (b :: w) (byt_cons hb hw)
  rwa [run_go (not_dead hd).1, run_go (not_dead hd').1] at h3
/-! Parting states. -/
/-- where a state goes, told by parts -/
def PT (A : Aut) (P : Nat → Int) (i b : Nat) : Int := if 0 ≤ A.nx i b then P (A.nx i b).toNat else -1
structure PartOk (A : Aut) (P : Nat → Int) : Prop where
  dead : ∀ i, i < A.n → ¬ Live A i → P i = -1
  live : ∀ i, i < A.n → Live A i → 0 ≤ P i
  same : ∀ i j, i < A.n → j < A.n → LE A A i j → P i = P j
  acc : ∀ i j, i < A.n → j < A.n → Live A i → P i = P j → A.acc i = A.acc j
structure Fine (A : Aut) (P Q : Nat → Int) : Prop where
  dead : ∀ i, i < A.n → P i < 0 → Q i = P i
  live : ∀ i, i < A.n → 0 ≤ P i → 0 ≤ Q i
  iff : ∀ i j, i < A.n → j < A.n → 0 ≤ P i → 0 ≤ P j → (Q i = Q j ↔ P i = P j ∧ ∀ b, b < 256 → PT A P i b = PT A P j b)
theorem PartOk.neg {P : Nat → Int} (h : PartOk A P) {i : Nat} (hi : i < A.n) : P i < 0 ↔ ¬ Live A i := by
  constructor
  · intro h1 h2
    have := h.live i hi h2
    omega
  · intro h1
    have := h.dead i hi h1
    omega
theorem PartOk.pt {P : Nat → Int} (h : PartOk A P) (hok : A.Ok) {i j b : Nat} (hi : i < A.n) (hj : j < A.n) (hb : b < 256) (hl : LE A A i j) : PT A P i b = PT A P j b := by
  have key : ∀ {i}, i < A.n → Dead A i b → PT A P i b = -1 := fun {i} hi hd => by
    unfold PT
    rcases hd with hd | hd
    · rw [if_neg (by omega)]
    · split
      · exact h.dead _ (by have := hok.hi i b hi hb; omega) hd
      · rfl
  by_cases hd : Dead A i b
  · rw [key hi hd, key hj ((hl.dead hb).1 hd)]
  · have hd' : ¬ Dead A j b := fun h9 => hd ((hl.dead hb).2 h9)
    unfold PT
    rw [if_pos (not_dead hd).1, if_pos (not_dead hd').1]
    exact h.same _ _ (by have := hok.hi i b hi hb; have := (not_dead hd).1; omega) (by have := hok.hi j b hj hb; have := (not_dead hd').1; omega) (hl.step hb hd)
theorem PartOk.fine {P Q : Nat → Int} (h : PartOk A P) (hok : A.Ok) (hf : Fine A P Q) : PartOk A Q := by
  refine ⟨fun i hi hd => ?_, fun i hi hl => hf.live i hi (h.live i hi hl), fun i j hi hj hl => ?_, fun i j hi hj hl he => ?_⟩
  · rw [hf.dead i hi ((h.neg hi).2 hd)]; exact h.dead i hi hd
  · by_cases hv : Live A i
    · have hv' := hl.live.1 hv
      exact (hf.iff i j hi hj (h.live i hi hv) (h.live j hj hv')).2 ⟨h.same i j hi hj hl, fun b hb => h.pt hok hi hj hb hl⟩
    · have hv' : ¬ Live A j := fun h9 => hv (hl.live.2 h9)
      rw [hf.dead i hi ((h.neg hi).2 hv), hf.dead j hj ((h.neg hj).2 hv'), h.dead i hi hv, h.dead j hj hv']
  · have hv' : Live A j := by
      apply Classical.byContradiction
      intro h9
      have h1 := hf.live i hi (h.live i hi hl)
      have h2 := hf.dead j hj ((h.neg hj).2 h9)
      have h3 := h.dead j hj h9
      omega
    exact h.acc i j hi hj hl ((hf.iff i j hi hj (h.live i hi hl) (h.live j hj hv')).1 he).1
/-- where parting changes nothing, parts are what takes the same -/
theorem PartOk.done {P Q : Nat → Int} (h : PartOk A P) (hok : A.Ok) (hf : Fine A P Q) (hs : ∀ i j, i < A.n → j < A.n → 0 ≤ P i → P i = P j → Q i = Q j) {i j : Nat} (hi : i < A.n) (hj : j < A.n) (hl : Live A i) : P i = P j ↔ LE A A i j := by
  refine ⟨fun he => ?_, fun hl => h.same i j hi hj hl⟩
  refine le_closed (R := fun i j => i < A.n ∧ j < A.n ∧ 0 ≤ P i ∧ P i = P j) (fun i j hr => ?_) (fun i j b hr hb => ?_) ⟨hi, hj, h.live i hi hl, he⟩
  · have hv : Live A i := Classical.byContradiction fun h9 => by have := h.dead i hr.1 h9; omega
    exact h.acc i j hr.1 hr.2.1 hv hr.2.2.2
  · obtain ⟨hi, hj, h0, he⟩ := hr
    have h1 := ((hf.iff i j hi hj h0 (by omega)).1 (hs i j hi hj h0 he)).2 b hb
    have hd : ∀ {i}, i < A.n → (Dead A i b ↔ PT A P i b < 0) := fun {i} hi => by
      unfold Dead PT
      by_cases h9 : 0 ≤ A.nx i b
      · rw [if_pos h9]
        have := h.neg (show (A.nx i b).toNat < A.n by have := hok.hi i b hi hb; omega)
        rw [this]
        constructor
        · rintro (h8 | h8)
          · omega
          · exact h8
        · exact fun h8 => .inr h8
      · rw [if_neg h9]
        exact ⟨fun _ => by omega, fun _ => .inl (by omega)⟩
    refine ⟨by rw [hd hi, hd hj, h1], fun hn => ?_⟩
    have hn' : ¬ Dead A j b := fun h9 => hn (by rw [hd hi, h1, ← hd hj]; exact h9)
    have e1 := (not_dead hn).1
    have e2 := (not_dead hn').1
    have e3 : ¬ PT A P i b < 0 := fun h9 => hn ((hd hi).2 h9)
    unfold PT at h1 e3
    rw [if_pos e1] at h1 e3
    rw [if_pos e2] at h1
    exact ⟨by have := hok.hi i b hi hb; omega, by have := hok.hi j b hj hb; omega, by omega, h1⟩
end
/-! How many parts there are. -/
/-- the different ones of numbers from 0 on, in their order -/
def distS (a : List Int) (x : Int) : List Int := if x < 0 ∨ x ∈ a then a else a ++ [x]
theorem distS_mem {a : List Int} {x y : Int} : y ∈ distS a x ↔ y ∈ a ∨ (y = x ∧ 0 ≤ x) := by
  unfold distS
  split
  · rename_i h
    constructor
    · exact fun h => .inl h
    · rintro (h1 | ⟨rfl, h2⟩)
      · exact h1
      · exact h.elim (fun h3 => by omega) id
  · rename_i h
    rw [List.mem_append, List.mem_singleton]
    constructor
    · rintro (h1 | h1)
      · exact .inl h1
      · exact .inr ⟨h1, Int.not_lt.1 fun h2 => h (.inl h2)⟩
    · rintro (h1 | h1)
      · exact .inl h1
      · exact .inr h1.1
theorem distS_nodup {a : List Int} (h : a.Nodup) (x : Int) : (distS a x).Nodup := by
  unfold distS
  split
  · exact h
  · rename_i h1
    rw [List.nodup_append]
    refine ⟨h, by simp, fun b hb c hc => ?_⟩
    simp at hc; subst hc
    intro e; subst e
    exact h1 (.inr hb)
def distL : List Int → List Int := fun l => l.foldl distS []
theorem distL_snoc (l : List Int) (x : Int) : distL (l ++ [x]) = distS (distL l) x := by unfold distL; rw [List.foldl_append]; rfl
theorem distL_mem {l : List Int} {y : Int} : y ∈ distL l ↔ y ∈ l ∧ 0 ≤ y := by
  have key : ∀ (l a : List Int), (y ∈ l.foldl distS a ↔ y ∈ a ∨ (y ∈ l ∧ 0 ≤ y)) := fun l => by
    induction l with
    | nil => intro a; simp
    | cons x l ih =>
      intro a
      rw [List.foldl_cons, ih, distS_mem, List.mem_cons]
      constructor
      · rintro ((h | ⟨h1, h2⟩) | h)
        · exact .inl h
        · exact .inr ⟨.inl h1, by omega⟩
        · exact .inr ⟨.inr h.1, h.2⟩
      · rintro (h | ⟨h1 | h1, h2⟩)
        · exact .inl (.inl h)
        · exact .inl (.inr ⟨h1, by omega⟩)
        · exact .inr ⟨h1, h2⟩
  have := key l []
  simpa [distL] using this
theorem distL_nodup (l : List Int) : (distL l).Nodup := by
  have key : ∀ (l a : List Int), a.Nodup → (l.foldl distS a).Nodup := fun l => by
    induction l with
    | nil => intro a h; exact h
    | cons x l ih => intro a h; exact ih _ (distS_nodup h x)
  exact key l [] (by simp)
theorem nodup_subI : ∀ (k l : List Int), l.Nodup → (∀ x ∈ l, x ∈ k) → l.length ≤ k.length
  | [], l, _, h => by
    cases l with
    | nil => simp
    | cons a l => exact absurd (h a (by simp)) (by simp)
  | b :: k, l, hn, h => by
    have h1 := nodup_subI k (l.erase b) (hn.erase b) (fun x hx => by
      rw [hn.mem_erase_iff] at hx
      rcases List.mem_cons.1 (h x hx.2) with e | e
      · exact (hx.1 e).elim
      · exact e)
    rw [List.length_erase] at h1
    simp only [List.length_cons]
    split at h1 <;> omega
open Classical in
/-- finer parts that are as many are the same parts -/
theorem same_parts {n : Nat} {P Q : Nat → Int} (hd : ∀ i, i < n → (0 ≤ P i ↔ 0 ≤ Q i)) (hf : ∀ i j, i < n → j < n → 0 ≤ P i → Q i = Q j → P i = P j) (hc : (distL ((List.range n).map Q)).length ≤ (distL ((List.range n).map P)).length) {i j : Nat} (hi : i < n) (hj : j < n) (h0 : 0 ≤ P i) (he : P i = P j) : Q i = Q j := by
  apply Classical.byContradiction
  intro hne
  obtain ⟨a, ha⟩ : ∃ a, a = distL ((List.range n).map Q) := ⟨_, rfl⟩
  obtain ⟨b, hb⟩ : ∃ b, b = distL ((List.range n).map P) := ⟨_, rfl⟩
  rw [← ha, ← hb] at hc
  have an : a.Nodup := ha ▸ distL_nodup _
  have bn : b.Nodup := hb ▸ distL_nodup _
  have am : ∀ k, k < n → 0 ≤ P k → Q k ∈ a := fun k hk h => by
    rw [ha, distL_mem]
    exact ⟨List.mem_map.2 ⟨k, List.mem_range.2 hk, rfl⟩, (hd k hk).1 h⟩
  let f : Int → Int := fun q => if h : ∃ k, k < n ∧ 0 ≤ P k ∧ Q k = q then P (Classical.choose h) else 0
  have hfq : ∀ k, k < n → 0 ≤ P k → f (Q k) = P k := fun k hk h => by
    have hh : ∃ k', k' < n ∧ 0 ≤ P k' ∧ Q k' = Q k := ⟨k, hk, h, rfl⟩
    show (if h : ∃ k', k' < n ∧ 0 ≤ P k' ∧ Q k' = Q k then P (Classical.choose h) else 0) = P k
    rw [dif_pos hh]
    have hs := Classical.choose_spec hh
    exact hf _ _ hs.1 hk hs.2.1 hs.2.2
  have hjp : 0 ≤ P j := by omega
  have hsub : ∀ x ∈ b, x ∈ (a.erase (Q j)).map f := fun x hx => by
    rw [hb, distL_mem] at hx
    obtain ⟨⟨k, hk, rfl⟩, hx0⟩ : (∃ k, k < n ∧ P k = x) ∧ 0 ≤ x := ⟨by
      obtain ⟨k, hk, e⟩ := List.mem_map.1 hx.1
      exact ⟨k, List.mem_range.1 hk, e⟩, hx.2⟩
    by_cases e : Q k = Q j
    · have e2 : P k = P j := hf k j hk hj hx0 e
      refine List.mem_map.2 ⟨Q i, ?_, by rw [hfq i hi h0, he, e2]⟩
      rw [an.mem_erase_iff]
      exact ⟨hne, am i hi h0⟩
    · refine List.mem_map.2 ⟨Q k, ?_, hfq k hk hx0⟩
      rw [an.mem_erase_iff]
      exact ⟨e, am k hk hx0⟩
  have h1 := nodup_subI _ b bn hsub
  rw [List.length_map, List.length_erase, if_pos (am j hj hjp)] at h1
  have h2 : 0 < a.length := List.length_pos_iff.mpr (fun e => by have := am j hj hjp; rw [e] at this; cases this)
  omega
end Go.Proofs.Ytiaigdedkdeeoaa
