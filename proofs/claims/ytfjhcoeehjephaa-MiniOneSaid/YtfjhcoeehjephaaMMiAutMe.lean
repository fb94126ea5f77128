/- MMiAut, MMiBfs of this seat, in one text. -/
import Derived.Lib.Hide
/- Automata: what a state takes; states that take the same; parting states; the order in which states are met. Plain. -/
namespace Go.Proofs.Ytfjhcoeehjephaa.M9
structure Aut where
  n : Nat
  acc : Nat → Bool
  nx : Nat → Nat → Int
structure Aut.Ok (A : Aut) : Prop where
  pos : 0 < A.n
  lo : ∀ i b, i < A.n → b < 256 → -1 ≤ A.nx i b
  hi : ∀ i b, i < A.n → b < 256 → A.nx i b < (A.n : Int)
def Byt (w : List Nat) : Prop := ∀ b ∈ w, b < 256
def run (A : Aut) : Nat → List Nat → Bool
  | i, [] => A.acc i
  | i, b :: w => if 0 ≤ A.nx i b then run A (A.nx i b).toNat w else false
/-- two states take the same texts -/
def LE (A B : Aut) (i j : Nat) : Prop := ∀ w, Byt w → run A i w = run B j w
def Live (A : Aut) (i : Nat) : Prop := ∃ w, Byt w ∧ run A i w = true
def Dead (A : Aut) (i b : Nat) : Prop := A.nx i b < 0 ∨ ¬ Live A (A.nx i b).toNat
section
variable {A B C : Aut}
theorem LE.refl (A : Aut) (i : Nat) : LE A A i i := fun _ _ => rfl
theorem LE.symm {i j : Nat} (h : LE A B i j) : LE B A j i := fun w hw => (h w hw).symm
theorem LE.trans {i j k : Nat} (h : LE A B i j) (h2 : LE B C j k) : LE A C i k := fun w hw => (h w hw).trans (h2 w hw)
theorem LE.live {i j : Nat} (h : LE A B i j) : Live A i ↔ Live B j := by
  constructor
  · rintro ⟨w, hw, hr⟩; exact ⟨w, hw, by rw [← h w hw]; exact hr⟩
  · rintro ⟨w, hw, hr⟩; exact ⟨w, hw, by rw [h w hw]; exact hr⟩
theorem LE.acc {i j : Nat} (h : LE A B i j) : A.acc i = B.acc j := h [] (fun _ hb => by cases hb)
theorem live_acc {i : Nat} (h : A.acc i = true) : Live A i := ⟨[], fun _ hb => (by cases hb), h⟩
theorem live_step {i b : Nat} (hb : b < 256) (h0 : 0 ≤ A.nx i b) (h : Live A (A.nx i b).toNat) : Live A i := by
  obtain ⟨w, hw, hr⟩ := h
  refine ⟨b :: w, fun c hc => ?_, ?_⟩
  · rcases List.mem_cons.1 hc with rfl | hc
    · exact hb
    · exact hw c hc
  · show (if 0 ≤ A.nx i b then run A (A.nx i b).toNat w else false) = true
    rw [if_pos h0]; exact hr
/-- the live states are the least set that holds what accepts and is closed -/
theorem live_least {S : Nat → Prop} (hacc : ∀ i, i < A.n → A.acc i = true → S i) (hstep : ∀ i b, i < A.n → b < 256 → 0 ≤ A.nx i b → S (A.nx i b).toNat → S i) (hok : A.Ok) {i : Nat} (hi : i < A.n) (h : Live A i) : S i := by
  obtain ⟨w, hw, hr⟩ := h
  induction w generalizing i with
  | nil => exact hacc i hi hr
  | cons b w ih =>
    have hb : b < 256 := hw b List.mem_cons_self
    have hr2 : (if 0 ≤ A.nx i b then run A (A.nx i b).toNat w else false) = true := hr
    by_cases h0 : 0 ≤ A.nx i b
    · rw [if_pos h0] at hr2
      exact hstep i b hi hb h0 (ih (by have := hok.hi i b hi hb; omega) (fun c hc => hw c (List.mem_cons_of_mem _ hc)) hr2)
    · rw [if_neg h0] at hr2; cases hr2
theorem run_dead {i b : Nat} (h : Dead A i b) {w : List Nat} (hw : Byt w) : run A i (b :: w) = false := by
  show (if 0 ≤ A.nx i b then run A (A.nx i b).toNat w else false) = false
  rcases h with h | h
  · rw [if_neg (by omega)]
  · split
    · cases e : run A (A.nx i b).toNat w
      · rfl
      · exact (h ⟨w, hw, e⟩).elim
    · rfl
theorem not_dead {i b : Nat} (h : ¬ Dead A i b) : 0 ≤ A.nx i b ∧ Live A (A.nx i b).toNat := by
  unfold Dead at h
  constructor
  · apply Classical.byContradiction
    intro h9
    exact h (.inl (by omega))
  · apply Classical.byContradiction
    intro h9
    exact h (.inr h9)
theorem run_go {i b : Nat} (h : 0 ≤ A.nx i b) (w : List Nat) : run A i (b :: w) = run A (A.nx i b).toNat w := by
  show (if 0 ≤ A.nx i b then run A (A.nx i b).toNat w else false) = _
  rw [if_pos h]
theorem byt_cons {b : Nat} {w : List Nat} (hb : b < 256) (hw : Byt w) : Byt (b :: w) := fun c hc => by
  rcases List.mem_cons.1 hc with rfl | hc
  · exact hb
  · exact hw c hc
/-- a relation that is kept by steps is one of states that take the same -/
theorem le_closed {R : Nat → Nat → Prop} (hacc : ∀ i j, R i j → A.acc i = B.acc j) (hstep : ∀ i j b, R i j → b < 256 → (Dead A i b ↔ Dead B j b) ∧ (¬ Dead A i b → R (A.nx i b).toNat (B.nx j b).toNat)) {i j : Nat} (h : R i j) : LE A B i j := fun w hw => by
  induction w generalizing i j with
  | nil => exact hacc i j h
  | cons b w ih =>
    have hb : b < 256 := hw b List.mem_cons_self
    have hw' : Byt w := fun c hc => hw c (List.mem_cons_of_mem _ hc)
    have h1 := hstep i j b h hb
    by_cases hd : Dead A i b
    · rw [run_dead hd hw', run_dead (h1.1.1 hd) hw']
    · have hd' : ¬ Dead B j b := fun h9 => hd (h1.1.2 h9)
      rw [run_go (not_dead hd).1, run_go (not_dead hd').1]
      exact ih (h1.2 hd) hw'
theorem LE.dead {i j b : Nat} (h : LE A B i j) (hb : b < 256) : Dead A i b ↔ Dead B j b := by
  have key : ∀ {A B : Aut} {i j : Nat}, LE A B i j → Dead A i b → Dead B j b := fun {A B i j} h hd => by
    apply Classical.byContradiction
    intro h9
    have h2 := not_dead h9
    obtain ⟨w, hw, hr⟩ := h2.2
    have h3 := h (b :: w) (byt_cons hb hw)
    rw [run_dead hd hw, run_go h2.1, hr] at h3
    cases h3
  exact ⟨key h, key h.symm⟩
theorem LE.step {i j b : Nat} (h : LE A B i j) (hb : b < 256) (hd : ¬ Dead A i b) : LE A B (A.nx i b).toNat (B.nx j b).toNat := fun w hw => by
  have hd' : ¬ Dead B j b := fun h9 => hd ((h.dead hb).2 h9)
  have h3 := h (b :: w) (byt_cons hb hw)
  rwa [run_go (not_dead hd).1, run_go (not_dead hd').1] at h3
/-! Parting states. -/
/-- where a state goes, told by parts -/
def PT (A : Aut) (P : Nat → Int) (i b : Nat) : Int := if 0 ≤ A.nx i b then P (A.nx i b).toNat else -1
structure PartOk (A : Aut) (P : Nat → Int) : Prop where
  dead : ∀ i, i < A.n → ¬ Live A i → P i = -1
  live : ∀ i, i < A.n → Live A i → 0 ≤ P i
  same : ∀ i j, i < A.n → j < A.n → LE A A i j → P i = P j
  acc : ∀ i j, i < A.n → j < A.n → Live A i → P i = P j → A.acc i = A.acc j
structure Fine (A : Aut) (P Q : Nat → Int) : Prop where
  dead : ∀ i, i < A.n → P i < 0 → Q i = P i
  live : ∀ i, i < A.n → 0 ≤ P i → 0 ≤ Q i
  iff : ∀ i j, i < A.n → j < A.n → 0 ≤ P i → 0 ≤ P j → (Q i = Q j ↔ P i = P j ∧ ∀ b, b < 256 → PT A P i b = PT A P j b)
theorem PartOk.neg {P : Nat → Int} (h : PartOk A P) {i : Nat} (hi : i < A.n) : P i < 0 ↔ ¬ Live A i := by
  constructor
  · intro h1 h2
    have := h.live i hi h2
    omega
  · intro h1
    have := h.dead i hi h1
    omega
theorem PartOk.pt {P : Nat → Int} (h : PartOk A P) (hok : A.Ok) {i j b : Nat} (hi : i < A.n) (hj : j < A.n) (hb : b < 256) (hl : LE A A i j) : PT A P i b = PT A P j b := by
  have key : ∀ {i}, i < A.n → Dead A i b → PT A P i b = -1 := fun {i} hi hd => by
    unfold PT
    rcases hd with hd | hd
    · rw [if_neg (by omega)]
    · split
      · exact h.dead _ (by have := hok.hi i b hi hb; omega) hd
      · rfl
  by_cases hd : Dead A i b
  · rw [key hi hd, key hj ((hl.dead hb).1 hd)]
  · have hd' : ¬ Dead A j b := fun h9 => hd ((hl.dead hb).2 h9)
    unfold PT
    rw [if_pos (not_dead hd).1, if_pos (not_dead hd').1]
    exact h.same _ _ (by have := hok.hi i b hi hb; have := (not_dead hd).1; omega) (by have := hok.hi j b hj hb; have := (not_dead hd').1; omega) (hl.step hb hd)
theorem PartOk.fine {P Q : Nat → Int} (h : PartOk A P) (hok : A.Ok) (hf : Fine A P Q) : PartOk A Q := by
  refine ⟨fun i hi hd => ?_, fun i hi hl => hf.live i hi (h.live i hi hl), fun i j hi hj hl => ?_, fun i j hi hj hl he => ?_⟩
  · rw [hf.dead i hi ((h.neg hi).2 hd)]; exact h.dead i hi hd
  · by_cases hv : Live A i
    · have hv' := hl.live.1 hv
      exact (hf.iff i j hi hj (h.live i hi hv) (h.live j hj hv')).2 ⟨h.same i j hi hj hl, fun b hb => h.pt hok hi hj hb hl⟩
    · have hv' : ¬ Live A j := fun h9 => hv (hl.live.2 h9)
      rw [hf.dead i hi ((h.neg hi).2 hv), hf.dead j hj ((h.neg hj).2 hv'), h.dead i hi hv, h.dead j hj hv']
  · have hv' : Live A j := by
      apply Classical.byContradiction
      intro h9
      have h1 := hf.live i hi (h.live i hi hl)
      have h2 := hf.dead j hj ((h.neg hj).2 h9)
      have h3 := h.dead j hj h9
      omega
    exact h.acc i j hi hj hl ((hf.iff i j hi hj (h.live i hi hl) (h.live j hj hv')).1 he).1
/-- where parting changes nothing, parts are what takes the same -/
theorem PartOk.done {P Q : Nat → Int} (h : PartOk A P) (hok : A.Ok) (hf : Fine A P Q) (hs : ∀ i j, i < A.n → j < A.n → 0 ≤ P i → P i = P j → Q i = Q j) {i j : Nat} (hi : i < A.n) (hj : j < A.n) (hl : Live A i) : P i = P j ↔ LE A A i j := by
  refine ⟨fun he => ?_, fun hl => h.same i j hi hj hl⟩
  refine le_closed (R := fun i j => i < A.n ∧ j < A.n ∧ 0 ≤ P i ∧ P i = P j) (fun i j hr => ?_) (fun i j b hr hb => ?_) ⟨hi, hj, h.live i hi hl, he⟩
  · have hv : Live A i := Classical.byContradiction fun h9 => by have := h.dead i hr.1 h9; omega
    exact h.acc i j hr.1 hr.2.1 hv hr.2.2.2
  · obtain ⟨hi, hj, h0, he⟩ := hr
    have h1 := ((hf.iff i j hi hj h0 (by omega)).1 (hs i j hi hj h0 he)).2 b hb
    have hd : ∀ {i}, i < A.n → (Dead A i b ↔ PT A P i b < 0) := fun {i} hi => by
      unfold Dead PT
      by_cases h9 : 0 ≤ A.nx i b
      · rw [if_pos h9]
        have := h.neg (show (A.nx i b).toNat < A.n by have := hok.hi i b hi hb; omega)
        rw [this]
        constructor
        · rintro (h8 | h8)
          · omega
          · exact h8
        · exact fun h8 => .inr h8
      · rw [if_neg h9]
        exact ⟨fun _ => by omega, fun _ => .inl (by omega)⟩
    refine ⟨by rw [hd hi, hd hj, h1], fun hn => ?_⟩
    have hn' : ¬ Dead A j b := fun h9 => hn (by rw [hd hi, h1, ← hd hj]; exact h9)
    have e1 := (not_dead hn).1
    have e2 := (not_dead hn').1
    have e3 : ¬ PT A P i b < 0 := fun h9 => hn ((hd hi).2 h9)
    unfold PT at h1 e3
    rw [if_pos e1] at h1 e3
    rw [if_pos e2] at h1
    exact ⟨by have := hok.hi i b hi hb; omega, by have := hok.hi j b hj hb; omega, by omega, h1⟩
end
/-! How many parts there are. -/
/-- the different ones of numbers from 0 on, in their order -/
def distS (a : List Int) (x : Int) : List Int := if x < 0 ∨ x ∈ a then a else a ++ [x]
theorem distS_mem {a : List Int} {x y : Int} : y ∈ distS a x ↔ y ∈ a ∨ (y = x ∧ 0 ≤ x) := by
  unfold distS
  split
  · rename_i h
    constructor
    · exact fun h => .inl h
    · rintro (h1 | ⟨rfl, h2⟩)
      · exact h1
      · exact h.elim (fun h3 => by omega) id
  · rename_i h
    rw [List.mem_append, List.mem_singleton]
    constructor
    · rintro (h1 | h1)
      · exact .inl h1
      · exact .inr ⟨h1, Int.not_lt.1 fun h2 => h (.inl h2)⟩
    · rintro (h1 | h1)
      · exact .inl h1
      · exact .inr h1.1
theorem distS_nodup {a : List Int} (h : a.Nodup) (x : Int) : (distS a x).Nodup := by
  unfold distS
  split
  · exact h
  · rename_i h1
    rw [List.nodup_append]
    refine ⟨h, by simp, fun b hb c hc => ?_⟩
    simp at hc; subst hc
    intro e; subst e
    exact h1 (.inr hb)
def distL : List Int → List Int := fun l => l.foldl distS []
theorem distL_snoc (l : List Int) (x : Int) : distL (l ++ [x]) = distS (distL l) x := by unfold distL; rw [List.foldl_append]; rfl
theorem distL_mem {l : List Int} {y : Int} : y ∈ distL l ↔ y ∈ l ∧ 0 ≤ y := by
  have key : ∀ (l a : List Int), (y ∈ l.foldl distS a ↔ y ∈ a ∨ (y ∈ l ∧ 0 ≤ y)) := fun l => by
    induction l with
    | nil => intro a; simp
    | cons x l ih =>
      intro a
      rw [List.foldl_cons, ih, distS_mem, List.mem_cons]
      constructor
      · rintro ((h | ⟨h1, h2⟩) | h)
        · exact .inl h
        · exact .inr ⟨.inl h1, by omega⟩
        · exact .inr ⟨.inr h.1, h.2⟩
      · rintro (h | ⟨h1 | h1, h2⟩)
        · exact .inl (.inl h)
        · exact .inl (.inr ⟨h1, by omega⟩)
        · exact .inr ⟨h1, h2⟩
  have := key l []
  simpa [distL] using this
theorem distL_nodup (l : List Int) : (distL l).Nodup := by
  have key : ∀ (l a : List Int), a.Nodup → (l.foldl distS a).Nodup := fun l => by
    induction l with
    | nil => intro a h; exact h
    | cons x l ih => intro a h; exact ih _ (distS_nodup h x)
  exact key l [] (by simp)
theorem nodup_subI : ∀ (k l : List Int), l.Nodup → (∀ x ∈ l, x ∈ k) → l.length ≤ k.length
  | [], l, _, h => by
    cases l with
    | nil => simp
    | cons a l => exact absurd (h a (by simp)) (by simp)
  | b :: k, l, hn, h => by
    have h1 := nodup_subI k (l.erase b) (hn.erase b) (fun x hx => by
      rw [hn.mem_erase_iff] at hx
      rcases List.mem_cons.1 (h x hx.2) with e | e
      · exact (hx.1 e).elim
      · exact e)
    rw [List.length_erase] at h1
    simp only [List.length_cons]
    split at h1 <;> omega
open Classical in
/-- finer parts that are as many are the same parts -/
theorem same_parts {n : Nat} {P Q : Nat → Int} (hd : ∀ i, i < n → (0 ≤ P i ↔ 0 ≤ Q i)) (hf : ∀ i j, i < n → j < n → 0 ≤ P i → Q i = Q j → P i = P j) (hc : (distL ((List.range n).map Q)).length ≤ (distL ((List.range n).map P)).length) {i j : Nat} (hi : i < n) (hj : j < n) (h0 : 0 ≤ P i) (he : P i = P j) : Q i = Q j := by
  apply Classical.byContradiction
  intro hne
  obtain ⟨a, ha⟩ : ∃ a, a = distL ((List.range n).map Q) := ⟨_, rfl⟩
  obtain ⟨b, hb⟩ : ∃ b, b = distL ((List.range n).map P) := ⟨_, rfl⟩
  rw [← ha, ← hb] at hc
  have an : a.Nodup := ha ▸ distL_nodup _
  have bn : b.Nodup := hb ▸ distL_nodup _
  have am : ∀ k, k < n → 0 ≤ P k → Q k ∈ a := fun k hk h => by
    rw [ha, distL_mem]
    exact ⟨List.mem_map.2 ⟨k, List.mem_range.2 hk, rfl⟩, (hd k hk).1 h⟩
  let f : Int → Int := fun q => if h : ∃ k, k < n ∧ 0 ≤ P k ∧ Q k = q then P (Classical.choose h) else 0
  have hfq : ∀ k, k < n → 0 ≤ P k → f (Q k) = P k := fun k hk h => by
    have hh : ∃ k', k' < n ∧ 0 ≤ P k' ∧ Q k' = Q k := ⟨k, hk, h, rfl⟩
    show (if h : ∃ k', k' < n ∧ 0 ≤ P k' ∧ Q k' = Q k then P (Classical.choose h) else 0) = P k
    rw [dif_pos hh]
    have hs := Classical.choose_spec hh
    exact hf _ _ hs.1 hk hs.2.1 hs.2.2
  have hjp : 0 ≤ P j := by omega
  have hsub : ∀ x ∈ b, x ∈ (a.erase (Q j)).map f := fun x hx => by
    rw [hb, distL_mem] at hx
    obtain ⟨⟨k, hk, rfl⟩, hx0⟩ : (∃ k, k < n ∧ P k = x) ∧ 0 ≤ x := ⟨by
      obtain ⟨k, hk, e⟩ := List.mem_map.1 hx.1
      exact ⟨k, List.mem_range.1 hk, e⟩, hx.2⟩
    by_cases e : Q k = Q j
    · have e2 : P k = P j := hf k j hk hj hx0 e
      refine List.mem_map.2 ⟨Q i, ?_, by rw [hfq i hi h0, he, e2]⟩
      rw [an.mem_erase_iff]
      exact ⟨hne, am i hi h0⟩
    · refine List.mem_map.2 ⟨Q k, ?_, hfq k hk hx0⟩
      rw [an.mem_erase_iff]
      exact ⟨e, am k hk hx0⟩
  have h1 := nodup_subI _ b bn hsub
  rw [List.length_map, List.length_erase, if_pos (am j hj hjp)] at h1
  have h2 : 0 < a.length := List.length_pos_iff.mpr (fun e => by have := am j hj hjp; rw [e] at this; cases this)
  omega
end Go.Proofs.Ytfjhcoeehjephaa.M9
/- Automata: the order in which states are met, byte by byte; it hangs only on what is taken. Plain. -/
namespace Go.Proofs.Ytfjhcoeehjephaa.M9
/-- a state of each part, the row at hand, and the rows that are whole -/
structure Bf where
  met : List Nat
  row : List Int
  wide : List (List Int)
open Classical in
noncomputable def idxL (A : Aut) (met : List Nat) (j : Nat) : Nat := met.findIdx (fun m => decide (LE A A j m))
open Classical in
noncomputable def bstep (A : Aut) (s : Bf) : Bf :=
  if s.wide.length < s.met.length then
    if s.row.length < 256 then
      if Dead A (s.met.getD s.wide.length 0) s.row.length then ⟨s.met, s.row ++ [-1], s.wide⟩
      else ⟨if idxL A s.met (A.nx (s.met.getD s.wide.length 0) s.row.length).toNat < s.met.length then s.met else s.met ++ [(A.nx (s.met.getD s.wide.length 0) s.row.length).toNat], s.row ++ [((idxL A s.met (A.nx (s.met.getD s.wide.length 0) s.row.length).toNat : Nat) : Int)], s.wide⟩
    else ⟨s.met, [], s.wide ++ [s.row]⟩
  else s
noncomputable def biter (A : Aut) : Nat → Bf
  | 0 => ⟨[0], [], []⟩
  | k + 1 => bstep A (biter A k)
def BReach (A : Aut) (s : Bf) : Prop := ∃ k, biter A k = s
structure BEnd (A : Aut) (s : Bf) : Prop where
  reach : BReach A s
  fin : s.met.length ≤ s.wide.length
section
variable {A B : Aut}
theorem BReach.start : BReach A ⟨[0], [], []⟩ := ⟨0, rfl⟩
theorem BReach.step {s : Bf} (h : BReach A s) : BReach A (bstep A s) := by
  obtain ⟨k, rfl⟩ := h
  exact ⟨k + 1, rfl⟩
theorem BReach.dead {met : List Nat} {row : List Int} {wide : List (List Int)} (h : BReach A ⟨met, row, wide⟩) (h1 : wide.length < met.length) (h2 : row.length < 256) (hd : Dead A (met.getD wide.length 0) row.length) : BReach A ⟨met, row ++ [-1], wide⟩ := by
  have h3 := h.step
  unfold bstep at h3
  rw [if_pos h1, if_pos h2, if_pos hd] at h3
  exact h3
theorem BReach.old {met : List Nat} {row : List Int} {wide : List (List Int)} (h : BReach A ⟨met, row, wide⟩) (h1 : wide.length < met.length) (h2 : row.length < 256) (hd : ¬ Dead A (met.getD wide.length 0) row.length) {j k : Nat} (hj : (A.nx (met.getD wide.length 0) row.length).toNat = j) (hk : idxL A met j = k) (hkl : k < met.length) : BReach A ⟨met, row ++ [(k : Int)], wide⟩ := by
  have h3 := h.step
  unfold bstep at h3
  rw [if_pos h1, if_pos h2, if_neg hd, hj, hk, if_pos hkl] at h3
  exact h3
theorem BReach.new {met : List Nat} {row : List Int} {wide : List (List Int)} (h : BReach A ⟨met, row, wide⟩) (h1 : wide.length < met.length) (h2 : row.length < 256) (hd : ¬ Dead A (met.getD wide.length 0) row.length) {j : Nat} (hj : (A.nx (met.getD wide.length 0) row.length).toNat = j) (hk : idxL A met j = met.length) : BReach A ⟨met ++ [j], row ++ [(met.length : Int)], wide⟩ := by
  have h3 := h.step
  unfold bstep at h3
  rw [if_pos h1, if_pos h2, if_neg hd, hj, hk, if_neg (Nat.lt_irrefl _)] at h3
  exact h3
theorem BReach.row {met : List Nat} {row : List Int} {wide : List (List Int)} (h : BReach A ⟨met, row, wide⟩) (h1 : wide.length < met.length) (h2 : row.length = 256) : BReach A ⟨met, [], wide ++ [row]⟩ := by
  have h3 := h.step
  unfold bstep at h3
  rw [if_pos h1, if_neg (by rw [h2]; omega)] at h3
  exact h3
/-- there is one end -/
theorem BEnd.eq {s t : Bf} (h : BEnd A s) (k : BEnd A t) : s = t := by
  have stay : ∀ {s : Bf}, s.met.length ≤ s.wide.length → bstep A s = s := fun {s} h => by unfold bstep; rw [if_neg (by omega)]
  have far : ∀ (m d : Nat), (biter A m).met.length ≤ (biter A m).wide.length → biter A (m + d) = biter A m := fun m d hm => by
    induction d with
    | zero => rfl
    | succ d ih =>
      show bstep A (biter A (m + d)) = _
      rw [ih, stay hm]
  obtain ⟨⟨a, rfl⟩, h2⟩ := h
  obtain ⟨⟨b, rfl⟩, k2⟩ := k
  rcases Nat.le_total a b with hab | hab
  · obtain ⟨d, rfl⟩ := Nat.exists_eq_add_of_le hab
    exact (far a d h2).symm
  · obtain ⟨d, rfl⟩ := Nat.exists_eq_add_of_le hab
    exact far b d k2
/-- what a row's number says -/
def CellB (A : Aut) (met : List Nat) (i b : Nat) (x : Int) : Prop := (Dead A i b ∧ x = -1) ∨ (¬ Dead A i b ∧ ∃ k : Nat, x = (k : Int) ∧ k < met.length ∧ LE A A (A.nx i b).toNat (met.getD k 0))
structure BInv (A : Aut) (s : Bf) : Prop where
  first : s.met.getD 0 0 = 0
  pos : 0 < s.met.length
  lt : ∀ k, k < s.met.length → s.met.getD k 0 < A.n
  live : ∀ k, k < s.met.length → Live A (s.met.getD k 0)
  apart : ∀ k j, k < s.met.length → j < s.met.length → LE A A (s.met.getD k 0) (s.met.getD j 0) → k = j
  wl : s.wide.length ≤ s.met.length
  rl : s.row.length ≤ 256
  re : s.wide.length = s.met.length → s.row = []
  rows : ∀ k, k < s.wide.length → (s.wide.getD k []).length = 256 ∧ ∀ b, b < 256 → CellB A s.met (s.met.getD k 0) b ((s.wide.getD k []).getD b 0)
  row : s.wide.length < s.met.length → ∀ b, b < s.row.length → CellB A s.met (s.met.getD s.wide.length 0) b (s.row.getD b 0)
theorem getD_app1 {α : Type} {l : List α} {x d : α} {k : Nat} (h : k < l.length) : (l ++ [x]).getD k d = l.getD k d := by
  rw [List.getD_eq_getElem?_getD, List.getElem?_append_left h, ← List.getD_eq_getElem?_getD]
theorem getD_app2 {α : Type} {l : List α} {x d : α} : (l ++ [x]).getD l.length d = x := by simp
open Classical in
theorem idxL_le (met : List Nat) (j : Nat) : idxL A met j ≤ met.length := List.findIdx_le_length
open Classical in
theorem idxL_lt {met : List Nat} {j : Nat} (h : idxL A met j < met.length) : LE A A j (met.getD (idxL A met j) 0) := by
  have h1 := List.findIdx_getElem (xs := met) (p := fun m => decide (LE A A j m)) (w := h)
  rw [List.getD_eq_getElem?_getD, List.getElem?_eq_getElem h]
  unfold idxL
  simpa using h1
open Classical in
theorem idxL_none {met : List Nat} {j : Nat} (h : idxL A met j = met.length) {k : Nat} (hk : k < met.length) : ¬ LE A A j (met.getD k 0) := fun h9 => by
  have h1 := List.not_of_lt_findIdx (xs := met) (p := fun m => decide (LE A A j m)) (i := k) (by unfold idxL at h; rw [h]; exact hk)
  rw [List.getD_eq_getElem?_getD, List.getElem?_eq_getElem hk] at h9
  simp at h1
  exact h1 h9
open Classical in
/-- the first that takes the same is the only one -/
theorem idxL_of {met : List Nat} {j k : Nat} (hk : k < met.length) (hl : LE A A j (met.getD k 0)) (hu : ∀ i, i < met.length → LE A A j (met.getD i 0) → i = k) : idxL A met j = k := by
  have h1 : idxL A met j < met.length := by
    apply Classical.byContradiction
    intro h9
    have h2 := idxL_le (A := A) met j
    exact idxL_none (A := A) (by omega) hk hl
  exact hu _ h1 (idxL_lt h1)
open Classical in
theorem idxL_of_none {met : List Nat} {j : Nat} (h : ∀ i, i < met.length → ¬ LE A A j (met.getD i 0)) : idxL A met j = met.length := by
  have h2 := idxL_le (A := A) met j
  apply Classical.byContradiction
  intro h9
  exact h _ (by omega) (idxL_lt (by omega))
theorem CellB.app {met : List Nat} {i b x : _} (h : CellB A met i b x) (j : Nat) : CellB A (met ++ [j]) i b x := by
  rcases h with h | ⟨h1, k, h2, h3, h4⟩
  · exact .inl h
  · exact .inr ⟨h1, k, h2, by rw [List.length_append]; omega, by rw [getD_app1 h3]; exact h4⟩
theorem binv (hok : A.Ok) (h0 : Live A 0) : ∀ k, BInv A (biter A k)
  | 0 => by
    refine ⟨rfl, Nat.zero_lt_one, fun k hk => ?_, fun k hk => ?_, fun k j hk hj _ => ?_, Nat.zero_le _, Nat.zero_le _, fun h => (by cases h), fun k hk => (by cases hk), fun _ b hb => (by cases hb)⟩
    · obtain rfl : k = 0 := by simp [biter] at hk; omega
      exact hok.pos
    · obtain rfl : k = 0 := by simp [biter] at hk; omega
      exact h0
    · simp [biter] at hk hj; omega
  | k + 1 => by
    have ih := binv hok h0 k
    show BInv A (bstep A (biter A k))
    obtain ⟨s, hs⟩ : ∃ s, s = biter A k := ⟨_, rfl⟩
    rw [← hs] at ih ⊢
    clear hs
    unfold bstep
    by_cases h1 : s.wide.length < s.met.length
    · rw [if_pos h1]
      by_cases h2 : s.row.length < 256
      · rw [if_pos h2]
        obtain ⟨i, hi⟩ : ∃ i, i = s.met.getD s.wide.length 0 := ⟨_, rfl⟩
        have hin := ih.lt _ h1
        rw [← hi] at hin ⊢
        by_cases hd : Dead A i s.row.length
        · rw [if_pos hd]
          refine ⟨ih.first, ih.pos, ih.lt, ih.live, ih.apart, ih.wl, by simp; omega, fun h => absurd h (by show ¬ s.wide.length = s.met.length; omega), ih.rows, fun _ b hb => ?_⟩
          show CellB A s.met (s.met.getD s.wide.length 0) b ((s.row ++ [-1]).getD b 0)
          rw [← hi]
          simp only [List.length_append, List.length_singleton] at hb
          by_cases e : b < s.row.length
          · rw [getD_app1 e]
            have := ih.row h1 b e
            rw [← hi] at this
            exact this
          · obtain rfl : b = s.row.length := by omega
            rw [getD_app2]
            exact .inl ⟨hd, rfl⟩
        · rw [if_neg hd]
          have hnd := not_dead hd
          obtain ⟨j, hj⟩ : ∃ j, j = (A.nx i s.row.length).toNat := ⟨_, rfl⟩
          have hjn : j < A.n := by have := hok.hi i s.row.length hin h2; omega
          rw [← hj] at hnd ⊢
          by_cases hx : idxL A s.met j < s.met.length
          · rw [if_pos hx]
            refine ⟨ih.first, ih.pos, ih.lt, ih.live, ih.apart, ih.wl, by simp; omega, fun h => absurd h (by show ¬ s.wide.length = s.met.length; omega), ih.rows, fun _ b hb => ?_⟩
            show CellB A s.met (s.met.getD s.wide.length 0) b ((s.row ++ [((idxL A s.met j : Nat) : Int)]).getD b 0)
            rw [← hi]
            simp only [List.length_append, List.length_singleton] at hb
            by_cases e : b < s.row.length
            · rw [getD_app1 e]
              have := ih.row h1 b e
              rw [← hi] at this
              exact this
            · obtain rfl : b = s.row.length := by omega
              rw [getD_app2]
              exact .inr ⟨hd, _, rfl, hx, by rw [← hj]; exact idxL_lt hx⟩
          · rw [if_neg hx]
            have hxe : idxL A s.met j = s.met.length := by have := idxL_le (A := A) s.met j; omega
            have hl : (s.met ++ [j]).length = s.met.length + 1 := by simp
            refine ⟨by rw [getD_app1 ih.pos]; exact ih.first, by rw [hl]; omega, fun k hk => ?_, fun k hk => ?_, fun k q hk hq he => ?_, by show s.wide.length ≤ (s.met ++ [j]).length; rw [hl]; omega, by simp; omega, fun h => absurd h (by show ¬ s.wide.length = (s.met ++ [j]).length; rw [hl]; omega), fun k hk => ⟨(ih.rows k hk).1, fun b hb => ?_⟩, fun _ b hb => ?_⟩
            · have hk : k < (s.met ++ [j]).length := hk
              rw [hl] at hk
              show (s.met ++ [j]).getD k 0 < A.n
              by_cases e : k < s.met.length
              · rw [getD_app1 e]; exact ih.lt k e
              · obtain rfl : k = s.met.length := by omega
                rw [getD_app2]; exact hjn
            · have hk : k < (s.met ++ [j]).length := hk
              rw [hl] at hk
              show Live A ((s.met ++ [j]).getD k 0)
              by_cases e : k < s.met.length
              · rw [getD_app1 e]; exact ih.live k e
              · obtain rfl : k = s.met.length := by omega
                rw [getD_app2]; exact hnd.2
            · have hk : k < (s.met ++ [j]).length := hk
              have hq : q < (s.met ++ [j]).length := hq
              rw [hl] at hk hq
              have he : LE A A ((s.met ++ [j]).getD k 0) ((s.met ++ [j]).getD q 0) := he
              by_cases e : k < s.met.length
              · rw [getD_app1 e] at he
                by_cases e2 : q < s.met.length
                · rw [getD_app1 e2] at he
                  exact ih.apart k q e e2 he
                · obtain rfl : q = s.met.length := by omega
                  rw [getD_app2] at he
                  exact (idxL_none hxe e he.symm).elim
              · obtain rfl : k = s.met.length := by omega
                rw [getD_app2] at he
                by_cases e2 : q < s.met.length
                · rw [getD_app1 e2] at he
                  exact (idxL_none hxe e2 he).elim
                · omega
            · show CellB A (s.met ++ [j]) ((s.met ++ [j]).getD k 0) b ((s.wide.getD k []).getD b 0)
              have hk : k < s.wide.length := hk
              rw [getD_app1 (by omega)]
              exact ((ih.rows k hk).2 b hb).app j
            · show CellB A (s.met ++ [j]) ((s.met ++ [j]).getD s.wide.length 0) b ((s.row ++ [((idxL A s.met j : Nat) : Int)]).getD b 0)
              rw [getD_app1 h1, ← hi]
              simp only [List.length_append, List.length_singleton] at hb
              by_cases e : b < s.row.length
              · rw [getD_app1 e]
                have := ih.row h1 b e
                rw [← hi] at this
                exact this.app j
              · obtain rfl : b = s.row.length := by omega
                rw [getD_app2, hxe]
                exact .inr ⟨hd, _, rfl, by rw [hl]; omega, by rw [getD_app2, ← hj]; exact LE.refl A j⟩
      · rw [if_neg h2]
        have h256 : s.row.length = 256 := by have := ih.rl; omega
        refine ⟨ih.first, ih.pos, ih.lt, ih.live, ih.apart, by simp; omega, by simp, fun _ => rfl, fun k hk => ?_, fun _ b hb => by cases hb⟩
        have hk : k < (s.wide ++ [s.row]).length := hk
        simp only [List.length_append, List.length_singleton] at hk
        show ((s.wide ++ [s.row]).getD k []).length = 256 ∧ ∀ b, b < 256 → CellB A s.met (s.met.getD k 0) b (((s.wide ++ [s.row]).getD k []).getD b 0)
        by_cases e : k < s.wide.length
        · rw [getD_app1 e]; exact ih.rows k e
        · obtain rfl : k = s.wide.length := by omega
          rw [getD_app2]
          exact ⟨h256, fun b hb => ih.row h1 b (by omega)⟩
    · rw [if_neg h1]; exact ih
theorem BReach.inv {s : Bf} (h : BReach A s) (hok : A.Ok) (h0 : Live A 0) : BInv A s := by
  obtain ⟨k, rfl⟩ := h
  exact binv hok h0 k
/-- two automata whose first states take the same meet states alike -/
structure Twin (A B : Aut) (s t : Bf) : Prop where
  len : s.met.length = t.met.length
  le : ∀ k, k < s.met.length → LE A B (s.met.getD k 0) (t.met.getD k 0)
  row : s.row = t.row
  wide : s.wide = t.wide
theorem twins (hA : A.Ok) (hB : B.Ok) (h0 : Live A 0) (hl : LE A B 0 0) : ∀ k, Twin A B (biter A k) (biter B k)
  | 0 => ⟨rfl, fun k hk => by
      obtain rfl : k = 0 := by simp [biter] at hk; omega
      exact hl, rfl, rfl⟩
  | k + 1 => by
    have ih := twins hA hB h0 hl k
    have ia := binv hA h0 k
    show Twin A B (bstep A (biter A k)) (bstep B (biter B k))
    obtain ⟨s, hs⟩ : ∃ s, s = biter A k := ⟨_, rfl⟩
    obtain ⟨t, ht⟩ : ∃ t, t = biter B k := ⟨_, rfl⟩
    rw [← hs] at ih ia ⊢
    rw [← ht] at ih ⊢
    clear hs ht
    obtain ⟨hlen, hle, hrow, hwide⟩ := ih
    unfold bstep
    rw [← hwide, ← hrow, ← hlen]
    by_cases h1 : s.wide.length < s.met.length
    · rw [if_pos h1, if_pos h1]
      by_cases h2 : s.row.length < 256
      · rw [if_pos h2, if_pos h2]
        have hl1 := hle _ h1
        obtain ⟨i, hi⟩ : ∃ i, i = s.met.getD s.wide.length 0 := ⟨_, rfl⟩
        obtain ⟨i', hi'⟩ : ∃ i', i' = t.met.getD s.wide.length 0 := ⟨_, rfl⟩
        rw [← hi, ← hi'] at hl1
        rw [← hi, ← hi']
        have hdd := hl1.dead h2
        by_cases hd : Dead A i s.row.length
        · rw [if_pos hd, if_pos (hdd.1 hd)]
          exact ⟨hlen, hle, rfl, rfl⟩
        · rw [if_neg hd, if_neg (fun h9 => hd (hdd.2 h9))]
          have hst := hl1.step h2 hd
          obtain ⟨j, hj⟩ : ∃ j, j = (A.nx i s.row.length).toNat := ⟨_, rfl⟩
          obtain ⟨j', hj'⟩ : ∃ j', j' = (B.nx i' s.row.length).toNat := ⟨_, rfl⟩
          rw [← hj, ← hj'] at hst
          rw [← hj, ← hj']
          have hix : idxL B t.met j' = idxL A s.met j := by
            by_cases hx : idxL A s.met j < s.met.length
            · have h3 := idxL_lt hx
              have h4 : LE B B j' (t.met.getD (idxL A s.met j) 0) := (hst.symm.trans h3).trans (hle _ hx)
              refine idxL_of (by omega) h4 (fun q hq hqe => ?_)
              refine ia.apart _ _ (by omega) hx ?_
              exact ((hle q (by omega)).trans hqe.symm).trans (hst.symm.trans h3)
            · have hxe : idxL A s.met j = s.met.length := by have := idxL_le (A := A) s.met j; omega
              rw [hxe, hlen]
              refine idxL_of_none (fun q hq hqe => ?_)
              exact idxL_none hxe (k := q) (by omega) ((hst.trans hqe).trans (hle q (by omega)).symm)
          rw [hix]
          by_cases hx : idxL A s.met j < s.met.length
          · rw [if_pos hx, if_pos hx]
            exact ⟨hlen, hle, rfl, rfl⟩
          · rw [if_neg hx, if_neg hx]
            refine ⟨by simp [hlen], fun q hq => ?_, rfl, rfl⟩
            have hq : q < (s.met ++ [j]).length := hq
            simp only [List.length_append, List.length_singleton] at hq
            show LE A B ((s.met ++ [j]).getD q 0) ((t.met ++ [j']).getD q 0)
            by_cases e : q < s.met.length
            · rw [getD_app1 e, getD_app1 (by omega)]; exact hle q e
            · obtain rfl : q = s.met.length := by omega
              rw [getD_app2, hlen, getD_app2]
              exact hst
      · rw [if_neg h2, if_neg h2]
        exact ⟨hlen, hle, rfl, rfl⟩
    · rw [if_neg h1, if_neg h1]
      exact ⟨hlen, hle, hrow, hwide⟩
theorem BEnd.twin {s t : Bf} (h : BEnd A s) (k : BEnd B t) (hA : A.Ok) (hB : B.Ok) (h0 : Live A 0) (hl : LE A B 0 0) : Twin A B s t := by
  obtain ⟨⟨a, rfl⟩, h2⟩ := h
  have tw := twins hA hB h0 hl a
  have k2 : BEnd B (biter B a) := ⟨⟨a, rfl⟩, by rw [← tw.len, ← tw.wide]; exact h2⟩
  rw [k.eq k2]
  exact tw
end
/-! Classes of bytes. -/
def colOf (wide : List (List Int)) (b : Nat) : List Int := wide.map (fun r => r.getD b 0)
/-- each byte's class, and the first byte of each class -/
def narrowK (wide : List (List Int)) : Nat → List Nat × List Nat
  | 0 => ([], [])
  | k + 1 => ((narrowK wide k).1 ++ [(narrowK wide k).2.findIdx (fun l => colOf wide l == colOf wide k)], if (narrowK wide k).2.findIdx (fun l => colOf wide l == colOf wide k) < (narrowK wide k).2.length then (narrowK wide k).2 else (narrowK wide k).2 ++ [k])
theorem narrowK_len (wide : List (List Int)) : ∀ k, (narrowK wide k).1.length = k ∧ (narrowK wide k).2.length ≤ k
  | 0 => ⟨rfl, Nat.le_refl _⟩
  | k + 1 => by
    have h := narrowK_len wide k
    unfold narrowK
    refine ⟨by simp [h.1], ?_⟩
    split
    · show (narrowK wide k).2.length ≤ k + 1; omega
    · simp; omega
end Go.Proofs.Ytfjhcoeehjephaa.M9
