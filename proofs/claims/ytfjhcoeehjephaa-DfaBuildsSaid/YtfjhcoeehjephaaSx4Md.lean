/- The reference's Sets. Plain. -/
import Derived.Test.YtfjhcoeehjephaaSx2Md
import Derived.Test.YtfjhcoeehjephaaSx3Md
import Derived.Test.YtfjhcoeehjephaaBuSMd
import Derived.Test.YtfjhcoeehjephaaDfaMd
namespace Go.Proofs.Ytfjhcoeehjephaa

/-- a set as marks -/
def marks (S : Nat) (X : List Nat) : List Bool := (List.range S).map (fun j => decide (j ∈ X))
theorem marks_len (S : Nat) (X : List Nat) : (marks S X).length = S := by simp [marks]
theorem marks_get {S : Nat} (X : List Nat) {j : Nat} (hj : j < S) : (marks S X).getD j false = decide (j ∈ X) := by simp [marks, hj]
theorem bools_ext {M N : List Bool} (hl : M.length = N.length) (h : ∀ j, j < M.length → M.getD j false = N.getD j false) : M = N := by
  apply List.ext_getElem hl
  intro j h1 h2
  have := h j h1
  simpa [List.getD_eq_getElem?_getD, h1, h2] using this
theorem marks_of {E : List Ed} {S : Nat} {L : List Int} {seen : List Bool} (hE : OkE E S) (hl : seen.length = S) (h : ∀ j, j < S → (seen.getD j false = true ↔ Rch E S L (j : Int))) : seen = marks S (closN E S L) := by
  refine bools_ext (by rw [hl, marks_len]) (fun j hj => ?_)
  rw [hl] at hj
  rw [marks_get _ hj]
  apply Bool.eq_iff_iff.2
  rw [h j hj, decide_eq_true_eq, mem_closN hE]
theorem marks_inj {S : Nat} {X Y : List Nat} (hX : X.Pairwise (· < ·) ∧ ∀ q ∈ X, q < S) (hY : Y.Pairwise (· < ·) ∧ ∀ q ∈ Y, q < S) (h : marks S X = marks S Y) : X = Y := by
  refine rising_ext hX.1 hY.1 (fun q => ?_)
  have key : q < S → (q ∈ X ↔ q ∈ Y) := fun hq => by
    have : (marks S X).getD q false = (marks S Y).getD q false := by rw [h]
    rw [marks_get X hq, marks_get Y hq] at this
    have := Bool.eq_iff_iff.1 this
    simpa using this
  exact ⟨fun h1 => (key (hX.2 q h1)).1 h1, fun h1 => (key (hY.2 q h1)).2 h1⟩
def intsM (M : List Bool) : List Int := M.map (fun b => if b = true then 1 else 0)
theorem intsM_len (M : List Bool) : (intsM M).length = M.length := by simp [intsM]
theorem intsM_inj : ∀ {M N : List Bool}, intsM M = intsM N → M = N
  | [], [], _ => rfl
  | [], b :: N, h => by simp [intsM] at h
  | a :: M, [], h => by simp [intsM] at h
  | a :: M, b :: N, h => by
    have h1 : (if a = true then (1 : Int) else 0) :: intsM M = (if b = true then (1 : Int) else 0) :: intsM N := h
    rw [List.cons.injEq] at h1
    have h2 : a = b := by
      have := h1.1
      cases a <;> cases b <;> simp at this ⊢
    rw [h2, intsM_inj h1.2]
theorem bits_nums (M : List Bool) : bitsV M = numsV .i64 (intsM M) := by simp [bitsV, numsV, intsM]
theorem over_step {E : List Ed} {S : Nat} (hE : OkE E S) (X : List Nat) (b : Nat) : closN E S (overL E (marks S X) b) = stepN E S X b := by
  unfold stepN
  refine closN_congr (fun d => ?_)
  rw [mem_moveL]
  unfold overL
  simp only [List.mem_map, List.mem_filter, Bool.and_eq_true, Bool.not_eq_true']
  constructor
  · rintro ⟨e, ⟨h1, h2, h3, h4⟩, h5⟩
    have hr := hE e h1
    rw [marks_get X (by omega), decide_eq_true_eq] at h3
    exact ⟨e, h1, h2, h4, ⟨e.src.toNat, h3, by omega⟩, h5⟩
  · rintro ⟨e, h1, h2, h4, ⟨i, h6, h7⟩, h5⟩
    have hr := hE e h1
    refine ⟨e, ⟨h1, h2, ?_, h4⟩, h5⟩
    rw [marks_get X (by omega), decide_eq_true_eq, show e.src.toNat = i by omega]
    exact h6
theorem marks_empty {S : Nat} {Y : List Nat} (hY : ∀ q ∈ Y, q < S) : (marks S Y).all (fun b => !b) = decide (Y = []) := by
  apply Bool.eq_iff_iff.2
  rw [decide_eq_true_eq, List.all_eq_true]
  constructor
  · intro h
    cases Y with
    | nil => rfl
    | cons q Y =>
      exfalso
      have := h true (by
        unfold marks
        exact List.mem_map.2 ⟨q, List.mem_range.2 (hY q (by simp)), by simp⟩)
      cases this
  · rintro rfl b hb
    unfold marks at hb
    obtain ⟨j, _, rfl⟩ := List.mem_map.1 hb
    simp
/-- where Sets stands -/
structure SM (E : List Ed) (S : Nat) (a : Int) (cls : Nat → Nat) (i c : Nat) (all : List (List Nat)) : Prop where
  nd : all.Nodup
  rs : ∀ Y ∈ all, RSet E S a Y
  first : closN E S [a] ∈ all
  few : all.length ≤ 401
  done : ∀ j, j < i → ∀ b, b < 256 → moveL E (all.getD j []) b ≠ [] → stepN E S (all.getD j []) b ∈ all
  cur : ∀ b, b < 256 → cls b < c → moveL E (all.getD i []) b ≠ [] → stepN E S (all.getD i []) b ∈ all
section
variable {E : List Ed} {S : Nat} {a : Int} {cls : Nat → Nat} {many i c : Nat} {all : List (List Nat)}
theorem sm_start : SM E S a cls 0 0 [closN E S [a]] := ⟨by simp, fun Y hY => by rw [List.mem_singleton.1 hY]; exact .first, by simp, by simp, fun j hj => absurd hj (by omega), fun b _ h => absurd h (by omega)⟩
theorem alike_cls (hc : ClsOk cls many (setsOf E)) {b b' : Nat} (hb : b < 256) (hb' : b' < 256) (h : cls b = cls b') : Alike E b b' := fun e he hf => by
  have hm : quadOf e ∈ setsOf E := by
    unfold setsOf
    exact List.mem_map.2 ⟨e, List.mem_filter.2 ⟨he, by simp [hf]⟩, rfl⟩
  exact hc.alike b b' hb hb' h _ hm
theorem moveL_al {X : List Nat} {b b' : Nat} (h : Alike E b b') (hm : moveL E X b ≠ []) : moveL E X b' ≠ [] := fun h9 => hm (by
  rw [List.eq_nil_iff_forall_not_mem] at h9 ⊢
  intro d hd
  obtain ⟨e, h2, h3, h4, h5, h6⟩ := mem_moveL.1 hd
  exact h9 d (mem_moveL.2 ⟨e, h2, h3, by rw [← h e h2 h3]; exact h4, h5, h6⟩))
theorem SM.step (h : SM E S a cls i c all) (hc : ClsOk cls many (setsOf E)) {b0 : Nat} (hb0 : b0 < 256) (hcb : cls b0 = c) (hs : moveL E (all.getD i []) b0 ≠ [] → stepN E S (all.getD i []) b0 ∈ all) : SM E S a cls i (c + 1) all :=
  ⟨h.nd, h.rs, h.first, h.few, h.done, fun b hb hlt hm => by
    by_cases e : cls b < c
    · exact h.cur b hb e hm
    · have hal := alike_cls hc hb hb0 (by omega)
      rw [stepN_alike hal]
      exact hs (moveL_al hal hm)⟩
theorem SM.grow (h : SM E S a cls i c all) {Y : List Nat} (hi : i < all.length) (hn : Y ∉ all) (hY : RSet E S a Y) (hf : all.length < 401) : SM E S a cls i c (all ++ [Y]) := by
  refine ⟨?_, fun X hX => ?_, List.mem_append_left _ h.first, by rw [List.length_append, List.length_singleton]; omega, fun j hj b hb hm => ?_, fun b hb hl hm => ?_⟩
  · rw [List.nodup_append]
    exact ⟨h.nd, by simp, fun x hx y hy e => hn (by rw [← List.mem_singleton.1 hy, ← e]; exact hx)⟩
  · rcases List.mem_append.1 hX with h9 | h9
    · exact h.rs X h9
    · rw [List.mem_singleton.1 h9]; exact hY
  · rw [getD_appL _ (by omega)] at hm ⊢
    exact List.mem_append_left _ (h.done j hj b hb hm)
  · rw [getD_appL _ hi] at hm ⊢
    exact List.mem_append_left _ (h.cur b hb hl hm)
theorem SM.next (h : SM E S a cls i many all) (hc : ClsOk cls many (setsOf E)) : SM E S a cls (i + 1) 0 all :=
  ⟨h.nd, h.rs, h.first, h.few, fun j hj b hb hm => by
    by_cases e : j < i
    · exact h.done j e b hb hm
    · obtain rfl : j = i := by omega
      exact h.cur b hb (hc.lt b hb) hm, fun b _ hl => absurd hl (by omega)⟩
theorem SM.fin (h : SM E S a cls all.length 0 all) {X : List Nat} (hX : RSet E S a X) : X ∈ all :=
  RSet.all h.first (fun X hX b hb hm => by
    obtain ⟨i, hi, rfl⟩ := List.getElem_of_mem hX
    have hg : all.getD i [] = all[i] := by simp [List.getD_eq_getElem?_getD, hi]
    have := h.done i hi b hb
    rw [hg] at this
    exact this hm) hX
end
/-- what Sets says -/
def SetsSay (E : List Ed) (S : Nat) (a : Int) (r : Nat) : Prop := (r ≤ 400 ∧ ∃ all : List (List Nat), all.length = r ∧ ∀ X, RSet E S a X → X ∈ all) ∨ (r = 401 ∧ TooMany E S a)
theorem sets_many {E : List Ed} {S : Nat} {a : Int} {all : List (List Nat)} (h1 : all.length = 401) (h2 : all.Nodup) (h3 : ∀ Y ∈ all, RSet E S a Y) : SetsSay E S a 401 := .inr ⟨rfl, all, h1, h2, h3⟩
theorem sm_says {E : List Ed} {S : Nat} {a : Int} {cls : Nat → Nat} {all : List (List Nat)} (h : SM E S a cls all.length 0 all) : SetsSay E S a all.length := by
  by_cases h4 : all.length ≤ 400
  · exact .inl ⟨h4, all, rfl, fun X hX => h.fin hX⟩
  · have h5 := h.few
    have h6 : all.length = 401 := by omega
    rw [h6]; exact sets_many h6 h.nd h.rs
/-- Build and Sets agree -/
theorem says_agree {E : List Ed} {S : Nat} {a z : Int} {many : Nat} {ls : Nat → Nat} {D : Dfa} {all : List (List Nat)} {r : Nat} (h : Mid E S a z many ls all.length all D.next D.acc) (hs : SetsSay E S a r) (hall : ∀ X, RSet E S a X → X ∈ all) : r ≤ 400 := by
  rcases hs with ⟨h1, _⟩ | ⟨_, all', h2, h3, h4⟩
  · exact h1
  · have := nodup_le h3 (fun x hx => hall x (h4 x hx))
    have := h.few
    omega
theorem says_over {E : List Ed} {S : Nat} {a : Int} {r : Nat} (h : TooMany E S a) (hs : SetsSay E S a r) : ¬ r ≤ 400 := by
  obtain ⟨all', h2, h3, h4⟩ := h
  rcases hs with ⟨h1, all, h5, h6⟩ | ⟨h1, _⟩
  · have := nodup_le h3 (fun x hx => h6 x (h4 x hx))
    omega
  · omega
end Go.Proofs.Ytfjhcoeehjephaa
