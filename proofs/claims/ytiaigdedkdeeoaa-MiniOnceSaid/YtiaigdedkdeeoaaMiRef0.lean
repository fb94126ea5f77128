/- Parting by columns: plain. -/
import Derived.Test.YtiaigdedkdeeoaaMiKey
namespace Go.Proofs.Ytiaigdedkdeeoaa
/-- where state i goes by column c, told by parts -/
def toP (part : List Int) (rows : List (List Int)) (i c : Nat) : Int := if 0 ≤ (rows.getD i []).getD c 0 then part.getD ((rows.getD i []).getD c 0).toNat 0 else -1
def keyP (now part : List Int) (rows : List (List Int)) (c i : Nat) : Int × Int := (now.getD i 0, toP part rows i c)
def colK (now part : List Int) (rows : List (List Int)) (c : Nat) : Nat → List (Int × Int)
  | 0 => []
  | i + 1 => if now.getD i 0 < 0 ∨ keyP now part rows c i ∈ colK now part rows c i then colK now part rows c i else colK now part rows c i ++ [keyP now part rows c i]
def colN (now part : List Int) (rows : List (List Int)) (c : Nat) : Nat → List Int
  | 0 => []
  | i + 1 => colN now part rows c i ++ [if now.getD i 0 < 0 then now.getD i 0 else (plc (colK now part rows c i) (keyP now part rows c i) : Nat)]
theorem plc_len {S : Type} [DecidableEq S] {l : List S} {x : S} (h : x ∉ l) : plc l x = l.length := by unfold plc; exact List.idxOf_eq_length h
theorem plc_lt {S : Type} [DecidableEq S] {l : List S} {x : S} (h : x ∈ l) : plc l x < l.length := by unfold plc; exact List.idxOf_lt_length_of_mem h
section
variable {now part : List Int} {rows : List (List Int)} {c : Nat}
theorem colN_len : ∀ i, (colN now part rows c i).length = i
  | 0 => rfl
  | i + 1 => by unfold colN; rw [List.length_append, colN_len i]; rfl
theorem colK_succ (i : Nat) : colK now part rows c (i + 1) = if now.getD i 0 < 0 ∨ keyP now part rows c i ∈ colK now part rows c i then colK now part rows c i else colK now part rows c i ++ [keyP now part rows c i] := rfl
theorem colK_len : ∀ i, (colK now part rows c i).length ≤ i
  | 0 => Nat.le_refl _
  | i + 1 => by
    rw [colK_succ]
    have := colK_len i
    split
    · omega
    · rw [List.length_append]; simp; omega
theorem colK_mono {x : Int × Int} : ∀ {i k : Nat}, i ≤ k → x ∈ colK now part rows c i → x ∈ colK now part rows c k ∧ plc (colK now part rows c k) x = plc (colK now part rows c i) x := fun {i k} h hx => by
  induction h with
  | refl => exact ⟨hx, rfl⟩
  | @step k h ih =>
    rw [colK_succ]
    split
    · exact ih
    · refine ⟨List.mem_append_left _ ih.1, ?_⟩
      rw [plc_old _ ih.1, ih.2]
theorem colN_lt : ∀ {i k : Nat}, i < k → (colN now part rows c k).getD i 0 = (colN now part rows c (i + 1)).getD i 0 := fun {i k} h => by
  induction h with
  | refl => rfl
  | @step k h ih =>
    rw [← ih]
    show (colN now part rows c k ++ [_]).getD i 0 = _
    rw [getD_app1 (by rw [colN_len]; exact h)]
theorem colN_one (i : Nat) : (colN now part rows c (i + 1)).getD i 0 = if now.getD i 0 < 0 then now.getD i 0 else (plc (colK now part rows c i) (keyP now part rows c i) : Nat) := by
  have h : ((colN now part rows c i) ++ [if now.getD i 0 < 0 then now.getD i 0 else ((plc (colK now part rows c i) (keyP now part rows c i) : Nat) : Int)]).getD (colN now part rows c i).length 0 = _ := getD_app2
  rw [colN_len] at h
  exact h
theorem colN_at {i k : Nat} (h : i < k) (h0 : 0 ≤ now.getD i 0) : keyP now part rows c i ∈ colK now part rows c k ∧ (colN now part rows c k).getD i 0 = (plc (colK now part rows c k) (keyP now part rows c i) : Nat) := by
  rw [colN_lt h, colN_one, if_neg (by omega)]
  by_cases hm : keyP now part rows c i ∈ colK now part rows c i
  · have := colK_mono (Nat.le_of_lt h) hm
    exact ⟨this.1, by rw [this.2]⟩
  · have h1 : colK now part rows c (i + 1) = colK now part rows c i ++ [keyP now part rows c i] := by
      show (if _ then _ else _) = _
      rw [if_neg]
      rintro (h9 | h9)
      · omega
      · exact hm h9
    have h2 : keyP now part rows c i ∈ colK now part rows c (i + 1) := by rw [h1]; simp
    have := colK_mono (show i + 1 ≤ k from h) h2
    refine ⟨this.1, ?_⟩
    rw [this.2, h1, plc_new hm, plc_len hm]
theorem colN_neg {i k : Nat} (h : i < k) (h0 : now.getD i 0 < 0) : (colN now part rows c k).getD i 0 = now.getD i 0 := by
  rw [colN_lt h, colN_one, if_pos h0]
theorem colN_over {i k : Nat} (h : k ≤ i) : (colN now part rows c k).getD i 0 = 0 := by
  rw [List.getD_eq_getElem?_getD, List.getElem?_eq_none (by rw [colN_len]; exact h)]; rfl
theorem colN_sm {n : Nat} (hs : ∀ i, -1 ≤ now.getD i 0) (hn : n ≤ 400) (k : Nat) (hk : k ≤ n) : ∀ i, -1 ≤ (colN now part rows c k).getD i 0 ∧ ((colN now part rows c k).getD i 0 < 0 ∨ (colN now part rows c k).getD i 0 ≤ 400) := fun i => by
  by_cases h : i < k
  · by_cases h0 : now.getD i 0 < 0
    · rw [colN_neg h h0]; exact ⟨hs i, .inl h0⟩
    · rw [(colN_at h (by omega)).2]
      have h1 := plc_lt (colN_at (now := now) (part := part) (rows := rows) (c := c) h (by omega)).1
      have h2 := colK_len (now := now) (part := part) (rows := rows) (c := c) k
      omega
  · rw [colN_over (by omega)]; omega
end
/-- finer by the columns below u -/
structure FineC (n : Nat) (rows : List (List Int)) (part now : List Int) (u : Nat) : Prop where
  dead : ∀ i, i < n → part.getD i 0 < 0 → now.getD i 0 = part.getD i 0
  live : ∀ i, i < n → 0 ≤ part.getD i 0 → 0 ≤ now.getD i 0
  iff : ∀ i j, i < n → j < n → 0 ≤ part.getD i 0 → 0 ≤ part.getD j 0 → (now.getD i 0 = now.getD j 0 ↔ part.getD i 0 = part.getD j 0 ∧ ∀ c, c < u → toP part rows i c = toP part rows j c)
theorem FineC.start (n : Nat) (rows : List (List Int)) (part : List Int) : FineC n rows part part 0 :=
  ⟨fun _ _ _ => rfl, fun _ _ h => h, fun i j _ _ _ _ => ⟨fun h => ⟨h, fun c hc => by omega⟩, fun h => h.1⟩⟩
theorem FineC.next {n : Nat} {rows : List (List Int)} {part now : List Int} {u : Nat} (h : FineC n rows part now u) : FineC n rows part (colN now part rows u n) (u + 1) := by
  refine ⟨fun i hi h0 => ?_, fun i hi h0 => ?_, fun i j hi hj h0 h1 => ?_⟩
  · have := h.dead i hi h0
    rw [colN_neg hi (by omega), this]
  · have := h.live i hi h0
    rw [(colN_at hi this).2]; omega
  · have a0 := h.live i hi h0
    have a1 := h.live j hj h1
    have k0 := colN_at (part := part) (rows := rows) (c := u) hi a0
    have k1 := colN_at (part := part) (rows := rows) (c := u) hj a1
    rw [k0.2, k1.2]
    have key : ((plc (colK now part rows u n) (keyP now part rows u i) : Nat) : Int) = (plc (colK now part rows u n) (keyP now part rows u j) : Nat) ↔ keyP now part rows u i = keyP now part rows u j := by
      constructor
      · intro e
        have e1 : plc (colK now part rows u n) (keyP now part rows u i) = plc (colK now part rows u n) (keyP now part rows u j) := by omega
        have g0 := plc_get k0.1
        have g1 := plc_get k1.1
        rw [e1, g1] at g0
        exact (Option.some.inj g0).symm
      · intro e; rw [e]
    rw [key]
    unfold keyP
    rw [Prod.mk.injEq, h.iff i j hi hj h0 h1]
    constructor
    · rintro ⟨⟨e, h2⟩, h3⟩
      refine ⟨e, fun c hc => ?_⟩
      by_cases e2 : c = u
      · subst e2; exact h3
      · exact h2 c (by omega)
    · rintro ⟨e, h2⟩
      exact ⟨⟨e, fun c hc => h2 c (by omega)⟩, h2 u (by omega)⟩
/-- rows whose columns are just those of the classes that some byte has -/
structure Going (A : Aut) (rows : List (List Int)) (u : Nat) : Prop where
  len : rows.length = A.n
  wid : ∀ i, i < A.n → (rows.getD i []).length = u
  fwd : ∀ b, b < 256 → ∃ c, c < u ∧ ∀ i, i < A.n → (rows.getD i []).getD c 0 = A.nx i b
  bwd : ∀ c, c < u → ∃ b, b < 256 ∧ ∀ i, i < A.n → (rows.getD i []).getD c 0 = A.nx i b
theorem FineC.fine {A : Aut} {rows : List (List Int)} {u : Nat} {part now : List Int} (h : FineC A.n rows part now u) (hg : Going A rows u) : Fine A (fun i => part.getD i 0) (fun i => now.getD i 0) := by
  have hp : ∀ i b c, i < A.n → (rows.getD i []).getD c 0 = A.nx i b → PT A (fun i => part.getD i 0) i b = toP part rows i c := fun i b c hi he => by unfold PT toP; rw [he]
  refine ⟨h.dead, h.live, fun i j hi hj h0 h1 => ?_⟩
  rw [h.iff i j hi hj h0 h1]
  constructor
  · rintro ⟨e, h2⟩
    refine ⟨e, fun b hb => ?_⟩
    obtain ⟨c, hc, hall⟩ := hg.fwd b hb
    rw [hp i b c hi (hall i hi), hp j b c hj (hall j hj)]
    exact h2 c hc
  · rintro ⟨e, h2⟩
    refine ⟨e, fun c hc => ?_⟩
    obtain ⟨b, hb, hall⟩ := hg.bwd c hc
    rw [← hp i b c hi (hall i hi), ← hp j b c hj (hall j hj)]
    exact h2 b hb
end Go.Proofs.Ytiaigdedkdeeoaa
