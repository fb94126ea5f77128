/- Classes of bytes: plain. -/
import Derived.Test.YtiaigdedkdeeoaaMiBox
namespace Go.Proofs.Ytiaigdedkdeeoaa
/-- numbers that may stand in a row -/
def Nar (x : Int) : Prop := -1 ≤ x ∧ x ≤ 65000
def hiB (x : Int) : UInt8 := UInt8.ofNat ((x + 1).toNat / 256)
def loB (x : Int) : UInt8 := UInt8.ofNat ((x + 1).toNat % 256)
def colT (l : List Int) : Bs := (l.map (fun x => [hiB x, loB x])).flatten
theorem pair_inj {x y : Int} (hx : Nar x) (hy : Nar y) (h1 : hiB x = hiB y) (h2 : loB x = loB y) : x = y := by
  obtain ⟨hx1, hx2⟩ := hx
  obtain ⟨hy1, hy2⟩ := hy
  have e1 := congrArg UInt8.toNat h1
  have e2 := congrArg UInt8.toNat h2
  unfold hiB at e1
  unfold loB at e2
  rw [UInt8.toNat_ofNat', UInt8.toNat_ofNat'] at e1 e2
  omega
theorem colT_inj : ∀ {a b : List Int}, (∀ x ∈ a, Nar x) → (∀ x ∈ b, Nar x) → a.length = b.length → colT a = colT b → a = b
  | [], [], _, _, _, _ => rfl
  | [], _ :: _, _, _, h, _ => by simp at h
  | _ :: _, [], _, _, h, _ => by simp at h
  | x :: a, y :: b, ha, hb, hl, he => by
    have e : hiB x :: loB x :: colT a = hiB y :: loB y :: colT b := he
    injection e with e1 e2
    injection e2 with e2 e3
    rw [pair_inj (ha x (by simp)) (hb y (by simp)) e1 e2, colT_inj (fun z hz => ha z (by simp [hz])) (fun z hz => hb z (by simp [hz])) (by simpa using hl) e3]
theorem colT_snoc (l : List Int) (x : Int) : colT (l ++ [x]) = colT l ++ [hiB x, loB x] := by simp [colT]
theorem colT_len : ∀ (l : List Int), (colT l).length = 2 * l.length
  | [] => rfl
  | x :: l => by
    have : colT (x :: l) = hiB x :: loB x :: colT l := rfl
    rw [this, List.length_cons, List.length_cons, colT_len l, List.length_cons]; omega
/-- the texts of columns that were met -/
def texts (wide : List (List Int)) (least : List Nat) : List Bs := least.map (fun b => colT (colOf wide b))
/-- all rows are of 256 small numbers -/
def WideOk (wide : List (List Int)) : Prop := ∀ k b, Nar ((wide.getD k []).getD b 0)
theorem wide_col {wide : List (List Int)} (h : WideOk wide) (b : Nat) : ∀ x ∈ colOf wide b, Nar x := fun x hx => by
  obtain ⟨r, hr, rfl⟩ := List.mem_map.1 hx
  obtain ⟨k, hk, rfl⟩ := List.getElem_of_mem hr
  have := h k b
  rw [List.getD_eq_getElem?_getD (l := wide), List.getElem?_eq_getElem hk] at this
  exact this
theorem plc_cons {S : Type} [DecidableEq S] (a : S) (l : List S) (s : S) : plc (a :: l) s = if a = s then 0 else plc l s + 1 := by
  unfold plc
  rw [List.idxOf_cons]
  by_cases e : a = s
  · simp [e]
  · rw [if_neg e, beq_eq_false_iff_ne.2 e]; rfl
theorem find_texts {wide : List (List Int)} (h : WideOk wide) (k : Nat) : ∀ (least : List Nat), plc (texts wide least) (colT (colOf wide k)) = least.findIdx (fun l => colOf wide l == colOf wide k)
  | [] => rfl
  | l :: ls => by
    have ih := find_texts h k ls
    have e : texts wide (l :: ls) = colT (colOf wide l) :: texts wide ls := rfl
    rw [e, plc_cons, List.findIdx_cons, ih]
    by_cases e2 : colOf wide l = colOf wide k
    · rw [e2]; simp
    · have e3 : colT (colOf wide l) ≠ colT (colOf wide k) := fun h9 => e2 (colT_inj (wide_col h l) (wide_col h k) (by simp [colOf]) h9)
      have b2 : (colOf wide l == colOf wide k) = false := by simpa using e2
      rw [if_neg e3, b2]; rfl
theorem narrowK_succ (wide : List (List Int)) (k : Nat) : narrowK wide (k + 1) = ((narrowK wide k).1 ++ [(narrowK wide k).2.findIdx (fun l => colOf wide l == colOf wide k)], if (narrowK wide k).2.findIdx (fun l => colOf wide l == colOf wide k) < (narrowK wide k).2.length then (narrowK wide k).2 else (narrowK wide k).2 ++ [k]) := rfl
theorem texts_len (wide : List (List Int)) (least : List Nat) : (texts wide least).length = least.length := by simp [texts]
theorem nar_old {wide : List (List Int)} (h : WideOk wide) {k : Nat} (hm : colT (colOf wide k) ∈ texts wide (narrowK wide k).2) : narrowK wide (k + 1) = ((narrowK wide k).1 ++ [plc (texts wide (narrowK wide k).2) (colT (colOf wide k))], (narrowK wide k).2) := by
  have h1 := plc_lt hm
  rw [texts_len] at h1
  rw [narrowK_succ, ← find_texts h, if_pos h1]
theorem nar_new {wide : List (List Int)} (h : WideOk wide) {k : Nat} (hm : colT (colOf wide k) ∉ texts wide (narrowK wide k).2) : narrowK wide (k + 1) = ((narrowK wide k).1 ++ [(narrowK wide k).2.length], (narrowK wide k).2 ++ [k]) := by
  have h1 := plc_len hm
  rw [texts_len] at h1
  rw [narrowK_succ, ← find_texts h, h1, if_neg (Nat.lt_irrefl _)]
theorem texts_snoc (wide : List (List Int)) (least : List Nat) (k : Nat) : texts wide (least ++ [k]) = texts wide least ++ [colT (colOf wide k)] := by simp [texts]
theorem nar_lt (wide : List (List Int)) : ∀ k, (∀ c ∈ (narrowK wide k).1, c < 256 ∨ c < k) ∧ ∀ b ∈ (narrowK wide k).2, b < k
  | 0 => ⟨fun c hc => (by cases hc), fun b hb => (by cases hb)⟩
  | k + 1 => by
    have ih := nar_lt wide k
    have hl := (narrowK_len wide k).2
    rw [narrowK_succ]
    refine ⟨fun c hc => ?_, fun b hb => ?_⟩
    · rcases List.mem_append.1 hc with h | h
      · have := ih.1 c h; omega
      · simp at h
        have h9 : (narrowK wide k).2.findIdx (fun l => colOf wide l == colOf wide k) ≤ (narrowK wide k).2.length := List.findIdx_le_length
        right; omega
    · simp only at hb
      split at hb
      · have := ih.2 b hb; omega
      · rcases List.mem_append.1 hb with h | h
        · have := ih.2 b h; omega
        · simp at h; omega
/-- the automaton that narrowing makes -/
def narD (wide : List (List Int)) (all : List Nat) (acc : List Bool) : Dfa :=
  ⟨fun b => (narrowK wide 256).1.getD b 0, wide.map (fun r => (narrowK wide 256).2.map (fun b => r.getD b 0)), all.map (fun i => acc.getD i false)⟩
end Go.Proofs.Ytiaigdedkdeeoaa
