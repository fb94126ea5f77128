/- What the maker's loops of a repetition have made so far. Plain. -/
import Derived.Test.YtpeoomdfopjlmaaGrow
namespace Go.Proofs.Ytpeoomdfopjlmaa
open Go.RowKit

/-- a repetition that may be, its kid -/
structure RepT (t k : Tr) (c : Nat) : Prop where
  kind : t.kind = 4
  one : t.kids.length = 1
  kid : k = t.kids.getD 0 noTr
  times : c = t.times
  lo0 : 0 ≤ t.lo
  lo20 : t.lo ≤ 20
  hi : t.hi = -1 ∨ (t.lo ≤ t.hi ∧ t.hi ≤ 20)
theorem repT_of {t : Tr} (h : OkT t) (hk : t.kind = 4) : RepT t (t.kids.getD 0 noTr) t.times := by
  unfold OkT at h
  have h1 : t.kids.length = 1 ∧ 0 ≤ t.lo ∧ t.lo ≤ 20 ∧ (t.hi = -1 ∨ (t.lo ≤ t.hi ∧ t.hi ≤ 20 ∧ ¬ (t.lo = 1 ∧ t.hi = 1))) := by omega
  exact ⟨hk, h1.1, rfl, rfl, h1.2.1, h1.2.2.1, by omega⟩
section
variable {t kd : Tr} {c : Nat}
theorem RepT.size (h : RepT t kd c) : t.size = 2 + kd.size * c := by
  have h2 := sizeK_next t.times t.kids 0 (by have := h.one; omega)
  rw [List.take_of_length_le (by have := h.one; omega)] at h2
  rw [Tr.size_eq, h2, ← h.kid, ← h.times]
  simp [sizeL]
theorem RepT.nodes (h : RepT t kd c) : t.nodes = 1 + kd.nodes := by
  have h2 := nodesK_next t.kids 0 (by have := h.one; omega)
  rw [List.take_of_length_le (by have := h.one; omega)] at h2
  rw [Tr.nodes_eq, h2, ← h.kid]
  simp [nodesL]
theorem RepT.c1 (h : RepT t kd c) : 1 ≤ c ∧ t.lo.toNat ≤ c ∧ t.hi.toNat ≤ c := by
  rw [h.times]
  unfold Tr.times
  rw [if_pos h.kind]
  omega
theorem RepT.lang (h : RepT t kd c) (s : ByteArray) : t.lang s = repL (kd.lang s) t.lo t.hi := by
  rw [lang_rep h.kind h.one, ← h.kid]
end
theorem few_rep {x y z a d1 d2 n m : Nat} (h1 : y ≤ x + 4 * ((a + 1) * d1)) (h2 : z ≤ y + n + 4 * (a * (1 + d2))) (hm : 1 ≤ m) (hn : n ≤ 4 * m) : z ≤ x + 4 * ((a + 1) * (d1 + m + d2)) := by
  have h3 : a * 1 ≤ a * m := Nat.mul_le_mul_left a hm
  have h4 : (a + 1) * (d1 + m + d2) = (a + 1) * d1 + (a * m + m) + (a * d2 + d2) := by
    rw [Nat.mul_add, Nat.mul_add, Nat.add_mul a 1 m, Nat.add_mul a 1 d2]
    omega
  rw [Nat.mul_add] at h2
  omega

/-- the loop ahead: so many times -/
structure RepI (t kd : Tr) (f S : Nat) (E : List Ed) (i cur S' : Nat) (E' : List Ed) (bad : Bool) : Prop where
  lo : S ≤ S'
  hi : S' ≤ 2000
  few : E'.length ≤ E.length + 4 * ((kd.nodes + 1) * (S' - S))
  full : bad = true → S' = 2000 ∧ 2004 < S + 2 * t.size
  room : bad = false → S' ≤ S + 2 * (kd.size * i) ∧ E'.length ≤ E.length + 2 * (kd.size * i)
  at_ : bad = false → cur = f ∨ (S ≤ cur ∧ cur < S')
  good : bad = false → ∃ N, E' = E ++ N ∧ WfE N ∧ ∀ s, Frag s (powL (kd.lang s) i) f cur S S' N
/-- the loop behind: left to o each time -/
structure RepJ (t kd : Tr) (f o S : Nat) (E : List Ed) (a i cur S' : Nat) (E' : List Ed) (bad : Bool) : Prop where
  lo : S ≤ S'
  hi : S' ≤ 2000
  few : E'.length ≤ E.length + 4 * ((kd.nodes + 1) * (S' - S)) + (if bad = true then 2 else 0)
  full : bad = true → S' = 2000 ∧ 2004 < S + 2 * t.size
  room : bad = false → S' ≤ S + 2 * (kd.size * i) ∧ E'.length ≤ E.length + 2 * (kd.size * i)
  good : bad = false → ∃ N, E' = E ++ N ∧ WfE N ∧ ∀ s, Frag2 s (powL (kd.lang s) i) (fun i' j' => ∃ d : Nat, a ≤ d ∧ d < i ∧ powL (kd.lang s) d i' j') f cur o S S' N
section
variable {t kd : Tr} {f o S c : Nat} {E : List Ed} {a i cur S' S2 nx bg : Nat} {E' E2 : List Ed} {b2 : Bool}
theorem mul_lt_size {sk i c : Nat} (hi : i < c) : sk * i + sk ≤ sk * c := by
  have := Nat.mul_le_mul_left sk (show i + 1 ≤ c from hi)
  rwa [Nat.mul_succ] at this
theorem RepI.begin (hS : S ≤ 2000) : RepI t kd f S E 0 f S E false :=
  ⟨Nat.le_refl _, hS, by simp, fun h => (by cases h), fun _ => by simp, fun _ => .inl rfl, fun _ => ⟨[], by simp, WfE.nil, fun s => Frag.nil s f S S⟩⟩
theorem RepI.next (hr : RepT t kd c) (h : RepI t kd f S E i cur S' E' false) (hi : i < c) (hf : f < S) (hx : nx = S') (hg : Grew kd cur nx (S' + 1) E' S2 E2 b2) : RepI t kd f S E (i + 1) nx S2 E2 b2 := by
  subst hx
  have hsz := hr.size
  have hz := Tr.size_two kd
  have hml := mul_lt_size (sk := kd.size) hi
  have hro := h.room rfl
  have hl := hg.lo
  have hll := h.lo
  refine ⟨by omega, hg.hi, ?_, fun hb => ⟨(hg.full hb).1, ?_⟩, fun hb => ?_, fun hb => .inr ⟨by omega, by omega⟩, fun hb => ?_⟩
  · have := few_rep (n := 0) (m := 1) (z := E2.length) (d2 := S2 - (nx + 1)) h.few (by have := hg.few; omega) (by omega) (by omega)
    rw [show nx - S + 1 + (S2 - (nx + 1)) = S2 - S by omega] at this
    exact this
  · have := (hg.full hb).2
    omega
  · have := hg.room hb
    rw [Nat.mul_succ]
    omega
  · obtain ⟨N, rfl, hw, hF⟩ := h.good rfl
    obtain ⟨M, rfl, hw2, hF2⟩ := hg.good hb
    refine ⟨N ++ M, by simp, hw.app hw2, fun s => ?_⟩
    refine (hF s).seq ((hF2 s).widen (Nat.le_succ _) (Nat.le_refl _)) h.lo (by omega) ?_ ?_ ?_ ?_
    · rcases h.at_ rfl with h9 | h9
      · exact .inl (by omega)
      · exact .inr ⟨by omega, by omega⟩
    · unfold Own; omega
    · omega
    · unfold Own; omega
theorem RepI.none_left (hr : RepT t kd c) (h : RepI t kd f S E i cur S' E' false) (hi : i < c) (hS : S' = 2000) : RepI t kd f S E (i + 1) nx S' E' true := by
  have hsz := hr.size
  have hz := Tr.size_two kd
  have hml := mul_lt_size (sk := kd.size) hi
  have hro := h.room rfl
  exact ⟨h.lo, h.hi, h.few, fun _ => ⟨hS, by omega⟩, fun h => (by cases h), fun h => (by cases h), fun h => (by cases h)⟩
/-- round and round behind it -/
theorem RepI.around (hr : RepT t kd c) (h : RepI t kd f S E i cur S' E' false) (hhi : t.hi < 0) (hi : (i : Int) = max (t.lo - 1) 0) (hf : f < S) (ho : o < S) (hfo : f ≠ o) (hS : S' + 2 ≤ 2000) {l b : Nat} (hl : l = S') (hb : b = S' + 1)
    (hg : Grew kd l b (S' + 2) (E' ++ [freeE cur l]) S2 E2 b2) :
    Grew t f o S E S2 (E2 ++ freeE b l :: freeE b o :: (if decide (t.lo = 0) = true then [freeE l o] else [])) b2 := by
  subst hl hb
  have hsz := hr.size
  have hnd := hr.nodes
  have hz := Tr.size_two kd
  have hc := hr.c1
  have hl20 := hr.lo20
  have hl0 := hr.lo0
  have hic : i < c := by omega
  have hml := mul_lt_size (sk := kd.size) hic
  have hro := h.room rfl
  have hgl := hg.lo
  have hll := h.lo
  have hlen : ((if decide (t.lo = 0) = true then [freeE (l : Int) o] else []) : List Ed).length ≤ 1 := by split <;> simp
  refine ⟨by omega, hg.hi, ?_, fun hb => ⟨(hg.full hb).1, ?_⟩, fun hb => ?_, fun hb => ?_⟩
  · have h1 := few_rep (n := 1) (m := 2) (z := E2.length) (d2 := S2 - (l + 2)) h.few (by have := hg.few; simp only [List.length_append, List.length_cons, List.length_nil] at this; omega) (by omega) (by omega)
    rw [show l - S + 2 + (S2 - (l + 2)) = S2 - S by omega] at h1
    rw [hnd, show 1 + kd.nodes = kd.nodes + 1 by omega]
    rw [Nat.mul_add (kd.nodes + 1) 1]
    have h2 := Tr.nodes_pos kd
    simp only [List.length_append, List.length_cons]
    omega
  · have := (hg.full hb).2
    omega
  · have := hg.room hb
    simp only [List.length_append, List.length_cons, List.length_nil] at this ⊢
    omega
  · obtain ⟨N, rfl, hw, hF⟩ := h.good rfl
    obtain ⟨M, rfl, hw2, hF2⟩ := hg.good hb
    refine ⟨N ++ (freeE cur l :: (M ++ (freeE ((l + 1 : Nat) : Int) l :: freeE ((l + 1 : Nat) : Int) o :: (if decide (t.lo = 0) = true then [freeE l o] else [])))), by simp, ?_, fun s => ?_⟩
    · refine hw.app (fun e he => ?_)
      simp only [List.mem_cons, List.mem_append] at he
      rcases he with rfl | he | rfl | rfl | he
      · exact WfE.freeE _ _ _ (List.mem_singleton.2 rfl)
      · exact hw2 e he
      · exact WfE.freeE _ _ _ (List.mem_singleton.2 rfl)
      · exact WfE.freeE _ _ _ (List.mem_singleton.2 rfl)
      · by_cases h0 : t.lo = 0
        · rw [if_pos (by simpa using h0)] at he
          exact WfE.freeE _ _ _ he
        · rw [if_neg (by simpa using h0)] at he
          exact absurd he (by simp)
    · rw [hr.lang]
      have hcur : (cur : Int) = f ∨ Own S l cur := by
        rcases h.at_ rfl with h9 | h9
        · exact .inl (by omega)
        · exact .inr ⟨by omega, by omega⟩
      have hcn : ¬ Own l S2 (cur : Int) := by
        unfold Own at hcur ⊢
        omega
      have hlp := Frag.loop (f := (cur : Int)) (o := (o : Int)) (z := decide (t.lo = 0)) (hF2 s) rfl (show ((l + 1 : Nat) : Int) = (l : Int) + 1 by omega) rfl hgl hcn (by unfold Own; omega) (by unfold Own at hcur; omega)
      refine ((hF s).seq hlp h.lo (by omega) hcur (by unfold Own; omega) (by omega) (by unfold Own; omega)).lg (fun i' j' => rep_open hl0 hhi hi i' j')
theorem RepJ.begin (h : RepI t kd f S E i cur S' E' false) (ho : o < S) (hfo : f ≠ o) (hia : a = i) : RepJ t kd f o S E a i cur S' E' false := by
  refine ⟨h.lo, h.hi, h.few, fun h => (by cases h), h.room, fun _ => ?_⟩
  obtain ⟨N, h1, h2, h3⟩ := h.good rfl
  refine ⟨N, h1, h2, fun s => ?_⟩
  have hcur : (cur : Int) = f ∨ Own S S' cur := by
    rcases h.at_ rfl with h9 | h9
    · exact .inl (by omega)
    · exact .inr ⟨by omega, by omega⟩
  have h4 := Frag2.of (o := (o : Int)) (h3 s) hcur (by unfold Own; omega) (by omega)
  exact ⟨h4.src, h4.dst, h4.at_, h4.langc, fun i' j' => (h4.lango i' j').trans ⟨fun h => h.elim, fun ⟨d, h5, h6, _⟩ => by omega⟩⟩
theorem RepJ.next (hr : RepT t kd c) (h : RepJ t kd f o S E a i cur S' E' false) (hai : a ≤ i) (hi : i < c) (hf : f < S) (ho : o < S) (hfo : f ≠ o) (hx : nx = S') (hb : bg = S' + 1)
    (hg : Grew kd bg nx (S' + 2) (E' ++ [freeE cur o] ++ [freeE cur bg]) S2 E2 b2) : RepJ t kd f o S E a (i + 1) nx S2 E2 b2 := by
  subst hx hb
  have hsz := hr.size
  have hz := Tr.size_two kd
  have hml := mul_lt_size (sk := kd.size) hi
  have hro := h.room rfl
  have hl := hg.lo
  have hll := h.lo
  refine ⟨by omega, hg.hi, ?_, fun hb => ⟨(hg.full hb).1, ?_⟩, fun hb => ?_, fun hb => ?_⟩
  · have hfe := h.few
    simp only [Bool.false_eq_true, if_false, Nat.add_zero] at hfe
    have := few_rep (n := 2) (m := 2) (z := E2.length) (d2 := S2 - (nx + 2)) hfe (by have := hg.few; simp only [List.length_append, List.length_cons, List.length_nil] at this; omega) (by omega) (by omega)
    rw [show nx - S + 2 + (S2 - (nx + 2)) = S2 - S by omega] at this
    omega
  · have := (hg.full hb).2
    omega
  · have := hg.room hb
    simp only [List.length_append, List.length_cons, List.length_nil] at this
    rw [Nat.mul_succ]
    omega
  · obtain ⟨N, rfl, hw, hF⟩ := h.good rfl
    obtain ⟨M, rfl, hw2, hF2⟩ := hg.good hb
    refine ⟨N ++ (freeE cur o :: freeE cur ((nx + 1 : Nat) : Int) :: M), by simp, ?_, fun s => ?_⟩
    · refine hw.app (fun e he => ?_)
      simp only [List.mem_cons] at he
      rcases he with rfl | rfl | he
      · exact WfE.freeE _ _ _ (List.mem_singleton.2 rfl)
      · exact WfE.freeE _ _ _ (List.mem_singleton.2 rfl)
      · exact hw2 e he
    · have h4 := (hF s).more (nx := (nx : Int)) (b := ((nx + 1 : Nat) : Int)) rfl (by omega) (hF2 s) h.lo (by omega) (by unfold Own; omega) (by unfold Own; omega) (by omega)
      exact ⟨h4.src, h4.dst, h4.at_, h4.langc, fun i' j' => (h4.lango i' j').trans ⟨fun h => by
        rcases h with ⟨d, h5, h6, h7⟩ | h7
        · exact ⟨d, h5, by omega, h7⟩
        · exact ⟨i, hai, by omega, h7⟩, fun ⟨d, h5, h6, h7⟩ => by
        by_cases hd : d = i
        · subst hd; exact .inr h7
        · exact .inl ⟨d, h5, by omega, h7⟩⟩⟩
/-- there is no state left for the one, or for the other -/
theorem RepJ.none_left (hr : RepT t kd c) (h : RepJ t kd f o S E a i cur S' E' false) (hi : i < c) (hS : 2000 ≤ S2 + 0) (hS2 : S2 ≤ S' + 1) (hS3 : S' ≤ S2) (hS4 : S2 ≤ 2000) {x y : Ed} : RepJ t kd f o S E a (i + 1) nx S2 (E' ++ [x] ++ [y]) true := by
  have hsz := hr.size
  have hz := Tr.size_two kd
  have hml := mul_lt_size (sk := kd.size) hi
  have hro := h.room rfl
  have hll := h.lo
  refine ⟨by omega, hS4, ?_, fun _ => ⟨by omega, by omega⟩, fun h => (by cases h), fun h => (by cases h)⟩
  have hfe := h.few
  simp only [Bool.false_eq_true, if_false, Nat.add_zero] at hfe
  have : (kd.nodes + 1) * (S' - S) ≤ (kd.nodes + 1) * (S2 - S) := Nat.mul_le_mul_left _ (by omega)
  simp only [List.length_append, List.length_cons, List.length_nil, if_true]
  omega
theorem RepJ.done (hr : RepT t kd c) (h : RepJ t kd f o S E a i cur S' E' b2) (ha : (a : Int) = t.lo) (hi : b2 = false → (i : Int) = t.hi) (hhi : t.lo ≤ t.hi) (ho : o < S) (hfo : f ≠ o) : Grew t f o S E S' (E' ++ [freeE cur o]) b2 := by
  have hsz := hr.size
  have hnd := hr.nodes
  have hz := Tr.size_two kd
  have hc := hr.c1
  have hll := h.lo
  have hn := Tr.nodes_pos kd
  refine ⟨h.lo, h.hi, ?_, h.full, fun hb => ?_, fun hb => ?_⟩
  · have hfe := h.few
    have h2 : (if b2 = true then 2 else 0) ≤ 2 := by split <;> omega
    rw [hnd, show 1 + kd.nodes = kd.nodes + 1 by omega, Nat.mul_add (kd.nodes + 1) 1]
    simp only [List.length_append, List.length_cons, List.length_nil]
    omega
  · have h1 := h.room hb
    have h2 := hi hb
    have h3 : kd.size * i ≤ kd.size * c := Nat.mul_le_mul_left _ (by omega)
    simp only [List.length_append, List.length_cons, List.length_nil]
    omega
  · obtain ⟨N, rfl, hw, hF⟩ := h.good hb
    refine ⟨N ++ [freeE cur o], by simp, hw.app (WfE.freeE _ _), fun s => ?_⟩
    rw [hr.lang]
    exact ((hF s).close (by unfold Own; omega) (by omega)).lg (fun i' j' => rep_shut ha (hi hb) (by have := hi hb; omega) i' j')
/-- it was given up in the loop ahead -/
theorem RepI.given_up (hr : RepT t kd c) (h : RepI t kd f S E i cur S' E' true) {M : List Ed} (hM : M.length ≤ 4) : Grew t f o S E S' (E' ++ M) true := by
  have hnd := hr.nodes
  have hn := Tr.nodes_pos kd
  refine ⟨h.lo, h.hi, ?_, h.full, fun h => (by cases h), fun h => (by cases h)⟩
  have hfe := h.few
  rw [hnd, show 1 + kd.nodes = kd.nodes + 1 by omega, Nat.mul_add (kd.nodes + 1) 1]
  simp only [List.length_append]
  omega
/-- there was no state left to go round -/
theorem RepI.no_round (hr : RepT t kd c) (h : RepI t kd f S E i cur S' E' false) (hi : i < c) (hS : 2000 = S2) (hS2 : S2 ≤ S' + 1) (hS3 : S' ≤ S2) {M : List Ed} (hM : M.length ≤ 4) : Grew t f o S E S2 (E' ++ M) true := by
  have hsz := hr.size
  have hnd := hr.nodes
  have hz := Tr.size_two kd
  have hml := mul_lt_size (sk := kd.size) hi
  have hro := h.room rfl
  have hll := h.lo
  have hn := Tr.nodes_pos kd
  refine ⟨by omega, by omega, ?_, fun _ => ⟨by omega, by omega⟩, fun h => (by cases h), fun h => (by cases h)⟩
  have hfe := h.few
  have : (kd.nodes + 1) * (S' - S) ≤ (kd.nodes + 1) * (S2 - S) := Nat.mul_le_mul_left _ (by omega)
  rw [hnd, show 1 + kd.nodes = kd.nodes + 1 by omega, Nat.mul_add (kd.nodes + 1) 1]
  simp only [List.length_append]
  omega
end
end Go.Proofs.Ytpeoomdfopjlmaa
