/- The maker's repeat: its words, plain; state and part, given up or not. -/
import Derived.Test.YtfjhcoeehjephaaPa3Mc
namespace Go.Proofs.Ytfjhcoeehjephaa
open Go.RowKit

/-- what state says: l, then so many -/
def StA (S : Nat) (b : Bool) (l S2 : Nat) (b2 : Bool) : Prop := (S < 2000 ∧ l = S ∧ S2 = S + 1 ∧ b2 = b) ∨ (S = 2000 ∧ l = 0 ∧ S2 = S ∧ b2 = true)
theorem state_gen (w0 : World) (p S : Nat) (a z : Int) (E : List Ed) (v : Value) (W : World) (bad : Bool) (h : MI w0 p S a z E bad v W) (hS : S ≤ 2000) :
    Calls Try.prog 46 #[.pointer (some ⟨p, 0, none⟩)] W fun e W' => ∃ l S2 b2, e = .returned (.int .i64 ((l : Nat) : Int)) ∧ StA S bad l S2 b2 ∧ MI w0 p S2 a z E b2 v W' ∧ Went p v v W W' := by
  by_cases h2 : S = 2000
  · refine (state_full w0 p S a z E v W bad h h2).mono ?_
    rintro e W' ⟨rfl, h3, h4⟩
    exact ⟨0, S, true, rfl, .inr ⟨h2, rfl, rfl, rfl⟩, h3, h4⟩
  · refine (state_any w0 p S a z E v W bad h (by omega)).mono ?_
    rintro e W' ⟨rfl, h3, h4⟩
    exact ⟨S, S + 1, bad, rfl, .inl ⟨by omega, rfl, rfl, rfl⟩, h3, h4⟩
theorem StA.le {S : Nat} {b : Bool} {l S2 : Nat} {b2 : Bool} (h : StA S b l S2 b2) (hS : S ≤ 2000) : S2 ≤ 2000 := by rcases h with ⟨_, _, rfl, _⟩ | ⟨_, _, rfl, _⟩ <;> omega
/-- what part says, given up or not -/
def PtA (t : Tr) (f o S : Nat) (E : List Ed) (bad : Bool) (S' : Nat) (E' : List Ed) (b : Bool) : Prop := (bad = false → Grew t f o S E S' E' b) ∧ (bad = true → S' = S ∧ E' = E ∧ b = true)
theorem part_gen {t : Tr} (hp : PartAt t) (w0 : World) (p S : Nat) (a z : Int) (E : List Ed) (v : Value) (W : World) (bad : Bool) (f o : Nat) (A : Option Addr) (n c : Nat)
    (h : MI w0 p S a z E bad v W) (ht : TrIn w0 t A n) (hs : Shp t) (hw : TrWf t) (hb : bad = false → f < S ∧ o < S ∧ f ≠ o ∧ S ≤ 2000 ∧ E.length + 4 * (t.nodes * (2001 - S)) ≤ 1000000000) :
    Calls Try.prog 47 #[.pointer (some ⟨p, 0, none⟩), .agg #[.int .i64 t.kind, .int .u64 t.s0, .int .u64 t.s1, .int .u64 t.s2, .int .u64 t.s3, .int .i64 t.lo, .int .i64 t.hi, .slice A n c], .int .i64 (f : Int), .int .i64 (o : Int)] W fun e W' =>
    e = .returned (.tuple #[]) ∧ ∃ S' E' b v', PtA t f o S E bad S' E' b ∧ MI w0 p S' a z E' b v' W' ∧ Went p v v' W W' := by
  cases bad
  · obtain ⟨h1, h2, h3, h4, h5⟩ := hb rfl
    refine (hp w0 p S a z E v W f o A n c h ht hs hw h1 h2 h3 h4 h5).mono ?_
    rintro e W' ⟨rfl, S', E', b, v', h6, h7, h8⟩
    exact ⟨rfl, S', E', b, v', ⟨fun _ => h6, fun h => (by cases h)⟩, h7, h8⟩
  · refine (part_bad t w0 p S a z E v W f o A n c h).mono ?_
    rintro e W' ⟨rfl, h7, h8⟩
    exact ⟨rfl, S, E, true, v, ⟨fun h => (by cases h), fun _ => ⟨rfl, rfl, rfl⟩⟩, h7, h8⟩
section
variable {t kd : Tr} {f o S c fx : Nat} {E : List Ed} {a i cur S' S1 S2 S3 l ag nx bg : Nat} {E' E3 : List Ed} {b b1 b2 b3 : Bool}
theorem cap_rep {x y n d : Nat} (h1 : y ≤ x + 4 * ((n + 1) * d)) {r : Nat} (hd : d + 1 ≤ r) {K : Nat} (h : x + 4 * ((1 + n) * r) ≤ K) (hn : 1 ≤ n) : y + 8 ≤ K := by
  have h3 : (n + 1) * (d + 1) ≤ (n + 1) * r := Nat.mul_le_mul_left _ hd
  rw [Nat.mul_add] at h3
  rw [Nat.add_comm 1 n] at h
  omega
/-- room for the edges -/
theorem RepI.cap (hr : RepT t kd c) (h : RepI t kd f S E i cur S' E' b) (hE : E.length + 4 * (t.nodes * (2001 - S)) ≤ 1000000000) : E'.length + 8 ≤ 1000000000 := by
  have h1 := h.hi
  have h2 := h.lo
  rw [hr.nodes] at hE
  exact cap_rep h.few (by omega) hE (Tr.nodes_pos kd)
theorem cap_part {x y n d r m K : Nat} (h1 : y ≤ x + 4 * ((n + 1) * d)) (hd : d + r ≤ m) (h : x + 4 * ((1 + n) * m) ≤ K) (hr : 1 ≤ r) : y + 4 + 4 * (n * r) ≤ K := by
  have h3 : (n + 1) * (d + r) ≤ (n + 1) * m := Nat.mul_le_mul_left _ hd
  rw [Nat.mul_add, Nat.add_mul n 1 r] at h3
  rw [Nat.add_comm 1 n] at h
  omega
/-- the premises of a part's call -/
theorem RepI.goes (hr : RepT t kd c) (h : RepI t kd f S E i cur S' E' b) (hE : E.length + 4 * (t.nodes * (2001 - S)) ≤ 1000000000) (hf : f < S) (hst : StA S' b nx S1 b1) :
    b1 = false → cur < S1 ∧ nx < S1 ∧ cur ≠ nx ∧ S1 ≤ 2000 ∧ E'.length + 4 * (kd.nodes * (2001 - S1)) ≤ 1000000000 := fun hb => by
  have h1 := h.hi
  have h2 := h.lo
  rcases hst with ⟨h3, rfl, rfl, rfl⟩ | ⟨_, _, _, h3⟩
  · have h4 := h.at_ hb
    rw [hr.nodes] at hE
    have := cap_part h.few (show nx - S + (2001 - (nx + 1)) ≤ 2001 - S by omega) hE (by omega)
    omega
  · rw [hb] at h3; cases h3
theorem RepI.step (hr : RepT t kd c) (h : RepI t kd f S E i cur S' E' false) (hi : i < c) (hf : f < S) (hst : StA S' false nx S1 b1) (hp : PtA kd cur nx S1 E' b1 S2 E3 b2) : RepI t kd f S E (i + 1) nx S2 E3 b2 := by
  rcases hst with ⟨h3, rfl, rfl, rfl⟩ | ⟨h3, rfl, rfl, rfl⟩
  · exact h.next hr hi hf rfl (hp.1 rfl)
  · obtain ⟨rfl, rfl, rfl⟩ := hp.2 rfl
    exact h.none_left hr hi h3
/-- the loop that goes round: the premises of its part's call -/
theorem RepI.goes2 (hr : RepT t kd c) (h : RepI t kd f S E i cur S' E' b) (hE : E.length + 4 * (t.nodes * (2001 - S)) ≤ 1000000000) (hst : StA S' b l S1 b1) (hst2 : StA S1 b1 ag S2 b2) :
    b2 = false → l < S2 ∧ ag < S2 ∧ l ≠ ag ∧ S2 ≤ 2000 ∧ (E' ++ [freeE cur l]).length + 4 * (kd.nodes * (2001 - S2)) ≤ 1000000000 := fun hb => by
  have h1 := h.hi
  have h2 := h.lo
  rcases hst2 with ⟨h3, rfl, rfl, rfl⟩ | ⟨_, _, _, h3⟩
  · rcases hst with ⟨h4, rfl, rfl, rfl⟩ | ⟨_, _, _, h4⟩
    · rw [hr.nodes] at hE
      have := cap_part h.few (show l - S + (2001 - (l + 1 + 1)) ≤ 2001 - S by omega) hE (by omega)
      rw [List.length_append]
      simp only [List.length_cons, List.length_nil]
      omega
    · rw [hb] at h4; cases h4
  · rw [hb] at h3; cases h3
/-- behind the part that goes round there is room for some edges more -/
theorem RepI.cap2 (hr : RepT t kd c) (h : RepI t kd f S E i cur S' E' b) (hE : E.length + 4 * (t.nodes * (2001 - S)) ≤ 1000000000) (hst : StA S' b l S1 b1) (hst2 : StA S1 b1 ag S2 b2)
    (hp : PtA kd l ag S2 (E' ++ [freeE cur l]) b2 S3 E3 b3) : E3.length + 3 ≤ 1000000000 := by
  have h9 := h.cap hr hE
  have h1 := h.hi
  have h2 := h.lo
  cases hb : b2
  · have h8 := hp.1 hb
    have h6 := h8.few
    have h7 := h8.hi
    have h5 := h8.lo
    rcases hst2 with ⟨h3, rfl, rfl, rfl⟩ | ⟨_, _, _, h3⟩
    · rcases hst with ⟨h4, rfl, rfl, rfl⟩ | ⟨_, _, _, h4⟩
      · rw [hr.nodes] at hE
        have := cap_part h.few (show l - S + (1 + (S3 - (l + 1 + 1))) ≤ 2001 - S by omega) hE (by omega)
        rw [List.length_append] at h6
        simp only [List.length_cons, List.length_nil] at h6
        omega
      · rw [hb] at h4; cases h4
    · rw [hb] at h3; cases h3
  · obtain ⟨_, rfl, _⟩ := hp.2 hb
    rw [List.length_append]
    simp only [List.length_cons, List.length_nil]
    omega
/-- what goes round is made -/
theorem RepI.ends (hr : RepT t kd c) (h : RepI t kd f S E i cur S' E' b) (hhi : t.hi < 0) (hfx : (fx : Int) = max (t.lo - 1) 0) (hi : b = false → i = fx) (hf : f < S) (ho : o < S) (hfo : f ≠ o) (hst : StA S' b l S1 b1) (hst2 : StA S1 b1 ag S2 b2)
    (hp : PtA kd l ag S2 (E' ++ [freeE cur l]) b2 S3 E3 b3) : Grew t f o S E S3 (E3 ++ freeE ag l :: freeE ag o :: (if decide (t.lo = 0) = true then [freeE l o] else [])) b3 := by
  have hM : (freeE (cur : Int) l :: freeE ag l :: freeE ag o :: (if decide (t.lo = 0) = true then [freeE (l : Int) o] else [])).length ≤ 4 := by split <;> simp
  cases b
  · obtain rfl := hi rfl
    have hc := hr.c1
    have hl := hr.lo0
    rcases hst with ⟨h3, rfl, rfl, rfl⟩ | ⟨h3, rfl, rfl, rfl⟩
    · rcases hst2 with ⟨h4, rfl, rfl, rfl⟩ | ⟨h4, rfl, rfl, rfl⟩
      · exact h.around hr hhi hfx hf ho hfo (by omega) rfl rfl (hp.1 rfl)
      · obtain ⟨rfl, rfl, rfl⟩ := hp.2 rfl
        have := h.no_round (o := o) hr (by omega) (show 2000 = l + 1 by omega) (by omega) (by omega) hM
        simpa using this
    · rcases hst2 with ⟨h4, rfl, rfl, rfl⟩ | ⟨h4, rfl, rfl, rfl⟩
      · omega
      · obtain ⟨rfl, rfl, rfl⟩ := hp.2 rfl
        have := h.no_round (o := o) hr (by omega) h3.symm (by omega) (by omega) hM
        simpa using this
  · have hS := (h.full rfl).1
    rcases hst with ⟨h3, _⟩ | ⟨h3, rfl, rfl, rfl⟩
    · omega
    · rcases hst2 with ⟨h4, _⟩ | ⟨h4, rfl, rfl, rfl⟩
      · omega
      · obtain ⟨rfl, rfl, rfl⟩ := hp.2 rfl
        have := h.given_up (o := o) hr hM
        simpa using this
/-- the loop behind -/
theorem RepJ.from (h : RepI t kd f S E i cur S' E' b) (ho : o < S) (hfo : f ≠ o) (hi : b = false → i = a) : RepJ t kd f o S E a a cur S' E' b := by
  cases b
  · obtain rfl := hi rfl
    exact RepJ.begin h ho hfo rfl
  · refine ⟨h.lo, h.hi, ?_, h.full, fun h => (by cases h), fun h => (by cases h)⟩
    have := h.few
    simp only [if_true]
    omega
theorem RepJ.cap (hr : RepT t kd c) (h : RepJ t kd f o S E a i cur S' E' b) (hE : E.length + 4 * (t.nodes * (2001 - S)) ≤ 1000000000) : E'.length + 6 ≤ 1000000000 := by
  have h1 := h.hi
  have h2 := h.lo
  rw [hr.nodes] at hE
  have h3 : (if b = true then 2 else 0) ≤ 2 := by split <;> omega
  have h4 := h.few
  have := cap_rep (y := E'.length - 2) (x := E.length) (n := kd.nodes) (d := S' - S) (by omega) (by omega) hE (Tr.nodes_pos kd)
  omega
theorem RepJ.goes (hr : RepT t kd c) (h : RepJ t kd f o S E a i cur S' E' false) (hE : E.length + 4 * (t.nodes * (2001 - S)) ≤ 1000000000) (hst : StA S' false nx S1 b1) (hst2 : StA S1 b1 bg S2 b2) :
    b2 = false → bg < S2 ∧ nx < S2 ∧ bg ≠ nx ∧ S2 ≤ 2000 ∧ (E' ++ [freeE cur o] ++ [freeE cur bg]).length + 4 * (kd.nodes * (2001 - S2)) ≤ 1000000000 := fun hb => by
  have h1 := h.hi
  have h2 := h.lo
  rcases hst2 with ⟨h3, rfl, rfl, rfl⟩ | ⟨_, _, _, h3⟩
  · rcases hst with ⟨h4, rfl, rfl, rfl⟩ | ⟨_, _, _, h4⟩
    · rw [hr.nodes] at hE
      have h6 := h.few
      simp only [Bool.false_eq_true, if_false, Nat.add_zero] at h6
      have := cap_part h6 (show nx - S + (2001 - (nx + 1 + 1)) ≤ 2001 - S by omega) hE (by omega)
      rw [List.length_append, List.length_append]
      simp only [List.length_cons, List.length_nil]
      omega
    · rw [hb] at h4; cases h4
  · rw [hb] at h3; cases h3
theorem RepJ.step (hr : RepT t kd c) (h : RepJ t kd f o S E a i cur S' E' false) (hai : a ≤ i) (hi : i < c) (hf : f < S) (ho : o < S) (hfo : f ≠ o) (hst : StA S' false nx S1 b1) (hst2 : StA S1 b1 bg S2 b2)
    (hp : PtA kd bg nx S2 (E' ++ [freeE cur o] ++ [freeE cur bg]) b2 S3 E3 b3) : RepJ t kd f o S E a (i + 1) nx S3 E3 b3 := by
  rcases hst with ⟨h3, rfl, rfl, rfl⟩ | ⟨h3, rfl, rfl, rfl⟩
  · rcases hst2 with ⟨h4, rfl, rfl, rfl⟩ | ⟨h4, rfl, rfl, rfl⟩
    · exact h.next hr hai hi hf ho hfo rfl rfl (hp.1 rfl)
    · obtain ⟨rfl, rfl, rfl⟩ := hp.2 rfl
      exact h.none_left hr hi (by omega) (by omega) (by omega) (by omega)
  · rcases hst2 with ⟨h4, rfl, rfl, rfl⟩ | ⟨h4, rfl, rfl, rfl⟩
    · omega
    · obtain ⟨rfl, rfl, rfl⟩ := hp.2 rfl
      exact h.none_left hr hi (by omega) (by omega) (by omega) (by omega)
end
end Go.Proofs.Ytfjhcoeehjephaa
