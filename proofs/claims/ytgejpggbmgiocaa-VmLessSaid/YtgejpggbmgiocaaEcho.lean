/- The program that tells each byte: plain. -/
import Derived.Test.YtgejpggbmgiocaaSteps
import Derived.Test.YtgejpggbmgiocaaRun
namespace Go.Proofs.Ytgejpggbmgiocaa

def echoC : List Ins := [⟨7, 0, 0, 3, 0⟩, ⟨17, 0, 0, 0, 0⟩, ⟨4, 0, 0, 0, 0⟩, ⟨1, 0, 0, 0, 0⟩]
def echoP : Prog := ⟨1, 0, 0, 0, echoC, [], []⟩
def noMg (_ : List Int) : Option (List Int) := none
abbrev echoS (room fuel : Int) := stepF noMg echoP room fuel
theorem Ends.det {stp : St → St × Option Nat} {s t t' : St} {c c' : Nat} (h : Ends stp s t c) (h' : Ends stp s t' c') : t = t' ∧ c = c' := by
  induction h with
  | last h1 =>
    cases h' with
    | last h2 => rw [h1] at h2; cases h2; exact ⟨rfl, rfl⟩
    | more h2 _ => rw [h1] at h2; cases h2
  | more h1 _ ih =>
    cases h' with
    | last h2 => rw [h1] at h2; cases h2
    | more h2 h3 => rw [h1] at h2; cases h2; exact ih h3
section
variable {room fuel : Int} {t : St}
theorem echo_at (k : Nat) (hk : k < 4) (hpc : t.pc = (k : Int)) (i : Ins) (hi : echoC.getD k noIns = i) (c : Nat) (hc : costF echoP room t i = .inr c) :
    echoS room fuel t = if fuel - t.used < c then (t, some 1) else doF noMg echoP room { t with used := t.used + c, pc := t.pc + 1 } i := by
  unfold echoS
  rw [stepF_at noMg echoP room fuel t k hpc hk i hi, hc]
theorem echo_more (hpc : t.pc = 0) (hh : t.here < t.src.length) (hf : (t.used : Int) < fuel) : echoS room fuel t = ({ t with regs := t.regs.set 0 ((t.src.getD t.here 0).toNat : Int), here := t.here + 1, used := t.used + 1, pc := t.pc + 1 }, none) := by
  rw [echo_at 0 (by omega) hpc ⟨7, 0, 0, 3, 0⟩ rfl 1 rfl, if_neg (by omega)]
  have e : doF noMg echoP room { t with used := t.used + 1, pc := t.pc + 1 } ⟨7, 0, 0, 3, 0⟩ = (if t.src.length ≤ t.here then { t with used := t.used + 1, pc := 3 } else { t with regs := t.regs.set 0 ((t.src.getD t.here 0).toNat : Int), here := t.here + 1, used := t.used + 1, pc := t.pc + 1 }, none) := rfl
  rw [e, if_neg (by omega)]
theorem echo_end (hpc : t.pc = 0) (hh : t.src.length ≤ t.here) (hf : (t.used : Int) < fuel) : echoS room fuel t = ({ t with used := t.used + 1, pc := 3 }, none) := by
  rw [echo_at 0 (by omega) hpc ⟨7, 0, 0, 3, 0⟩ rfl 1 rfl, if_neg (by omega)]
  have e : doF noMg echoP room { t with used := t.used + 1, pc := t.pc + 1 } ⟨7, 0, 0, 3, 0⟩ = (if t.src.length ≤ t.here then { t with used := t.used + 1, pc := 3 } else { t with regs := t.regs.set 0 ((t.src.getD t.here 0).toNat : Int), here := t.here + 1, used := t.used + 1, pc := t.pc + 1 }, none) := rfl
  rw [e, if_pos hh]
theorem echo_emit (hpc : t.pc = 1) (hr : (t.told.length : Int) < room) (hf : (t.used : Int) < fuel) : echoS room fuel t = ({ t with told := t.told ++ [t.regs.getD 0 0], used := t.used + 1, pc := t.pc + 1 }, none) := by
  have hc : costF echoP room t ⟨17, 0, 0, 0, 0⟩ = .inr 1 := by
    have e : costF echoP room t ⟨17, 0, 0, 0, 0⟩ = if room ≤ (t.told.length : Int) then .inl 1 else .inr 1 := rfl
    rw [e, if_neg (by omega)]
  rw [echo_at 1 (by omega) hpc ⟨17, 0, 0, 0, 0⟩ rfl 1 hc, if_neg (by omega)]
  rfl
theorem echo_jump (hpc : t.pc = 2) (hf : (t.used : Int) < fuel) : echoS room fuel t = ({ t with used := t.used + 1, pc := 0 }, none) := by
  rw [echo_at 2 (by omega) hpc ⟨4, 0, 0, 0, 0⟩ rfl 1 rfl, if_neg (by omega)]
  rfl
theorem echo_halt (hpc : t.pc = 3) (hf : (t.used : Int) < fuel) : echoS room fuel t = ({ t with used := t.used + 1, pc := t.pc + 1 }, some 0) := by
  rw [echo_at 3 (by omega) hpc ⟨1, 0, 0, 0, 0⟩ rfl 1 rfl, if_neg (by omega)]
  rfl
theorem echo_dry (hpc : t.pc = 0 ∨ (t.pc = 1 ∧ (t.told.length : Int) < room) ∨ t.pc = 2 ∨ t.pc = 3) (hf : fuel ≤ (t.used : Int)) : echoS room fuel t = (t, some 1) := by
  rcases hpc with h | ⟨h, hr⟩ | h | h
  · rw [echo_at 0 (by omega) h ⟨7, 0, 0, 3, 0⟩ rfl 1 rfl, if_pos (by omega)]
  · have hc : costF echoP room t ⟨17, 0, 0, 0, 0⟩ = .inr 1 := by
      have e : costF echoP room t ⟨17, 0, 0, 0, 0⟩ = if room ≤ (t.told.length : Int) then .inl 1 else .inr 1 := rfl
      rw [e, if_neg (by omega)]
    rw [echo_at 1 (by omega) h ⟨17, 0, 0, 0, 0⟩ rfl 1 hc, if_pos (by omega)]
  · rw [echo_at 2 (by omega) h ⟨4, 0, 0, 0, 0⟩ rfl 1 rfl, if_pos (by omega)]
  · rw [echo_at 3 (by omega) h ⟨1, 0, 0, 0, 0⟩ rfl 1 rfl, if_pos (by omega)]
end
def idsOf (l : Bs) : List Int := l.map fun b => (b.toNat : Int)
/-- at the head of the loop, behind k bytes -/
structure AtK (xs : Bs) (k : Nat) (t : St) : Prop where
  pc : t.pc = 0
  src : t.src = xs
  here : t.here = k
  told : t.told = idsOf (xs.take k)
  used : t.used = 3 * k
  regs : t.regs.length = 8
theorem echo_round {src : Bs} {k : Nat} {t : St} {room fuel : Int} (h : AtK src k t) (hk : k < src.length) (hroom : (src.length : Int) ≤ room) :
    ((3 * k + 3 : Nat) ≤ fuel → ∃ t', AtK src (k + 1) t' ∧ ∀ u c, Ends (echoS room fuel) t' u c → Ends (echoS room fuel) t u c) ∧ (fuel < (3 * k + 3 : Nat) → 0 ≤ fuel → ∃ u, Ends (echoS room fuel) t u 1) := by
  have hu := h.used
  have htl : t.told.length = k := by rw [h.told]; simp [idsOf]; omega
  have hsl : t.here < t.src.length := by rw [h.here, h.src]; exact hk
  have hx : ((t.src.getD t.here 0).toNat : Int) = ((src.getD k 0).toNat : Int) := by rw [h.src, h.here]
  obtain ⟨t1, ht1⟩ : ∃ t1 : St, t1 = { t with regs := t.regs.set 0 ((t.src.getD t.here 0).toNat : Int), here := t.here + 1, used := t.used + 1, pc := t.pc + 1 } := ⟨_, rfl⟩
  have p1 : t1.pc = 1 := by rw [ht1, show t.pc = 0 from h.pc]; rfl
  have u1 : t1.used = t.used + 1 := by rw [ht1]
  have l1 : (t1.told.length : Int) < room := by rw [ht1]; show (t.told.length : Int) < room; omega
  obtain ⟨t2, ht2⟩ : ∃ t2 : St, t2 = { t1 with told := t1.told ++ [t1.regs.getD 0 0], used := t1.used + 1, pc := t1.pc + 1 } := ⟨_, rfl⟩
  have p2 : t2.pc = 2 := by rw [ht2, p1]; rfl
  have u2 : t2.used = t1.used + 1 := by rw [ht2]
  obtain ⟨t3, ht3⟩ : ∃ t3 : St, t3 = { t2 with used := t2.used + 1, pc := 0 } := ⟨_, rfl⟩
  constructor
  · intro hf
    refine ⟨t3, ⟨by rw [ht3], by rw [ht3, ht2, ht1]; exact h.src, by rw [ht3, ht2, ht1]; show t.here + 1 = k + 1; rw [h.here], ?_, by rw [ht3]; show t2.used + 1 = 3 * (k + 1); omega, by rw [ht3, ht2, ht1]; show (t.regs.set 0 _).length = 8; rw [List.length_set]; exact h.regs⟩, fun u c hu2 => ?_⟩
    · have hreg : t1.regs.getD 0 0 = ((src.getD k 0).toNat : Int) := by
        rw [ht1]
        show (t.regs.set 0 _).getD 0 0 = _
        rw [hx]
        have := h.regs
        simp [show 0 < t.regs.length by omega]
      rw [ht3, ht2]
      show t1.told ++ [t1.regs.getD 0 0] = _
      rw [hreg, ht1]
      show t.told ++ _ = _
      have htk : src.take (k + 1) = src.take k ++ [src.getD k 0] := by
        rw [List.take_succ_eq_append_getElem hk]
        simp [hk]
      rw [h.told, htk]
      unfold idsOf
      rw [List.map_append]
      rfl
    · refine .more (echo_more h.pc hsl (by omega)) ?_
      rw [← ht1]
      refine .more (echo_emit p1 l1 (by omega)) ?_
      rw [← ht2]
      refine .more (echo_jump p2 (by omega)) ?_
      rw [← ht3]
      exact hu2
  · intro hf h0
    by_cases f1 : fuel ≤ (t.used : Int)
    · exact ⟨_, .last (echo_dry (.inl h.pc) f1)⟩
    · by_cases f2 : fuel ≤ (t1.used : Int)
      · exact ⟨_, .more (echo_more h.pc hsl (by omega)) (by rw [← ht1]; exact .last (echo_dry (.inr (.inl ⟨p1, l1⟩)) f2))⟩
      · exact ⟨_, .more (echo_more h.pc hsl (by omega)) (by rw [← ht1]; exact .more (echo_emit p1 l1 (by omega)) (by rw [← ht2]; exact .last (echo_dry (.inr (.inr (.inl p2))) (by omega))))⟩
theorem echo_all {src : Bs} {room fuel : Int} (hroom : (src.length : Int) ≤ room) (h0 : 0 ≤ fuel) : ∀ (n k : Nat) (t : St), n + k = src.length → AtK src k t →
    ((3 * src.length + 2 : Nat) ≤ fuel → ∃ u, Ends (echoS room fuel) t u 0 ∧ u.told = idsOf src ∧ u.used = 3 * src.length + 2) ∧ (fuel < (3 * src.length + 2 : Nat) → ∃ u, Ends (echoS room fuel) t u 1) := fun n => by
  induction n with
  | zero =>
    intro k t hk h
    have hu := h.used
    have hsl : t.src.length ≤ t.here := by rw [h.src, h.here]; omega
    obtain ⟨t1, ht1⟩ : ∃ t1 : St, t1 = { t with used := t.used + 1, pc := 3 } := ⟨_, rfl⟩
    have p1 : t1.pc = 3 := by rw [ht1]
    have u1 : t1.used = t.used + 1 := by rw [ht1]
    constructor
    · intro hf
      refine ⟨_, .more (echo_end h.pc hsl (by omega)) (by rw [← ht1]; exact .last (echo_halt p1 (by omega))), ?_, ?_⟩
      · show t1.told = _
        rw [ht1]
        show t.told = _
        rw [h.told, List.take_of_length_le (by omega)]
      · show t1.used + 1 = _
        omega
    · intro hf
      by_cases f1 : fuel ≤ (t.used : Int)
      · exact ⟨_, .last (echo_dry (.inl h.pc) f1)⟩
      · exact ⟨_, .more (echo_end h.pc hsl (by omega)) (by rw [← ht1]; exact .last (echo_dry (.inr (.inr (.inr p1))) (by omega)))⟩
  | succ n ih =>
    intro k t hk h
    obtain ⟨r1, r2⟩ := echo_round (fuel := fuel) h (by omega) hroom
    by_cases hf3 : ((3 * k + 3 : Nat) : Int) ≤ fuel
    · obtain ⟨t', ha, he⟩ := r1 hf3
      obtain ⟨i1, i2⟩ := ih (k + 1) t' (by omega) ha
      exact ⟨fun hf => by obtain ⟨u, hu, h2⟩ := i1 hf; exact ⟨u, he u 0 hu, h2⟩, fun hf => by obtain ⟨u, hu⟩ := i2 hf; exact ⟨u, he u 1 hu⟩⟩
    · exact ⟨fun hf => absurd hf (by omega), fun _ => r2 (by omega) h0⟩
theorem echo_start (src : Bs) : AtK src 0 (st0 src) := ⟨rfl, rfl, rfl, by simp [st0, idsOf], rfl, rfl⟩
end Go.Proofs.Ytgejpggbmgiocaa
