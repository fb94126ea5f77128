/- Echo, LEchoes, LEch2 of this seat, in one text. -/
import Derived.Test.YtgejpggbmgiocaaM24
import Derived.Test.YtgejpggbmgiocaaM33
import Derived.Test.YtgejpggbmgiocaaM32
import Derived.Test.YtgejpggbmgiocaaM3
/- The program that tells each byte: plain. -/
namespace Go.Proofs.Ytgejpggbmgiocaa

def echoC : List Ins := [⟨7, 0, 0, 3, 0⟩, ⟨17, 0, 0, 0, 0⟩, ⟨4, 0, 0, 0, 0⟩, ⟨1, 0, 0, 0, 0⟩]
def echoP : Prog := ⟨1, 0, 0, 0, echoC, [], []⟩
def noMg (_ : List Int) : Option (List Int) := none
abbrev echoS (room fuel : Int) := stepF noMg echoP room fuel
theorem Ends.det {stp : St → St × Option Nat} {s t t' : St} {c c' : Nat} (h : Ends stp s t c) (h' : Ends stp s t' c') : t = t' ∧ c = c' := by
  induction h with
  | last h1 =>
    cases h' with
    | last h2 => rw [h1] at h2; cases h2; exact ⟨rfl, rfl⟩
    | more h2 _ => rw [h1] at h2; cases h2
  | more h1 _ ih =>
    cases h' with
    | last h2 => rw [h1] at h2; cases h2
    | more h2 h3 => rw [h1] at h2; cases h2; exact ih h3
section
variable {room fuel : Int} {t : St}
theorem echo_at (k : Nat) (hk : k < 4) (hpc : t.pc = (k : Int)) (i : Ins) (hi : echoC.getD k noIns = i) (c : Nat) (hc : costF echoP room t i = .inr c) :
    echoS room fuel t = if fuel - t.used < c then (t, some 1) else doF noMg echoP room { t with used := t.used + c, pc := t.pc + 1 } i := by
  unfold echoS
  rw [stepF_at noMg echoP room fuel t k hpc hk i hi, hc]
theorem echo_more (hpc : t.pc = 0) (hh : t.here < t.src.length) (hf : (t.used : Int) < fuel) : echoS room fuel t = ({ t with regs := t.regs.set 0 ((t.src.getD t.here 0).toNat : Int), here := t.here + 1, used := t.used + 1, pc := t.pc + 1 }, none) := by
  rw [echo_at 0 (by omega) hpc ⟨7, 0, 0, 3, 0⟩ rfl 1 rfl, if_neg (by omega)]
  have e : doF noMg echoP room { t with used := t.used + 1, pc := t.pc + 1 } ⟨7, 0, 0, 3, 0⟩ = (if t.src.length ≤ t.here then { t with used := t.used + 1, pc := 3 } else { t with regs := t.regs.set 0 ((t.src.getD t.here 0).toNat : Int), here := t.here + 1, used := t.used + 1, pc := t.pc + 1 }, none) := rfl
  rw [e, if_neg (by omega)]
theorem echo_end (hpc : t.pc = 0) (hh : t.src.length ≤ t.here) (hf : (t.used : Int) < fuel) : echoS room fuel t = ({ t with used := t.used + 1, pc := 3 }, none) := by
  rw [echo_at 0 (by omega) hpc ⟨7, 0, 0, 3, 0⟩ rfl 1 rfl, if_neg (by omega)]
  have e : doF noMg echoP room { t with used := t.used + 1, pc := t.pc + 1 } ⟨7, 0, 0, 3, 0⟩ = (if t.src.length ≤ t.here then { t with used := t.used + 1, pc := 3 } else { t with regs := t.regs.set 0 ((t.src.getD t.here 0).toNat : Int), here := t.here + 1, used := t.used + 1, pc := t.pc + 1 }, none) := rfl
  rw [e, if_pos hh]
theorem echo_emit (hpc : t.pc = 1) (hr : (t.told.length : Int) < room) (hf : (t.used : Int) < fuel) : echoS room fuel t = ({ t with told := t.told ++ [t.regs.getD 0 0], used := t.used + 1, pc := t.pc + 1 }, none) := by
  have hc : costF echoP room t ⟨17, 0, 0, 0, 0⟩ = .inr 1 := by
    have e : costF echoP room t ⟨17, 0, 0, 0, 0⟩ = if room ≤ (t.told.length : Int) then .inl 1 else .inr 1 := rfl
    rw [e, if_neg (by omega)]
  rw [echo_at 1 (by omega) hpc ⟨17, 0, 0, 0, 0⟩ rfl 1 hc, if_neg (by omega)]
  rfl
theorem echo_jump (hpc : t.pc = 2) (hf : (t.used : Int) < fuel) : echoS room fuel t = ({ t with used := t.used + 1, pc := 0 }, none) := by
  rw [echo_at 2 (by omega) hpc ⟨4, 0, 0, 0, 0⟩ rfl 1 rfl, if_neg (by omega)]
  rfl
theorem echo_halt (hpc : t.pc = 3) (hf : (t.used : Int) < fuel) : echoS room fuel t = ({ t with used := t.used + 1, pc := t.pc + 1 }, some 0) := by
  rw [echo_at 3 (by omega) hpc ⟨1, 0, 0, 0, 0⟩ rfl 1 rfl, if_neg (by omega)]
  rfl
theorem echo_dry (hpc : t.pc = 0 ∨ (t.pc = 1 ∧ (t.told.length : Int) < room) ∨ t.pc = 2 ∨ t.pc = 3) (hf : fuel ≤ (t.used : Int)) : echoS room fuel t = (t, some 1) := by
  rcases hpc with h | ⟨h, hr⟩ | h | h
  · rw [echo_at 0 (by omega) h ⟨7, 0, 0, 3, 0⟩ rfl 1 rfl, if_pos (by omega)]
  · have hc : costF echoP room t ⟨17, 0, 0, 0, 0⟩ = .inr 1 := by
      have e : costF echoP room t ⟨17, 0, 0, 0, 0⟩ = if room ≤ (t.told.length : Int) then .inl 1 else .inr 1 := rfl
      rw [e, if_neg (by omega)]
    rw [echo_at 1 (by omega) h ⟨17, 0, 0, 0, 0⟩ rfl 1 hc, if_pos (by omega)]
  · rw [echo_at 2 (by omega) h ⟨4, 0, 0, 0, 0⟩ rfl 1 rfl, if_pos (by omega)]
  · rw [echo_at 3 (by omega) h ⟨1, 0, 0, 0, 0⟩ rfl 1 rfl, if_pos (by omega)]
end
def idsOf (l : Bs) : List Int := l.map fun b => (b.toNat : Int)
/-- at the head of the loop, behind k bytes -/
structure AtK (xs : Bs) (k : Nat) (t : St) : Prop where
  pc : t.pc = 0
  src : t.src = xs
  here : t.here = k
  told : t.told = idsOf (xs.take k)
  used : t.used = 3 * k
  regs : t.regs.length = 8
theorem echo_round {src : Bs} {k : Nat} {t : St} {room fuel : Int} (h : AtK src k t) (hk : k < src.length) (hroom : (src.length : Int) ≤ room) :
    ((3 * k + 3 : Nat) ≤ fuel → ∃ t', AtK src (k + 1) t' ∧ ∀ u c, Ends (echoS room fuel) t' u c → Ends (echoS room fuel) t u c) ∧ (fuel < (3 * k + 3 : Nat) → 0 ≤ fuel → ∃ u, Ends (echoS room fuel) t u 1) := by
  have hu := h.used
  have htl : t.told.length = k := by rw [h.told]; simp [idsOf]; omega
  have hsl : t.here < t.src.length := by rw [h.here, h.src]; exact hk
  have hx : ((t.src.getD t.here 0).toNat : Int) = ((src.getD k 0).toNat : Int) := by rw [h.src, h.here]
  obtain ⟨t1, ht1⟩ : ∃ t1 : St, t1 = { t with regs := t.regs.set 0 ((t.src.getD t.here 0).toNat : Int), here := t.here + 1, used := t.used + 1, pc := t.pc + 1 } := ⟨_, rfl⟩
  have p1 : t1.pc = 1 := by rw [ht1, show t.pc = 0 from h.pc]; rfl
  have u1 : t1.used = t.used + 1 := by rw [ht1]
  have l1 : (t1.told.length : Int) < room := by rw [ht1]; show (t.told.length : Int) < room; omega
  obtain ⟨t2, ht2⟩ : ∃ t2 : St, t2 = { t1 with told := t1.told ++ [t1.regs.getD 0 0], used := t1.used + 1, pc := t1.pc + 1 } := ⟨_, rfl⟩
  have p2 : t2.pc = 2 := by rw [ht2, p1]; rfl
  have u2 : t2.used = t1.used + 1 := by rw [ht2]
  obtain ⟨t3, ht3⟩ : ∃ t3 : St, t3 = { t2 with used := t2.used + 1, pc := 0 } := ⟨_, rfl⟩
  constructor
  · intro hf
    refine ⟨t3, ⟨by rw [ht3], by rw [ht3, ht2, ht1]; exact h.src, by rw [ht3, ht2, ht1]; show t.here + 1 = k + 1; rw [h.here], ?_, by rw [ht3]; show t2.used + 1 = 3 * (k + 1); omega, by rw [ht3, ht2, ht1]; show (t.regs.set 0 _).length = 8; rw [List.length_set]; exact h.regs⟩, fun u c hu2 => ?_⟩
    · have hreg : t1.regs.getD 0 0 = ((src.getD k 0).toNat : Int) := by
        rw [ht1]
        show (t.regs.set 0 _).getD 0 0 = _
        rw [hx]
        have := h.regs
        simp [show 0 < t.regs.length by omega]
      rw [ht3, ht2]
      show t1.told ++ [t1.regs.getD 0 0] = _
      rw [hreg, ht1]
      show t.told ++ _ = _
      have htk : src.take (k + 1) = src.take k ++ [src.getD k 0] := by
        rw [List.take_succ_eq_append_getElem hk]
        simp [hk]
      rw [h.told, htk]
      unfold idsOf
      rw [List.map_append]
      rfl
    · refine .more (echo_more h.pc hsl (by omega)) ?_
      rw [← ht1]
      refine .more (echo_emit p1 l1 (by omega)) ?_
      rw [← ht2]
      refine .more (echo_jump p2 (by omega)) ?_
      rw [← ht3]
      exact hu2
  · intro hf h0
    by_cases f1 : fuel ≤ (t.used : Int)
    · exact ⟨_, .last (echo_dry (.inl h.pc) f1)⟩
    · by_cases f2 : fuel ≤ (t1.used : Int)
      · exact ⟨_, .more (echo_more h.pc hsl (by omega)) (by rw [← ht1]; exact .last (echo_dry (.inr (.inl ⟨p1, l1⟩)) f2))⟩
      · exact ⟨_, .more (echo_more h.pc hsl (by omega)) (by rw [← ht1]; exact .more (echo_emit p1 l1 (by omega)) (by rw [← ht2]; exact .last (echo_dry (.inr (.inr (.inl p2))) (by omega))))⟩
theorem echo_all {src : Bs} {room fuel : Int} (hroom : (src.length : Int) ≤ room) (h0 : 0 ≤ fuel) : ∀ (n k : Nat) (t : St), n + k = src.length → AtK src k t →
    ((3 * src.length + 2 : Nat) ≤ fuel → ∃ u, Ends (echoS room fuel) t u 0 ∧ u.told = idsOf src ∧ u.used = 3 * src.length + 2) ∧ (fuel < (3 * src.length + 2 : Nat) → ∃ u, Ends (echoS room fuel) t u 1) := fun n => by
  induction n with
  | zero =>
    intro k t hk h
    have hu := h.used
    have hsl : t.src.length ≤ t.here := by rw [h.src, h.here]; omega
    obtain ⟨t1, ht1⟩ : ∃ t1 : St, t1 = { t with used := t.used + 1, pc := 3 } := ⟨_, rfl⟩
    have p1 : t1.pc = 3 := by rw [ht1]
    have u1 : t1.used = t.used + 1 := by rw [ht1]
    constructor
    · intro hf
      refine ⟨_, .more (echo_end h.pc hsl (by omega)) (by rw [← ht1]; exact .last (echo_halt p1 (by omega))), ?_, ?_⟩
      · show t1.told = _
        rw [ht1]
        show t.told = _
        rw [h.told, List.take_of_length_le (by omega)]
      · show t1.used + 1 = _
        omega
    · intro hf
      by_cases f1 : fuel ≤ (t.used : Int)
      · exact ⟨_, .last (echo_dry (.inl h.pc) f1)⟩
      · exact ⟨_, .more (echo_end h.pc hsl (by omega)) (by rw [← ht1]; exact .last (echo_dry (.inr (.inr (.inr p1))) (by omega)))⟩
  | succ n ih =>
    intro k t hk h
    obtain ⟨r1, r2⟩ := echo_round (fuel := fuel) h (by omega) hroom
    by_cases hf3 : ((3 * k + 3 : Nat) : Int) ≤ fuel
    · obtain ⟨t', ha, he⟩ := r1 hf3
      obtain ⟨i1, i2⟩ := ih (k + 1) t' (by omega) ha
      exact ⟨fun hf => by obtain ⟨u, hu, h2⟩ := i1 hf; exact ⟨u, he u 0 hu, h2⟩, fun hf => by obtain ⟨u, hu⟩ := i2 hf; exact ⟨u, he u 1 hu⟩⟩
    · exact ⟨fun hf => absurd hf (by omega), fun _ => r2 (by omega) h0⟩
theorem echo_start (src : Bs) : AtK src 0 (st0 src) := ⟨rfl, rfl, rfl, by simp [st0, idsOf], rfl, rfl⟩
end Go.Proofs.Ytgejpggbmgiocaa
/- VmEchoes, with its text laid open. -/
namespace Go.Proofs.Ytgejpggbmgiocaa
open Go.RowKit

theorem echo_step (B g : Nat) (w0 W : World) (prg : List Value) (room fuel : Int) (t : St) (vs vp vg vt : Value) (h : RS B g w0 W prg room fuel t vs vp vg vt) (hc : CodeIn w0 B prg echoC) (hI : Inv room fuel t) (hroom : room ≤ 4096) (hfu : fuel ≤ 35184372088832) :
    Calls Try.prog 20 #[.pointer (some ⟨g, 0, none⟩)] W (Res B g w0 prg room fuel (echoS room fuel t)) := by
  have hn : t.told.length ≤ 10000000000 ∧ t.signs.length ≤ 10000000000 ∧ t.src.length ≤ 140737488355328 := ⟨by have := hI.told; omega, by have := hI.signs; omega, by have := hI.src; omega⟩
  have hl : echoC.length = 4 := rfl
  by_cases hpc : t.pc < 0 ∨ (echoC.length : Int) ≤ t.pc
  · exact st_out B g w0 W prg room fuel t vs vp vg vt noMg echoP h hc hpc
  · obtain ⟨k, hk⟩ := Int.eq_ofNat_of_zero_le (a := t.pc) (by omega)
    have hk4 : k < 4 := by omega
    rcases (by omega : k = 0 ∨ k = 1 ∨ k = 2 ∨ k = 3) with rfl | rfl | rfl | rfl
    · exact st_plain B g w0 W prg room fuel t vs vp vg vt noMg echoP h hc hI.used hfu 0 hk (by decide) ⟨7, 0, 0, 3, 0⟩ rfl rfl (by decide) (by decide) (by decide) (by decide) (by decide) (by decide) (fun W' h' => dok_7 B g w0 W' prg room fuel _ vs vp vg vt noMg echoP _ rfl rfl h' hn)
    · exact st_17 B g w0 W prg room fuel t vs vp vg vt noMg echoP h hc hI.used hfu hn 1 hk (by decide) ⟨17, 0, 0, 0, 0⟩ rfl rfl rfl
    · exact st_plain B g w0 W prg room fuel t vs vp vg vt noMg echoP h hc hI.used hfu 2 hk (by decide) ⟨4, 0, 0, 0, 0⟩ rfl rfl (by decide) (by decide) (by decide) (by decide) (by decide) (by decide) (fun W' h' => dok_4 B g w0 W' prg room fuel _ vs vp vg vt noMg echoP _ rfl rfl h')
    · exact st_plain B g w0 W prg room fuel t vs vp vg vt noMg echoP h hc hI.used hfu 3 hk (by decide) ⟨1, 0, 0, 0, 0⟩ rfl rfl (by decide) (by decide) (by decide) (by decide) (by decide) (by decide) (fun W' h' => dok_1 B g w0 W' prg room fuel _ vs vp vg vt noMg echoP _ rfl rfl h')
theorem inv_st0 {room fuel : Int} {src : Bs} (h0 : 0 ≤ fuel) (hs : src.length ≤ 262144) : Inv room fuel (st0 src) := ⟨by simpa [st0] using h0, by simp [st0]; omega, by simp [st0], by simp [st0], hs⟩
abbrev echoPrg (b : Nat) : List Value := [.int .i64 1, .int .i64 0, .int .i64 0, .int .i64 0, .slice (some ⟨b, 0, none⟩) 4 4, .slice none 0 0, .slice none 0 0, .slice none 0 0, .slice none 0 0, .slice none 0 0]
theorem room_echo (n : Nat) : roomF 1 0 0 n = n := by
  unfold roomF
  rw [show boundF 1 = 1 by decide, show boundF 0 = 0 by decide]
  omega
theorem fuelF_same {x : Int} (h0 : 0 ≤ x) (h1 : x ≤ 35184372088832) : fuelF x = x := by unfold fuelF; rw [if_neg (by omega), if_neg (by omega)]
theorem run_echo (b : Nat) (s : ByteArray) (fuel : Int) (w : World) (hc : CodeIn w w.heap.size (echoPrg b) echoC) (hs : s.size ≤ 4096) (h0 : 0 ≤ fuel) (h1 : fuel ≤ 1048576) :
    Calls Try.prog 10 #[.agg (echoPrg b).toArray, .string s, .int .i64 fuel] w fun e w' => Below w.heap.size w w' ∧
      ((((3 * s.size + 2 : Nat) : Int) ≤ fuel ∧ ∃ A q, e = .returned (.tuple #[.slice A s.size q, .int .i64 0, .int .i64 (3 * s.size + 2 : Nat)]) ∧ Arr w' w'.heap.size 1 A s.size (IntC (bytesI s))) ∨
       (fuel < ((3 * s.size + 2 : Nat) : Int) ∧ ∃ u : Nat, e = .returned (.tuple #[.slice none 0 0, .int .i64 1, .int .i64 u]))) := by
  have hfu : fuelF fuel = fuel := fuelF_same h0 (by omega)
  have hro := room_echo s.size
  have hsl : s.data.toList.length = s.size := rfl
  refine (run_walk 1 0 0 0 fuel _ _ _ _ _ _ s w hs (echoS s.size fuel) (Inv s.size fuel) (inv_st0 h0 (by omega)) (fun g W t vs vp vg vt h hI => ?_) (fun t hI ho => ?_)).mono ?_
  · rw [hfu, hro] at h ⊢
    exact echo_step w.heap.size g w W (echoPrg b) s.size fuel t vs vp vg vt h hc hI (by omega) (by omega)
  · rw [hfu]
    have := stepF_keeps hI ho
    exact ⟨this.1, this.2, this.1.used⟩
  · rintro e w' ⟨hb, t', c, hE, v, rfl, hv⟩
    refine ⟨hb, ?_⟩
    have hall := echo_all (src := s.data.toList) (room := s.size) (fuel := fuel) (by omega) h0 _ 0 _ (Nat.add_zero _) (echo_start _)
    rw [hsl] at hall
    by_cases hlt : ((3 * s.size + 2 : Nat) : Int) ≤ fuel
    · obtain ⟨u, hu, htold, hused⟩ := hall.1 hlt
      obtain ⟨rfl, rfl⟩ := hE.det hu
      left
      refine ⟨hlt, ?_⟩
      rcases hv with ⟨_, A, q, rfl, hA⟩ | ⟨h9, _⟩
      · have hl : t'.told.length = s.size := by rw [htold]; simp [idsOf, hsl]
        rw [hl] at hA ⊢
        rw [hused]
        refine ⟨A, q, rfl, ?_⟩
        rw [htold] at hA
        exact hA
      · exact absurd rfl h9
    · obtain ⟨u, hu⟩ := hall.2 (by omega)
      obtain ⟨rfl, rfl⟩ := hE.det hu
      right
      rcases hv with ⟨h9, _⟩ | ⟨_, rfl⟩
      · cases h9
      · exact ⟨by omega, _, rfl⟩
theorem code_in {w W : World} {b : Nat} (hb : b < w.heap.size) (h : ∀ j, w.cell? ⟨b, j, none⟩ = (#[.int .i64 7, .int .i64 0, .int .i64 0, .int .i64 3, .int .i64 0, .int .i64 17, .int .i64 0, .int .i64 0, .int .i64 0, .int .i64 0, .int .i64 4, .int .i64 0, .int .i64 0, .int .i64 0, .int .i64 0, .int .i64 1, .int .i64 0, .int .i64 0, .int .i64 0, .int .i64 0] : Array Value)[j]?) (hB : Below w.heap.size w W) : CodeIn W W.heap.size (echoPrg b) echoC := by
  refine ⟨⟨_, _, rfl, fun _ => ⟨b, 0, rfl, Nat.lt_of_lt_of_le hb hB.size, fun k j hk hj => ?_⟩⟩, by decide⟩
  have hk4 : k < 4 := hk
  rw [hB.cell (p := ⟨b, _, none⟩) hb, h]
  rcases (by omega : k = 0 ∨ k = 1 ∨ k = 2 ∨ k = 3) with rfl | rfl | rfl | rfl <;> rcases (by omega : j = 0 ∨ j = 1 ∨ j = 2 ∨ j = 3 ∨ j = 4) with rfl | rfl | rfl | rfl | rfl <;> rfl
end Go.Proofs.Ytgejpggbmgiocaa
/- VmEchoes, with its text laid open. -/
namespace Go.Proofs.Ytgejpggbmgiocaa
open Go.RowKit
attribute [local go_sem ↓] load_p
def codeB : Array Value := #[.int .i64 7, .int .i64 0, .int .i64 0, .int .i64 3, .int .i64 0, .int .i64 17, .int .i64 0, .int .i64 0, .int .i64 0, .int .i64 0, .int .i64 4, .int .i64 0, .int .i64 0, .int .i64 0, .int .i64 0, .int .i64 1, .int .i64 0, .int .i64 0, .int .i64 0, .int .i64 0]
/-- the law's world: the program's code, and its box -/
structure EW (w W : World) : Prop where
  code : CodeIn W W.heap.size (echoPrg w.heap.size) echoC
  bel : Below w.heap.size w W
  blk : PB (w.alloc (.cells codeB 40)) (echoPrg w.heap.size) W
theorem ew_start (w : World) : EW w ((w.alloc (.cells codeB 40)).alloc (.cells (echoPrg w.heap.size).toArray 35)) := by
  have hb : Below (w.alloc (.cells codeB 40)).heap.size (w.alloc (.cells codeB 40)) ((w.alloc (.cells codeB 40)).alloc (.cells (echoPrg w.heap.size).toArray 35)) := (Below.refl _ _).alloc (Nat.le_refl _) _
  refine ⟨code_in (w := w.alloc (.cells codeB 40)) (by simp) (fun j => ?_) hb, ((Below.refl _ _).alloc (Nat.le_refl _) _).trans (hb.mono (by simp)), ⟨hb, by simp, Blk.new _ 35 (echoPrg w.heap.size)⟩⟩
  exact cell_of_row _ _ _ _ _ _ (heap_alloc_new w _)
theorem CodeIn.keep {w W : World} {prg : List Value} {code : List Ins} (h : CodeIn w w.heap.size prg code) (hb : Below w.heap.size w W) : CodeIn W W.heap.size prg code := by
  obtain ⟨⟨A, c, e, ha⟩, hl⟩ := h
  exact ⟨⟨A, c, e, (ha.below hb).more hb.size⟩, hl⟩
theorem EW.go {w W W' : World} (h : EW w W) (hb : Below W.heap.size W W') : EW w W' := ⟨h.code.keep hb, h.bel.trans (hb.mono h.bel.size), h.blk.go hb⟩
theorem EW.load {w W : World} (h : EW w W) : (loadP (.pointer (some ⟨w.heap.size + 1, 0, none⟩))).run Try.prog W = .ok (.agg (echoPrg w.heap.size).toArray) W := by
  have := h.blk.load rfl
  simpa using this
set_option maxRecDepth 100000 in
set_option maxHeartbeats 8000000 in
theorem law_vechoes (s : ByteArray) (less : Int) (w : World) :
    Calls Try.prog 5 #[.string s, .int .i64 less] w fun e w' => e = .returned (.bool true) ∧ Below w.heap.size w w' := by
  have E1 := Lib.hid (ew_start w)
  unfold codeB echoPrg at E1
  by_cases hs : s.size ≤ 4096
  · have e1 : decide ((4096 : Int) < (s.size : Int)) = false := by simp; omega
    go_enter Try.func5, Try.ntmps5
    have hld := E1.out.load
    unfold echoPrg at hld
    go_wp2_with fail
    clear hld
    generalize (w.alloc _).alloc _ = W1 at E1 ⊢
    refine (run_echo w.heap.size s _ W1 E1.out.code hs (by omega) (by omega)).mono ?_
    rintro e w2 ⟨hb2, hr⟩
    have E2 := Lib.hid (E1.out.go hb2)
    clear hb2
    rcases hr with ⟨_, A, q, rfl, hA⟩ | ⟨h9, _⟩
    · have HA := Lib.hid hA
      clear hA
      have hld := E2.out.load
      unfold echoPrg at hld
      go_wp2_with fail
      clear hld
      refine (bytes_any s w2 (by omega)).mono ?_
      rintro e w3 ⟨vb, rfl, hvb, hb3⟩
      have E3 := Lib.hid (E2.out.go hb3)
      obtain ⟨A2, c2, rfl⟩ := own_sl hvb
      have HA3 := Lib.hid ((HA.out.below hb3).more hb3.size)
      have HB3 := Lib.hid (own_ints hvb)
      clear hb3 hvb
      go_wp2_with fail
      have hlb := length_bytesI s
      refine (ints_any A A2 s.size s.size q c2 w3.heap.size (bytesI s) (bytesI s) w3 hlb hlb (by omega) (by omega) HA3.out HB3.out).mono ?_
      rintro e w4 ⟨rfl, m, rfl⟩
      have E4 := Lib.hid (E3.out.go (below_drewN (Below.refl _ _) m))
      have hld := E4.out.load
      unfold echoPrg at hld
      have e2 : decide (bytesI s = bytesI s) = true := by simp
      go_wp2_with fail
      all_goals
        clear hld
        refine (run_echo w.heap.size s _ _ E4.out.code hs (by omega) (by omega)).mono ?_
        rintro e w5 ⟨hb5, hr⟩
        rcases hr with ⟨h9, _⟩ | ⟨_, u, rfl⟩
        · omega
        · have E5 := Lib.hid (E4.out.go hb5)
          clear hb5
          go_wp2_with fail
          go_returns
          exact ⟨by first | rfl | simp, E5.out.bel⟩
    · omega
  · have e1 : decide ((4096 : Int) < (s.size : Int)) = true := by simp; omega
    go_enter Try.func5, Try.ntmps5
    have hld := E1.out.load
    unfold echoPrg at hld
    go_wp2_with fail
    clear hld
    generalize (w.alloc _).alloc _ = W1 at E1 ⊢
    refine (run_long _ _ _ _ _ _ _ _ _ _ _ s W1 (by omega)).mono ?_
    rintro e w2 ⟨rfl, hb2⟩
    have E2 := Lib.hid (E1.out.go hb2)
    clear hb2
    go_wp2_with fail
    go_returns
    exact ⟨by first | rfl | simp, E2.out.bel⟩
end Go.Proofs.Ytgejpggbmgiocaa
