/- VmEchoes, with its text laid open. -/
import Derived.Test.YtgejpggbmgiocaaEcho
import Derived.Test.YtgejpggbmgiocaaInv
import Derived.Test.YtgejpggbmgiocaaInts
namespace Go.Proofs.Ytgejpggbmgiocaa
open Go.RowKit

theorem echo_step (B g : Nat) (w0 W : World) (prg : List Value) (room fuel : Int) (t : St) (vs vp vg vt : Value) (h : RS B g w0 W prg room fuel t vs vp vg vt) (hc : CodeIn w0 B prg echoC) (hI : Inv room fuel t) (hroom : room ≤ 4096) (hfu : fuel ≤ 35184372088832) :
    Calls Try.prog 20 #[.pointer (some ⟨g, 0, none⟩)] W (Res B g w0 prg room fuel (echoS room fuel t)) := by
  have hn : t.told.length ≤ 10000000000 ∧ t.signs.length ≤ 10000000000 ∧ t.src.length ≤ 140737488355328 := ⟨by have := hI.told; omega, by have := hI.signs; omega, by have := hI.src; omega⟩
  have hl : echoC.length = 4 := rfl
  by_cases hpc : t.pc < 0 ∨ (echoC.length : Int) ≤ t.pc
  · exact st_out B g w0 W prg room fuel t vs vp vg vt noMg echoP h hc hpc
  · obtain ⟨k, hk⟩ := Int.eq_ofNat_of_zero_le (a := t.pc) (by omega)
    have hk4 : k < 4 := by omega
    rcases (by omega : k = 0 ∨ k = 1 ∨ k = 2 ∨ k = 3) with rfl | rfl | rfl | rfl
    · exact st_plain B g w0 W prg room fuel t vs vp vg vt noMg echoP h hc hI.used hfu 0 hk (by decide) ⟨7, 0, 0, 3, 0⟩ rfl rfl (by decide) (by decide) (by decide) (by decide) (by decide) (by decide) (fun W' h' => dok_7 B g w0 W' prg room fuel _ vs vp vg vt noMg echoP _ rfl rfl h' hn)
    · exact st_17 B g w0 W prg room fuel t vs vp vg vt noMg echoP h hc hI.used hfu hn 1 hk (by decide) ⟨17, 0, 0, 0, 0⟩ rfl rfl rfl
    · exact st_plain B g w0 W prg room fuel t vs vp vg vt noMg echoP h hc hI.used hfu 2 hk (by decide) ⟨4, 0, 0, 0, 0⟩ rfl rfl (by decide) (by decide) (by decide) (by decide) (by decide) (by decide) (fun W' h' => dok_4 B g w0 W' prg room fuel _ vs vp vg vt noMg echoP _ rfl rfl h')
    · exact st_plain B g w0 W prg room fuel t vs vp vg vt noMg echoP h hc hI.used hfu 3 hk (by decide) ⟨1, 0, 0, 0, 0⟩ rfl rfl (by decide) (by decide) (by decide) (by decide) (by decide) (by decide) (fun W' h' => dok_1 B g w0 W' prg room fuel _ vs vp vg vt noMg echoP _ rfl rfl h')
theorem inv_st0 {room fuel : Int} {src : Bs} (h0 : 0 ≤ fuel) (hs : src.length ≤ 262144) : Inv room fuel (st0 src) := ⟨by simpa [st0] using h0, by simp [st0]; omega, by simp [st0], by simp [st0], hs⟩
abbrev echoPrg (b : Nat) : List Value := [.int .i64 1, .int .i64 0, .int .i64 0, .int .i64 0, .slice (some ⟨b, 0, none⟩) 4 4, .slice none 0 0, .slice none 0 0, .slice none 0 0, .slice none 0 0, .slice none 0 0]
theorem room_echo (n : Nat) : roomF 1 0 0 n = n := by
  unfold roomF
  rw [show boundF 1 = 1 by decide, show boundF 0 = 0 by decide]
  omega
theorem fuelF_same {x : Int} (h0 : 0 ≤ x) (h1 : x ≤ 35184372088832) : fuelF x = x := by unfold fuelF; rw [if_neg (by omega), if_neg (by omega)]
theorem run_echo (b : Nat) (s : ByteArray) (fuel : Int) (w : World) (hc : CodeIn w w.heap.size (echoPrg b) echoC) (hs : s.size ≤ 4096) (h0 : 0 ≤ fuel) (h1 : fuel ≤ 1048576) :
    Calls Try.prog 10 #[.agg (echoPrg b).toArray, .string s, .int .i64 fuel] w fun e w' => Below w.heap.size w w' ∧
      ((((3 * s.size + 2 : Nat) : Int) ≤ fuel ∧ ∃ A q, e = .returned (.tuple #[.slice A s.size q, .int .i64 0, .int .i64 (3 * s.size + 2 : Nat)]) ∧ Arr w' w'.heap.size 1 A s.size (IntC (bytesI s))) ∨
       (fuel < ((3 * s.size + 2 : Nat) : Int) ∧ ∃ u : Nat, e = .returned (.tuple #[.slice none 0 0, .int .i64 1, .int .i64 u]))) := by
  have hfu : fuelF fuel = fuel := fuelF_same h0 (by omega)
  have hro := room_echo s.size
  have hsl : s.data.toList.length = s.size := rfl
  refine (run_walk 1 0 0 0 fuel _ _ _ _ _ _ s w hs (echoS s.size fuel) (Inv s.size fuel) (inv_st0 h0 (by omega)) (fun g W t vs vp vg vt h hI => ?_) (fun t hI ho => ?_)).mono ?_
  · rw [hfu, hro] at h ⊢
    exact echo_step w.heap.size g w W (echoPrg b) s.size fuel t vs vp vg vt h hc hI (by omega) (by omega)
  · rw [hfu]
    have := stepF_keeps hI ho
    exact ⟨this.1, this.2, this.1.used⟩
  · rintro e w' ⟨hb, t', c, hE, v, rfl, hv⟩
    refine ⟨hb, ?_⟩
    have hall := echo_all (src := s.data.toList) (room := s.size) (fuel := fuel) (by omega) h0 _ 0 _ (Nat.add_zero _) (echo_start _)
    rw [hsl] at hall
    by_cases hlt : ((3 * s.size + 2 : Nat) : Int) ≤ fuel
    · obtain ⟨u, hu, htold, hused⟩ := hall.1 hlt
      obtain ⟨rfl, rfl⟩ := hE.det hu
      left
      refine ⟨hlt, ?_⟩
      rcases hv with ⟨_, A, q, rfl, hA⟩ | ⟨h9, _⟩
      · have hl : t'.told.length = s.size := by rw [htold]; simp [idsOf, hsl]
        rw [hl] at hA ⊢
        rw [hused]
        refine ⟨A, q, rfl, ?_⟩
        rw [htold] at hA
        exact hA
      · exact absurd rfl h9
    · obtain ⟨u, hu⟩ := hall.2 (by omega)
      obtain ⟨rfl, rfl⟩ := hE.det hu
      right
      rcases hv with ⟨h9, _⟩ | ⟨_, rfl⟩
      · cases h9
      · exact ⟨by omega, _, rfl⟩
theorem code_in {w W : World} {b : Nat} (hb : b < w.heap.size) (h : ∀ j, w.cell? ⟨b, j, none⟩ = (#[.int .i64 7, .int .i64 0, .int .i64 0, .int .i64 3, .int .i64 0, .int .i64 17, .int .i64 0, .int .i64 0, .int .i64 0, .int .i64 0, .int .i64 4, .int .i64 0, .int .i64 0, .int .i64 0, .int .i64 0, .int .i64 1, .int .i64 0, .int .i64 0, .int .i64 0, .int .i64 0] : Array Value)[j]?) (hB : Below w.heap.size w W) : CodeIn W W.heap.size (echoPrg b) echoC := by
  refine ⟨⟨_, _, rfl, fun _ => ⟨b, 0, rfl, Nat.lt_of_lt_of_le hb hB.size, fun k j hk hj => ?_⟩⟩, by decide⟩
  have hk4 : k < 4 := hk
  rw [hB.cell (p := ⟨b, _, none⟩) hb, h]
  rcases (by omega : k = 0 ∨ k = 1 ∨ k = 2 ∨ k = 3) with rfl | rfl | rfl | rfl <;> rcases (by omega : j = 0 ∨ j = 1 ∨ j = 2 ∨ j = 3 ∨ j = 4) with rfl | rfl | rfl | rfl | rfl <;> rfl
end Go.Proofs.Ytgejpggbmgiocaa
