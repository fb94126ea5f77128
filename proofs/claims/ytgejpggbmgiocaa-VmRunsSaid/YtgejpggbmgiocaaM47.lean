/- LRuns of this seat, in one text. -/
import Derived.Test.YtgejpggbmgiocaaM43
import Derived.Test.YtgejpggbmgiocaaM44
import Derived.Test.YtgejpggbmgiocaaM46
/- The reference's Run, of any program; VmRuns, with its program laid open. -/
namespace Go.Proofs.Ytgejpggbmgiocaa
open Go.RowKit
attribute [local go_sem ↓] load_p
theorem rvrun (p : Prog) (S K V : List Int) (v4 v5 v6 v7 v8 v9 : Value) (s : ByteArray) (fuel : Int) (w : World) (hp : PIn w w.heap.size (prgL p.grow p.rest p.extra p.signs v4 v5 v6 v7 v8 v9) p S K V) (htl : ∀ k, (p.texts.getD k ⟨#[]⟩).size ≤ 140737488351232) (hfu : fuel ≤ 35184372088832) :
    Calls Try.prog 11 #[.agg #[.int .i64 p.grow, .int .i64 p.rest, .int .i64 p.extra, .int .i64 p.signs, v4, v5, v6, v7, v8, v9], .string s, .int .i64 fuel] w fun e w' => Below w.heap.size w w' ∧ ∃ v c u, e = .returned (.tuple #[v, .int .i64 c, .int .i64 u]) ∧ RunOut p S K V s (fuelF fuel) v c u w' := by
  by_cases hs : s.size ≤ 4096
  · refine (rrun_walk p.grow p.rest p.extra p.signs fuel v4 v5 v6 v7 v8 v9 s w hs hfu (stpF p S K V s (fuelF fuel)) (fun t => Inv (roomF p.grow p.rest p.extra s.size) (fuelF fuel) t ∧ RegB t) ?_ ?_ ?_).mono ?_
    · exact ⟨inv0 _ _ s (fuelF_lo fuel) hs, reg0⟩
    · intro g gr gk W t vs vp vg vt hR hI
      exact rstep_all w.heap.size g gr gk w W _ _ _ t vs vp vg vt p S K V hR hp htl hI.1 hI.2 (fuelF_hi fuel) (room_hi _ _ _ _ hs)
    · intro t hI hn
      have h1 := stepF_keeps hI.1 hn
      exact ⟨⟨h1.1, stepF_regs hI.2 hp.cb hp.db⟩, h1.2, h1.1.used⟩
    · rintro e w' ⟨hb, t', c, hE, v, he, hr⟩
      have h1 := ends_told hE (inv0 _ _ s (fuelF_lo fuel) hs)
      have h2 := room_hi p.grow p.rest p.extra s.size hs
      have h3 := room_lo p.grow p.rest p.extra s.size
      refine ⟨hb, v, (c : Int), (t'.used : Int), he, .inr ⟨hs, t', c, hE, rfl, rfl, by omega, ?_⟩⟩
      rcases hr with ⟨rfl, A, q, hv, ha⟩ | ⟨h9, hv⟩
      · exact .inl ⟨rfl, A, q, hv, ha⟩
      · exact .inr ⟨by omega, hv⟩
  · refine (rrun_long p.grow p.rest p.extra p.signs fuel v4 v5 v6 v7 v8 v9 s w (by omega)).mono ?_
    rintro e w' ⟨he, hb⟩
    exact ⟨hb, _, 2, 0, he, .inl ⟨by omega, rfl, rfl, rfl⟩⟩
set_option maxRecDepth 100000 in
set_option maxHeartbeats 8000000 in
theorem law_vruns (p : Prog) (S K V : List Int) (v4 v5 v6 v7 v8 v9 : Value) (s : ByteArray) (fuel : Int) (w : World) (hp : PIn w w.heap.size (prgL p.grow p.rest p.extra p.signs v4 v5 v6 v7 v8 v9) p S K V) (htl : ∀ k, (p.texts.getD k ⟨#[]⟩).size ≤ 140737488351232) (hsz : s.size ≤ 9223372036854775807) :
    Calls Try.prog 4 #[.agg #[.int .i64 p.grow, .int .i64 p.rest, .int .i64 p.extra, .int .i64 p.signs, v4, v5, v6, v7, v8, v9], .string s, .int .i64 fuel] w fun e w' => e = .returned (.bool true) ∧ Below w.heap.size w w' := by
  have E1 := Lib.hid (lw_start hp)
  obtain ⟨gr, hgr⟩ : ∃ x, x = p.grow := ⟨_, rfl⟩
  obtain ⟨re, hre⟩ : ∃ x, x = p.rest := ⟨_, rfl⟩
  obtain ⟨ex, hex⟩ : ∃ x, x = p.extra := ⟨_, rfl⟩
  obtain ⟨sg, hsg⟩ : ∃ x, x = p.signs := ⟨_, rfl⟩
  have HR := Lib.hid (fun W h f => vrun p S K V v4 v5 v6 v7 v8 v9 s f W h)
  have HR2 := Lib.hid (fun W h f => rvrun p S K V v4 v5 v6 v7 v8 v9 s f W h htl)
  rw [← hgr, ← hre, ← hex, ← hsg] at HR HR2 E1 ⊢
  clear hp hgr hre hex hsg htl
  unfold prgL at HR HR2 E1
  obtain ⟨f5, hf5⟩ : ∃ x, (if 3000 < fuel then (3000 : Int) else fuel) = x := ⟨_, rfl⟩
  have hhi : f5 ≤ 3000 := by rw [← hf5]; split <;> omega
  go_enter Try.func4, Try.ntmps4
  go_upto_region 2 with (fail)
  generalize w.alloc _ = W1 at E1 ⊢
  have hld := E1.out.blk.load rfl
  go_wp2_with fail
  refine (HR.out _ E1.out.prog f5).mono ?_
  rintro e w3 ⟨hb3, v, c, u, rfl, hO⟩
  have E3 := Lib.hid (E1.out.go hb3)
  clear hb3 hld
  have hld := E3.out.blk.load rfl
  go_wp2_with fail
  refine (HR2.out _ E3.out.prog f5 (by omega)).mono ?_
  rintro e w4 ⟨hb4, v2, c2, u2, rfl, hO2⟩
  have E4 := Lib.hid (E3.out.go hb4)
  clear hld
  have hboth : c2 = c ∧ u2 = u ∧ ∃ l : List Int, l.length ≤ 10000000000 ∧ (∃ A n q, v = .slice A n q ∧ n = l.length ∧ Arr w4 w4.heap.size 1 A n (IntC l)) ∧ (∃ A n q, v2 = .slice A n q ∧ n = l.length ∧ Arr w4 w4.heap.size 1 A n (IntC l)) := by
    have hnil : ∀ x : Value, x = .slice none 0 0 → ∃ A n q, x = .slice A n q ∧ n = ([] : List Int).length ∧ Arr w4 w4.heap.size 1 A n (IntC []) := fun x h => ⟨none, 0, 0, h, rfl, fun h9 => absurd h9 (by omega)⟩
    rcases hO with ⟨hl, rfl, rfl, hv⟩ | ⟨hs, t, k, hE, rfl, rfl, htl, hv⟩
    · rcases hO2 with ⟨_, rfl, rfl, hv2⟩ | ⟨h9, _⟩
      · exact ⟨rfl, rfl, [], by simp, hnil _ hv, hnil _ hv2⟩
      · omega
    · rcases hO2 with ⟨h9, _⟩ | ⟨_, t2, k2, hE2, rfl, rfl, _, hv2⟩
      · omega
      · obtain ⟨rfl, rfl⟩ := hE2.det hE
        refine ⟨rfl, rfl, ?_⟩
        rcases hv with ⟨h0, A, q, rfl, ha⟩ | ⟨h0, rfl⟩
        · rcases hv2 with ⟨_, A2, q2, rfl, ha2⟩ | ⟨h9, _⟩
          · exact ⟨t2.told, htl, ⟨A, _, q, rfl, rfl, (ha.below hb4).more hb4.size⟩, ⟨A2, _, q2, rfl, rfl, ha2⟩⟩
          · exact absurd h0 h9
        · rcases hv2 with ⟨h9, _⟩ | ⟨_, rfl⟩
          · exact absurd h9 h0
          · exact ⟨[], by simp, hnil _ rfl, hnil _ rfl⟩
  obtain ⟨rfl, rfl, l, hll, ⟨A, n, q, rfl, hn, hA⟩, ⟨A2, n2, q2, rfl, hn2, hA2⟩⟩ := hboth
  have HA := Lib.hid (And.intro hA hA2)
  have HN := Lib.hid (And.intro hn hn2)
  clear hA hA2 hO hO2 hb4
  have HI := Lib.hid (fun (W : World) (h : Arr W W.heap.size 1 A n (IntC l)) (h2 : Arr W W.heap.size 1 A2 n2 (IntC l)) => ints_any A A2 n n2 q q2 W.heap.size l l W hn.symm hn2.symm (by omega) (by omega) h h2)
  clear hn hn2
  have e9 : decide (l = l) = true := by simp
  have ec : (c2 == c2) = true := by simp
  have eu : (u2 == u2) = true := by simp
  go_wp2_with fail
  refine (HI.out w4 HA.out.1 HA.out.2).mono ?_
  rintro e w5 ⟨rfl, mm, rfl⟩
  have E5 := Lib.hid (E4.out.go (below_drewN (Below.refl _ _) mm))
  generalize w4.drewN mm = w5 at E5 ⊢
  go_wp2_with fail
  go_returns
  exact ⟨by first | rfl | simp, E5.out.bel⟩
end Go.Proofs.Ytgejpggbmgiocaa
