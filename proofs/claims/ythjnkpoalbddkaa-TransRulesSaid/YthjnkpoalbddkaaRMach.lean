/- Which machine may be: the reference's Right. -/
import Derived.Test.YthjnkpoalbddkaaMach
namespace Go.Proofs.Ythjnkpoalbddkaa
open Go.RowKit

/-- no number of the first so many is out of the range -/
theorem anyOut_step {xs : List Int} {N : Int} {k : Nat} (h : ¬ AnyOut xs N k) (h2 : ¬ (xs.getD k 0 < 0 ∨ N ≤ xs.getD k 0)) : ¬ AnyOut xs N (k + 1) := fun ⟨j, hj, h5⟩ => by
  by_cases e : j = k
  · rw [e] at h5; exact h2 h5
  · exact h ⟨j, by omega, h5⟩

set_option maxRecDepth 100000 in
set_option maxHeartbeats 8000000 in
theorem rtright_any (A0 A1 A2 A3 : Option Addr) (n0 n1 n2 n3 c0 c1 c2 c3 : Nat) (m : Mach) (RA : Nat → Option Addr) (rc : Nat → Nat) (PA : Nat → Option Addr) (pc : Nat → Nat) (w : World) (h : MachIn w A0 A1 A2 A3 n0 n1 n2 n3 m RA rc PA pc) :
    Calls Try.prog 23 #[.agg #[.slice A0 n0 c0, .slice A1 n1 c1, .slice A2 n2 c2, .slice A3 n3 c3]] w fun e w' => e = .returned (.bool (rightM m)) ∧ Below w.heap.size w w' := by
  have H := Lib.hid h
  have hl0 := h.next.len
  have hl1 := h.put.len
  have hl2 := h.elen
  have hl3 := h.tlen
  have hle0 := h.next.le
  have hle1 := h.put.le
  have hle2 := h.ele
  have hle3 := h.tle
  clear h
  obtain ⟨bq, hbq⟩ : ∃ bq, bq = rightM m := ⟨_, rfl⟩
  rw [← hbq]
  have HBQ := Lib.hid hbq
  clear hbq
  have hbw : Below w.heap.size w (w.alloc (.cells #[.slice A0 n0 c0, .slice A1 n1 c1, .slice A2 n2 c2, .slice A3 n3 c3] 42)) := (Below.refl _ _).alloc (Nat.le_refl _) _
  have HBW := Lib.hid hbw
  clear hbw
  have hno : Hid (¬ RightM m → bq = false) := fun h => by rw [HBQ.out]; exact rightM_no h
  go_enter Try.func23, Try.ntmps23
  have hcase : n0 < 1 ∨ (1 ≤ n0 ∧ 1200 < n0) ∨ (1 ≤ n0 ∧ n0 ≤ 1200 ∧ n1 ≠ n0) ∨ (1 ≤ n0 ∧ n0 ≤ 1200 ∧ n1 = n0 ∧ n2 ≠ n0) ∨ (1 ≤ n0 ∧ n0 ≤ 1200 ∧ n1 = n0 ∧ n2 = n0 ∧ 4096 < n3) ∨ (1 ≤ n0 ∧ n0 ≤ 1200 ∧ n1 = n0 ∧ n2 = n0 ∧ n3 ≤ 4096) := by omega
  rcases hcase with h1 | ⟨h1, h2⟩ | ⟨h1, h2, h3⟩ | ⟨h1, h2, h3, h4⟩ | ⟨h1, h2, h3, h4, h5⟩ | ⟨h1, h2, h3, h4, h5⟩
  · have hb : bq = false := hno.out (fun h => by have := h.lo; omega)
    subst hb
    go_wp2_with fail
    go_returns
    exact ⟨by first | rfl | (simp; done) | (simp; omega), HBW.out⟩
  · have hb : bq = false := hno.out (fun h => by have := h.hi; omega)
    subst hb
    go_wp2_with fail
    go_returns
    exact ⟨by first | rfl | (simp; done) | (simp; omega), HBW.out⟩
  · have hb : bq = false := hno.out (fun h => by have := h.puts; omega)
    subst hb
    have e1 : ((n1 : Int) != (n0 : Int)) = true := by simp; omega
    go_wp2_with fail
    go_returns
    exact ⟨by first | rfl | (simp; done) | (simp; omega), HBW.out⟩
  · have hb : bq = false := hno.out (fun h => by have := h.ends; omega)
    subst hb
    subst h3
    have e1 : ((n1 : Int) != (n1 : Int)) = false := by simp
    have e2 : ((n2 : Int) != (n1 : Int)) = true := by simp; omega
    go_wp2_with fail
    go_returns
    exact ⟨by first | rfl | (simp; done) | (simp; omega), HBW.out⟩
  · have hb : bq = false := hno.out (fun h => by have := h.few; omega)
    subst hb
    subst h3
    subst h4
    have e1 : ((n2 : Int) != (n2 : Int)) = false := by simp
    go_wp2_with fail
    go_returns
    exact ⟨by first | rfl | (simp; done) | (simp; omega), HBW.out⟩
  · subst h3
    subst h4
    have e1 : ((n2 : Int) != (n2 : Int)) = false := by simp
    have d1 : decide ((n2 : Int) < 1) = false := by simp; omega
    have d2 : decide ((1200 : Int) < (n2 : Int)) = false := by simp; omega
    have d3 : decide ((4096 : Int) < (n3 : Int)) = false := by simp; omega
    go_wp2_with fail
    have q0 : (w.alloc (.cells #[.slice A0 n2 c0, .slice A1 n2 c1, .slice A2 n2 c2, .slice A3 n3 c3] 42)).cell? ⟨w.heap.size, 0, none⟩ = some (.slice A0 n2 c0) := by simp
    have q1 : (w.alloc (.cells #[.slice A0 n2 c0, .slice A1 n2 c1, .slice A2 n2 c2, .slice A3 n3 c3] 42)).cell? ⟨w.heap.size, 1, none⟩ = some (.slice A1 n2 c1) := by simp
    have q2 : (w.alloc (.cells #[.slice A0 n2 c0, .slice A1 n2 c1, .slice A2 n2 c2, .slice A3 n3 c3] 42)).cell? ⟨w.heap.size, 2, none⟩ = some (.slice A2 n2 c2) := by simp
    have q3 : (w.alloc (.cells #[.slice A0 n2 c0, .slice A1 n2 c1, .slice A2 n2 c2, .slice A3 n3 c3] 42)).cell? ⟨w.heap.size, 3, none⟩ = some (.slice A3 n3 c3) := by simp
    have HBW2 := Lib.hid HBW.out
    clear HBW
    generalize w.alloc (.cells #[.slice A0 n2 c0, .slice A1 n2 c1, .slice A2 n2 c2, .slice A3 n3 c3] 42) = w2 at HBW2 q0 q1 q2 q3 ⊢
    have H2 := Lib.hid (H.out.keep HBW2.out)
    clear d1 d2 d3 e1
    go_loopw [40] (fun i wr => ∃ k : Nat, k ≤ n3 ∧ i = .int .i64 k ∧ wr = w2 ∧ ¬ AnyLong m.texts k) (fun i _ => n3 - (intOf i).toNat)
    case atStart => exact ⟨0, by omega, rfl, rfl, fun ⟨j, hj, _⟩ => absurd hj (by omega)⟩
    case round =>
      obtain ⟨k, hk, rfl, hwr, hnl⟩ := hrel
      obtain rfl : w2 = wr := hwr.symm
      have HNL := Lib.hid hnl
      clear hnl
      by_cases hlt : k < n3
      · obtain ⟨b, o, rfl, _, hc⟩ := H2.out.tarr.one hlt
        unfold StrC at hc
        obtain ⟨t, ht⟩ : ∃ t, t = m.texts.getD k ⟨#[]⟩ := ⟨_, rfl⟩
        rw [← ht] at hc
        have HT := Lib.hid ht
        clear ht
        by_cases g1 : 4096 < t.size
        · have hb : bq = false := hno.out (fun h => h.short ⟨k, by omega, by rw [← HT.out]; exact g1⟩)
          subst hb
          go_wp2_with fail
          go_returns
          exact ⟨by first | rfl | simp, HBW2.out⟩
        · have f1 : decide ((4096 : Int) < (t.size : Int)) = false := by simp; omega
          go_wp2_with fail
          go_roundw
          case rel => exact ⟨k + 1, by omega, by go_num, by first | rfl | trivial, fun ⟨j, hj, h5⟩ => by
                        by_cases e : j = k
                        · rw [e, ← HT.out] at h5; omega
                        · exact HNL.out ⟨j, by omega, h5⟩⟩
          case measure => simp [intOf]; omega
      · obtain rfl : k = n3 := by omega
        go_wp2_with fail
        go_loopw [6] (fun i wr => ∃ (j mq : Nat), j ≤ n2 ∧ i = .int .i64 j ∧ wr = w2.drewN mq ∧ ∀ a, a < j → StateOk m a) (fun i _ => n2 - (intOf i).toNat)
        case atStart => exact ⟨0, 0, by omega, rfl, rfl, fun j hj => absurd hj (by omega)⟩
        case round =>
          obtain ⟨j, mq, hj, rfl, rfl, hok⟩ := hrel
          have HK := Lib.hid hok
          clear hok
          by_cases hlt2 : j < n2
          · obtain ⟨b0, o0, rfl, _, hc0⟩ := H2.out.next.arr.one hlt2
            obtain ⟨b1, o1, rfl, _, hc1⟩ := H2.out.put.arr.one hlt2
            obtain ⟨b2, o2, rfl, _, hc2⟩ := H2.out.earr.one hlt2
            unfold RowC at hc0 hc1
            unfold NumC at hc2
            have HR0 := Lib.hid (H2.out.next.row j hlt2)
            have HR1 := Lib.hid (H2.out.put.row j hlt2)
            obtain ⟨rk, hrk⟩ : ∃ rk, rk = m.next.getD j [] := ⟨_, rfl⟩
            obtain ⟨pk, hpk⟩ : ∃ pk, pk = m.put.getD j [] := ⟨_, rfl⟩
            obtain ⟨ev, hev⟩ : ∃ ev, ev = m.ends.getD j 0 := ⟨_, rfl⟩
            rw [← hrk] at hc0 HR0
            rw [← hpk] at hc1 HR1
            rw [← hev] at hc2
            obtain ⟨ln, hln⟩ : ∃ ln, ln = rk.length := ⟨_, rfl⟩
            obtain ⟨lp, hlp⟩ : ∃ lp, lp = pk.length := ⟨_, rfl⟩
            rw [← hln] at hc0 HR0
            rw [← hlp] at hc1 HR1
            have HE := Lib.hid (And.intro hrk (And.intro hpk (And.intro hev (And.intro hln hlp))))
            clear hrk hpk hev hln hlp
            by_cases g1 : ln = 256
            · have f1 : ((ln : Int) != 256) = false := by simp; omega
              by_cases g2 : lp = 256
              · have f2 : ((lp : Int) != 256) = false := by simp; omega
                by_cases g3 : ev < 0
                · have f3 : decide (ev < 0) = true := by simpa using g3
                  have hb : bq = false := hno.out (fun h => by have := (h.states j (by omega)).endlo; rw [← HE.out.2.2.1] at this; omega)
                  subst hb
                  go_wp2_with fail
                  go_quiet (fail)
                  go_wp2_with fail
                  go_returns
                  exact ⟨by first | rfl | simp, below_drewN (below_drewN HBW2.out _) _⟩
                · have f3 : decide (ev < 0) = false := by simpa using g3
                  by_cases g4 : (k : Int) ≤ ev
                  · have f4 : decide ((k : Int) ≤ ev) = true := by simpa using g4
                    have hb : bq = false := hno.out (fun h => by have := (h.states j (by omega)).endhi; rw [← HE.out.2.2.1] at this; omega)
                    subst hb
                    go_wp2_with fail
                    go_quiet (fail)
                    go_wp2_with fail
                    go_returns
                    exact ⟨by first | rfl | simp, below_drewN (below_drewN HBW2.out _) _⟩
                  · have f4 : decide ((k : Int) ≤ ev) = false := by simpa using g4
                    have HG := Lib.hid (And.intro g1 (And.intro g2 (And.intro g3 g4)))
                    obtain ⟨br, orr, hRA, _, hcr⟩ := HR0.out.one (k := 0) (by omega)
                    obtain ⟨bp, op, hPA, _, hcp⟩ := HR1.out.one (k := 0) (by omega)
                    have HCR : Hid (∀ b, b < 256 → w2.cell? ⟨br, orr + b, none⟩ = some (.int .i64 (rk.getD b 0))) := fun b hb => by
                      obtain ⟨b', o', e', _, h'⟩ := HR0.out.one (k := b) (by omega)
                      rw [hRA] at e'
                      simp only [Option.some.injEq, Addr.mk.injEq, and_true] at e'
                      obtain ⟨rfl, rfl⟩ := e'
                      exact h'
                    have HCP : Hid (∀ b, b < 256 → w2.cell? ⟨bp, op + b, none⟩ = some (.int .i64 (pk.getD b 0))) := fun b hb => by
                      obtain ⟨b', o', e', _, h'⟩ := HR1.out.one (k := b) (by omega)
                      rw [hPA] at e'
                      simp only [Option.some.injEq, Addr.mk.injEq, and_true] at e'
                      obtain ⟨rfl, rfl⟩ := e'
                      exact h'
                    rw [hRA] at hc0
                    rw [hPA] at hc1
                    have hln : (256 : Int) ≤ (ln : Int) := by omega
                    have hlp : (256 : Int) ≤ (lp : Int) := by omega
                    have hwr3 : IntKind.i64.wrap (2 * (k : Int)) = 2 * (k : Int) := IntWalk.i64_in _ (by omega)
                    clear hcr hcp hRA hPA g1 g2 g3 g4 HR0 HR1
                    go_wp2_with fail
                    go_quiet (fail)
                    go_wp2_with fail
                    clear f1 f2 f3 f4
                    go_loopw [7] (fun i wr => ∃ (b mq : Nat), b ≤ 256 ∧ i = .int .i64 b ∧ wr = w2.drewN mq ∧ ¬ AnyOut rk (n2 : Int) b ∧ ¬ AnyOut pk (2 * (k : Int)) b) (fun i _ => 256 - (intOf i).toNat)
                    case atStart => exact ⟨0, mq + nq, by omega, rfl, by rw [World.drewN_drewN], fun ⟨a, ha, _⟩ => absurd ha (by omega), fun ⟨a, ha, _⟩ => absurd ha (by omega)⟩
                    case round =>
                      obtain ⟨b, mr, hb, rfl, rfl, hn1, hn2⟩ := hrel
                      have HN := Lib.hid (And.intro hn1 hn2)
                      clear hn1 hn2
                      by_cases hlt3 : b < 256
                      · have hcr := HCR.out b hlt3
                        have hcp := HCP.out b hlt3
                        obtain ⟨x, hx⟩ : ∃ x, x = rk.getD b 0 := ⟨_, rfl⟩
                        obtain ⟨z, hz⟩ : ∃ z, z = pk.getD b 0 := ⟨_, rfl⟩
                        rw [← hx] at hcr
                        rw [← hz] at hcp
                        have HX := Lib.hid (And.intro hx hz)
                        clear hx hz
                        have i1 : (b : Int) < (ln : Int) := by omega
                        have i2 : (b : Int) < (lp : Int) := by omega
                        have hf1 : Hid (x < 0 ∨ (n2 : Int) ≤ x → bq = false) := fun h9 => hno.out (fun h => (h.states j (by omega)).nin ⟨b, by omega, by rw [← HE.out.1, ← HX.out.1, hl0]; exact h9⟩)
                        have hf2 : Hid (z < 0 ∨ 2 * (k : Int) ≤ z → bq = false) := fun h9 => hno.out (fun h => (h.states j (by omega)).pin ⟨b, by omega, by rw [← HE.out.2.1, ← HX.out.2, hl3]; exact h9⟩)
                        by_cases k1 : x < 0
                        · have t1 : decide (x < 0) = true := by simpa using k1
                          have hb9 := hf1.out (.inl k1)
                          subst hb9
                          go_wp2_with fail
                          go_quiet (fail)
                          go_wp2_with fail
                          go_returns
                          exact ⟨by first | rfl | simp, below_drewN (below_drewN HBW2.out _) _⟩
                        · have t1 : decide (x < 0) = false := by simpa using k1
                          by_cases k2 : (n2 : Int) ≤ x
                          · have t2 : decide ((n2 : Int) ≤ x) = true := by simpa using k2
                            have hb9 := hf1.out (.inr k2)
                            subst hb9
                            go_wp2_with fail
                            go_quiet (fail)
                            go_wp2_with fail
                            go_returns
                            exact ⟨by first | rfl | simp, below_drewN (below_drewN HBW2.out _) _⟩
                          · have t2 : decide ((n2 : Int) ≤ x) = false := by simpa using k2
                            by_cases k3 : z < 0
                            · have t3 : decide (z < 0) = true := by simpa using k3
                              have hb9 := hf2.out (.inl k3)
                              subst hb9
                              go_wp2_with fail
                              go_quiet (fail)
                              go_wp2_with fail
                              go_returns
                              exact ⟨by first | rfl | simp, below_drewN (below_drewN HBW2.out _) _⟩
                            · have t3 : decide (z < 0) = false := by simpa using k3
                              by_cases k4 : 2 * (k : Int) ≤ z
                              · have t4 : decide (2 * (k : Int) ≤ z) = true := by simpa using k4
                                have hb9 := hf2.out (.inr k4)
                                subst hb9
                                go_wp2_with fail
                                go_quiet (fail)
                                go_wp2_with fail
                                go_returns
                                exact ⟨by first | rfl | simp, below_drewN (below_drewN HBW2.out _) _⟩
                              · have t4 : decide (2 * (k : Int) ≤ z) = false := by simpa using k4
                                have HKK := Lib.hid (And.intro k1 (And.intro k2 (And.intro k3 k4)))
                                clear k1 k2 k3 k4
                                go_wp2_with fail
                                go_quiet (fail)
                                go_wp2_with fail
                                go_roundw
                                case rel => exact ⟨b + 1, _, by omega, by go_num, rfl, anyOut_step HN.out.1 (by rw [← HX.out.1]; exact fun h => by have h1 := HKK.out.1; have h2 := HKK.out.2.1; omega), anyOut_step HN.out.2 (by rw [← HX.out.2]; exact fun h => by have h1 := HKK.out.2.2.1; have h2 := HKK.out.2.2.2; omega)⟩
                                case measure => simp [intOf]; omega
                      · obtain rfl : b = 256 := by omega
                        go_wp2_with fail
                        go_roundw
                        case rel => exact ⟨j + 1, _, by omega, by go_num, rfl, fun a ha => by
                                      by_cases e : a = j
                                      · rw [e]
                                        exact ⟨by rw [← HE.out.1, ← HE.out.2.2.2.1]; exact HG.out.1, by rw [← HE.out.2.1, ← HE.out.2.2.2.2]; exact HG.out.2.1, by rw [← HE.out.2.2.1]; have := HG.out.2.2.1; omega, by rw [← HE.out.2.2.1, hl3]; have := HG.out.2.2.2; omega,
                                          by rw [← HE.out.1, hl0]; exact HN.out.1, by rw [← HE.out.2.1, hl3]; exact HN.out.2⟩
                                      · exact HK.out a (by omega)⟩
                        case measure => simp [intOf]; omega
              · have f2 : ((lp : Int) != 256) = true := by simp; omega
                have hb : bq = false := hno.out (fun h => by have := (h.states j (by omega)).plen; rw [← HE.out.2.1, ← HE.out.2.2.2.2] at this; omega)
                subst hb
                go_wp2_with fail
                go_quiet (fail)
                go_wp2_with fail
                go_returns
                exact ⟨by first | rfl | simp, below_drewN (below_drewN HBW2.out _) _⟩
            · have f1 : ((ln : Int) != 256) = true := by simp; omega
              have hb : bq = false := hno.out (fun h => by have := (h.states j (by omega)).nlen; rw [← HE.out.1, ← HE.out.2.2.2.1] at this; omega)
              subst hb
              go_wp2_with fail
              go_quiet (fail)
              go_wp2_with fail
              go_returns
              exact ⟨by first | rfl | simp, below_drewN (below_drewN HBW2.out _) _⟩
          · obtain rfl : j = n2 := by omega
            have hb : bq = true := by
              rw [HBQ.out]
              exact rightM_yes ⟨by omega, by omega, by omega, by omega, by omega, fun i hi => HK.out i (by omega), by rw [hl3]; exact HNL.out⟩
            subst hb
            go_wp2_with fail
            go_returns
            exact ⟨rfl, below_drewN HBW2.out _⟩
end Go.Proofs.Ythjnkpoalbddkaa
