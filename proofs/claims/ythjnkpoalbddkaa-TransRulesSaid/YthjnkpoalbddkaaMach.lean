/- Machines: what one is, which may be, where one lies in memory. -/
import Derived.Test.YthjnkpoalbddkaaIdx
namespace Go.Proofs.Ythjnkpoalbddkaa
open Go.RowKit

structure Mach where
  next : List (List Int)
  put : List (List Int)
  ends : List Int
  texts : List ByteArray

/-- state i may be -/
structure StateOk (m : Mach) (i : Nat) : Prop where
  nlen : (m.next.getD i []).length = 256
  plen : (m.put.getD i []).length = 256
  endlo : 0 ≤ m.ends.getD i 0
  endhi : m.ends.getD i 0 < (m.texts.length : Int)
  nin : ¬ AnyOut (m.next.getD i []) m.next.length 256
  pin : ¬ AnyOut (m.put.getD i []) (2 * (m.texts.length : Int)) 256
structure RightM (m : Mach) : Prop where
  lo : 1 ≤ m.next.length
  hi : m.next.length ≤ 1200
  puts : m.put.length = m.next.length
  ends : m.ends.length = m.next.length
  few : m.texts.length ≤ 4096
  states : ∀ i, i < m.next.length → StateOk m i
  short : ¬ AnyLong m.texts m.texts.length
open Classical in
noncomputable def rightM (m : Mach) : Bool := if RightM m then true else false
theorem rightM_yes {m : Mach} (h : RightM m) : rightM m = true := by unfold rightM; rw [if_pos h]
theorem rightM_no {m : Mach} (h : ¬ RightM m) : rightM m = false := by unfold rightM; rw [if_neg h]

/-- rows of a slice of slices -/
def RowC (RA : Nat → Option Addr) (rc : Nat → Nat) (rows : List (List Int)) : Nat → Nat → Value := fun k _ => .slice (RA k) (rows.getD k []).length (rc k)
structure RowsIn (w : World) (A : Option Addr) (n : Nat) (rows : List (List Int)) (RA : Nat → Option Addr) (rc : Nat → Nat) : Prop where
  len : rows.length = n
  le : n ≤ 140737488355328
  arr : Arr w w.heap.size 1 A n (RowC RA rc rows)
  row : ∀ k, k < n → Arr w w.heap.size 1 (RA k) (rows.getD k []).length (NumC .i64 (rows.getD k []))
  small : ∀ k, k < n → (rows.getD k []).length ≤ 140737488355328
structure MachIn (w : World) (A0 A1 A2 A3 : Option Addr) (n0 n1 n2 n3 : Nat) (m : Mach) (RA : Nat → Option Addr) (rc : Nat → Nat) (PA : Nat → Option Addr) (pc : Nat → Nat) : Prop where
  next : RowsIn w A0 n0 m.next RA rc
  put : RowsIn w A1 n1 m.put PA pc
  elen : m.ends.length = n2
  ele : n2 ≤ 140737488355328
  earr : Arr w w.heap.size 1 A2 n2 (NumC .i64 m.ends)
  tlen : m.texts.length = n3
  tle : n3 ≤ 140737488355328
  tarr : Arr w w.heap.size 1 A3 n3 (StrC m.texts)
theorem RowsIn.keep {w w' : World} {A : Option Addr} {n : Nat} {rows : List (List Int)} {RA : Nat → Option Addr} {rc : Nat → Nat} (h : RowsIn w A n rows RA rc) (hb : Below w.heap.size w w') : RowsIn w' A n rows RA rc :=
  ⟨h.len, h.le, (h.arr.below hb).more hb.size, fun k hk => ((h.row k hk).below hb).more hb.size, h.small⟩
theorem MachIn.keep {w w' : World} {A0 A1 A2 A3 : Option Addr} {n0 n1 n2 n3 : Nat} {m : Mach} {RA : Nat → Option Addr} {rc : Nat → Nat} {PA : Nat → Option Addr} {pc : Nat → Nat}
    (h : MachIn w A0 A1 A2 A3 n0 n1 n2 n3 m RA rc PA pc) (hb : Below w.heap.size w w') : MachIn w' A0 A1 A2 A3 n0 n1 n2 n3 m RA rc PA pc :=
  ⟨h.next.keep hb, h.put.keep hb, h.elen, h.ele, (h.earr.below hb).more hb.size, h.tlen, h.tle, (h.tarr.below hb).more hb.size⟩
theorem MachIn.drewN {w : World} {A0 A1 A2 A3 : Option Addr} {n0 n1 n2 n3 : Nat} {m : Mach} {RA : Nat → Option Addr} {rc : Nat → Nat} {PA : Nat → Option Addr} {pc : Nat → Nat} (h : MachIn w A0 A1 A2 A3 n0 n1 n2 n3 m RA rc PA pc) (q : Nat) : MachIn (w.drewN q) A0 A1 A2 A3 n0 n1 n2 n3 m RA rc PA pc := h.keep (below_drewN (Below.refl _ _) q)
theorem RowsIn.drewN {w : World} {A : Option Addr} {n : Nat} {rows : List (List Int)} {RA : Nat → Option Addr} {rc : Nat → Nat} (h : RowsIn w A n rows RA rc) (q : Nat) : RowsIn (w.drewN q) A n rows RA rc := h.keep (below_drewN (Below.refl _ _) q)

set_option maxRecDepth 100000 in
set_option maxHeartbeats 8000000 in
theorem tright_any (A0 A1 A2 A3 : Option Addr) (n0 n1 n2 n3 c0 c1 c2 c3 : Nat) (m : Mach) (RA : Nat → Option Addr) (rc : Nat → Nat) (PA : Nat → Option Addr) (pc : Nat → Nat) (w : World) (h : MachIn w A0 A1 A2 A3 n0 n1 n2 n3 m RA rc PA pc) :
    Calls Try.prog 22 #[.agg #[.slice A0 n0 c0, .slice A1 n1 c1, .slice A2 n2 c2, .slice A3 n3 c3]] w fun e w' => e = .returned (.bool (rightM m)) ∧ Below w.heap.size w w' := by
  have H := Lib.hid h
  have hl0 := h.next.len
  have hl1 := h.put.len
  have hl2 := h.elen
  have hl3 := h.tlen
  have hle0 := h.next.le
  have hle1 := h.put.le
  have hle2 := h.ele
  have hle3 := h.tle
  clear h
  obtain ⟨bq, hbq⟩ : ∃ bq, bq = rightM m := ⟨_, rfl⟩
  rw [← hbq]
  have HBQ := Lib.hid hbq
  clear hbq
  have hbw : Below w.heap.size w ((w.alloc (.cells #[.slice A0 n0 c0, .slice A1 n1 c1, .slice A2 n2 c2, .slice A3 n3 c3] 42)).alloc (.cells #[.int .i64 (n0 : Int)] 3)) :=
    ((Below.refl _ _).alloc (Nat.le_refl _) _).alloc (by simp) _
  have HBW := Lib.hid hbw
  clear hbw
  have hno : Hid (¬ RightM m → bq = false) := fun h => by rw [HBQ.out]; exact rightM_no h
  go_enter Try.func22, Try.ntmps22
  have hcase : n0 < 1 ∨ (1 ≤ n0 ∧ 1200 < n0) ∨ (1 ≤ n0 ∧ n0 ≤ 1200 ∧ n1 ≠ n0) ∨ (1 ≤ n0 ∧ n0 ≤ 1200 ∧ n1 = n0 ∧ n2 ≠ n0) ∨ (1 ≤ n0 ∧ n0 ≤ 1200 ∧ n1 = n0 ∧ n2 = n0 ∧ 4096 < n3) ∨ (1 ≤ n0 ∧ n0 ≤ 1200 ∧ n1 = n0 ∧ n2 = n0 ∧ n3 ≤ 4096) := by omega
  rcases hcase with h1 | ⟨h1, h2⟩ | ⟨h1, h2, h3⟩ | ⟨h1, h2, h3, h4⟩ | ⟨h1, h2, h3, h4, h5⟩ | ⟨h1, h2, h3, h4, h5⟩
  · have hb : bq = false := hno.out (fun h => by have := h.lo; omega)
    subst hb
    go_wp2_with fail
    go_returns
    exact ⟨by first | rfl | (simp; done) | (simp; omega), HBW.out⟩
  · have hb : bq = false := hno.out (fun h => by have := h.hi; omega)
    subst hb
    go_wp2_with fail
    go_returns
    exact ⟨by first | rfl | (simp; done) | (simp; omega), HBW.out⟩
  · have hb : bq = false := hno.out (fun h => by have := h.puts; omega)
    subst hb
    have e1 : ((n1 : Int) != (n0 : Int)) = true := by simp; omega
    go_wp2_with fail
    go_returns
    exact ⟨by first | rfl | (simp; done) | (simp; omega), HBW.out⟩
  · have hb : bq = false := hno.out (fun h => by have := h.ends; omega)
    subst hb
    subst h3
    have e1 : ((n1 : Int) != (n1 : Int)) = false := by simp
    have e2 : ((n2 : Int) != (n1 : Int)) = true := by simp; omega
    go_wp2_with fail
    go_returns
    exact ⟨by first | rfl | (simp; done) | (simp; omega), HBW.out⟩
  · have hb : bq = false := hno.out (fun h => by have := h.few; omega)
    subst hb
    subst h3
    subst h4
    have e1 : ((n2 : Int) != (n2 : Int)) = false := by simp
    go_wp2_with fail
    go_returns
    exact ⟨by first | rfl | (simp; done) | (simp; omega), HBW.out⟩
  · subst h3
    subst h4
    have e1 : ((n2 : Int) != (n2 : Int)) = false := by simp
    have d1 : decide ((n2 : Int) < 1) = false := by simp; omega
    have d2 : decide ((1200 : Int) < (n2 : Int)) = false := by simp; omega
    have d3 : decide ((4096 : Int) < (n3 : Int)) = false := by simp; omega
    go_wp2_with fail
    have q0 : ((w.alloc (.cells #[.slice A0 n2 c0, .slice A1 n2 c1, .slice A2 n2 c2, .slice A3 n3 c3] 42)).alloc (.cells #[.int .i64 (n2 : Int)] 3)).cell? ⟨w.heap.size, 0, none⟩ = some (.slice A0 n2 c0) := by simp
    have q1 : ((w.alloc (.cells #[.slice A0 n2 c0, .slice A1 n2 c1, .slice A2 n2 c2, .slice A3 n3 c3] 42)).alloc (.cells #[.int .i64 (n2 : Int)] 3)).cell? ⟨w.heap.size, 1, none⟩ = some (.slice A1 n2 c1) := by simp
    have q2 : ((w.alloc (.cells #[.slice A0 n2 c0, .slice A1 n2 c1, .slice A2 n2 c2, .slice A3 n3 c3] 42)).alloc (.cells #[.int .i64 (n2 : Int)] 3)).cell? ⟨w.heap.size, 2, none⟩ = some (.slice A2 n2 c2) := by simp
    have q3 : ((w.alloc (.cells #[.slice A0 n2 c0, .slice A1 n2 c1, .slice A2 n2 c2, .slice A3 n3 c3] 42)).alloc (.cells #[.int .i64 (n2 : Int)] 3)).cell? ⟨w.heap.size, 3, none⟩ = some (.slice A3 n3 c3) := by simp
    have qn : ((w.alloc (.cells #[.slice A0 n2 c0, .slice A1 n2 c1, .slice A2 n2 c2, .slice A3 n3 c3] 42)).alloc (.cells #[.int .i64 (n2 : Int)] 3)).cell? ⟨w.heap.size + 1, 0, none⟩ = some (.int .i64 (n2 : Int)) := by simp
    have HBW2 := Lib.hid HBW.out
    clear HBW
    generalize (w.alloc (.cells #[.slice A0 n2 c0, .slice A1 n2 c1, .slice A2 n2 c2, .slice A3 n3 c3] 42)).alloc (.cells #[.int .i64 (n2 : Int)] 3) = w2 at HBW2 q0 q1 q2 q3 qn ⊢
    have H2 := Lib.hid (H.out.keep HBW2.out)
    clear d1 d2 d3 e1
    go_loopw [38] (fun i wr => ∃ (k mq : Nat), k ≤ n2 ∧ i = .int .i64 k ∧ wr = w2.drewN mq ∧ ∀ j, j < k → StateOk m j) (fun i _ => n2 - (intOf i).toNat)
    case atStart => exact ⟨0, 0, by omega, rfl, rfl, fun j hj => absurd hj (by omega)⟩
    case round =>
      obtain ⟨k, mq, hk, rfl, rfl, hok⟩ := hrel
      have HK := Lib.hid hok
      clear hok
      by_cases hlt : k < n2
      · obtain ⟨b0, o0, rfl, _, hc0⟩ := H2.out.next.arr.one hlt
        obtain ⟨b1, o1, rfl, _, hc1⟩ := H2.out.put.arr.one hlt
        obtain ⟨b2, o2, rfl, _, hc2⟩ := H2.out.earr.one hlt
        unfold RowC at hc0 hc1
        unfold NumC at hc2
        have hsm0 := H2.out.next.small k hlt
        have hsm1 := H2.out.put.small k hlt
        have HI1 := Lib.hid (fun hm => idx44 (RA k) (m.next.getD k []).length (rc k) (w.heap.size + 1) (m.next.getD k []) (n2 : Int) (w2.drewN hm) hsm0 ((H2.out.drewN hm).next.row k hlt) qn)
        have HI2 := Lib.hid (fun hm => idx45 (PA k) (m.put.getD k []).length (pc k) w.heap.size (m.put.getD k []) A3 n3 c3 (w2.drewN hm) hsm1 ((H2.out.drewN hm).put.row k hlt) q3 (by omega))
        obtain ⟨rk, hrk⟩ : ∃ rk, rk = m.next.getD k [] := ⟨_, rfl⟩
        obtain ⟨pk, hpk⟩ : ∃ pk, pk = m.put.getD k [] := ⟨_, rfl⟩
        obtain ⟨ev, hev⟩ : ∃ ev, ev = m.ends.getD k 0 := ⟨_, rfl⟩
        rw [← hrk] at hc0 hsm0 HI1
        rw [← hpk] at hc1 hsm1 HI2
        rw [← hev] at hc2
        obtain ⟨ln, hln⟩ : ∃ ln, ln = rk.length := ⟨_, rfl⟩
        obtain ⟨lp, hlp⟩ : ∃ lp, lp = pk.length := ⟨_, rfl⟩
        rw [← hln] at hc0 hsm0 HI1
        rw [← hlp] at hc1 hsm1 HI2
        have HE := Lib.hid (And.intro hrk (And.intro hpk (And.intro hev (And.intro hln hlp))))
        clear hrk hpk hev hln hlp
        by_cases g1 : ln = 256
        · have f1 : ((ln : Int) != 256) = false := by simp; omega
          by_cases g2 : lp = 256
          · have f2 : ((lp : Int) != 256) = false := by simp; omega
            by_cases g3 : ev < 0
            · have f3 : decide (ev < 0) = true := by simpa using g3
              have hb : bq = false := hno.out (fun h => by have := (h.states k (by omega)).endlo; rw [← HE.out.2.2.1] at this; omega)
              subst hb
              go_wp2_with fail
              go_quiet (fail)
              go_wp2_with fail
              go_returns
              exact ⟨by first | rfl | simp, below_drewN (below_drewN HBW2.out _) _⟩
            · have f3 : decide (ev < 0) = false := by simpa using g3
              by_cases g4 : (n3 : Int) ≤ ev
              · have f4 : decide ((n3 : Int) ≤ ev) = true := by simpa using g4
                have hb : bq = false := hno.out (fun h => by have := (h.states k (by omega)).endhi; rw [← HE.out.2.2.1] at this; omega)
                subst hb
                go_wp2_with fail
                go_quiet (fail)
                go_wp2_with fail
                go_returns
                exact ⟨by first | rfl | simp, below_drewN (below_drewN HBW2.out _) _⟩
              · have f4 : decide ((n3 : Int) ≤ ev) = false := by simpa using g4
                obtain ⟨ba, hba⟩ : ∃ ba, ba = anyB rk (n2 : Int) ln := ⟨_, rfl⟩
                obtain ⟨bb, hbb⟩ : ∃ bb, bb = anyB pk (2 * (n3 : Int)) lp := ⟨_, rfl⟩
                rw [← hba] at HI1
                rw [← hbb] at HI2
                have HBA : Hid (ba = true ↔ AnyOut (m.next.getD k []) m.next.length 256) := by
                  show _ ↔ _
                  rw [← HE.out.1, hl0, ← g1, hba]
                  by_cases h9 : AnyOut rk (n2 : Int) ln
                  · rw [anyB_yes h9]; exact ⟨fun _ => h9, fun _ => rfl⟩
                  · rw [anyB_no h9]; exact ⟨fun h => (by cases h), fun h => absurd h h9⟩
                have HBB : Hid (bb = true ↔ AnyOut (m.put.getD k []) (2 * (m.texts.length : Int)) 256) := by
                  show _ ↔ _
                  rw [← HE.out.2.1, hl3, ← g2, hbb]
                  by_cases h9 : AnyOut pk (2 * (n3 : Int)) lp
                  · rw [anyB_yes h9]; exact ⟨fun _ => h9, fun _ => rfl⟩
                  · rw [anyB_no h9]; exact ⟨fun h => (by cases h), fun h => absurd h h9⟩
                have HG := Lib.hid (And.intro g1 (And.intro g2 (And.intro g3 g4)))
                clear hba hbb g1 g2 g3 g4
                cases ba with
                | true =>
                  have hb : bq = false := hno.out (fun h => (h.states k (by omega)).nin (HBA.out.mp rfl))
                  subst hb
                  go_wp2_with fail
                  go_quiet (fail)
                  go_wp2_with fail
                  refine (HI1.out _).mono ?_
                  rintro e w' ⟨rfl, rfl⟩
                  go_wp2_with fail
                  go_returns
                  exact ⟨by first | rfl | simp, below_drewN HBW2.out _⟩
                | false =>
                  cases bb with
                  | true =>
                    have hb : bq = false := hno.out (fun h => (h.states k (by omega)).pin (HBB.out.mp rfl))
                    subst hb
                    go_wp2_with fail
                    go_quiet (fail)
                    go_wp2_with fail
                    refine (HI1.out _).mono ?_
                    rintro e w' ⟨rfl, rfl⟩
                    go_wp2_with fail
                    refine (HI2.out _).mono ?_
                    rintro e w' ⟨rfl, rfl⟩
                    go_wp2_with fail
                    go_returns
                    exact ⟨by first | rfl | simp, below_drewN HBW2.out _⟩
                  | false =>
                    go_wp2_with fail
                    go_quiet (fail)
                    go_wp2_with fail
                    refine (HI1.out _).mono ?_
                    rintro e w' ⟨rfl, rfl⟩
                    go_wp2_with fail
                    refine (HI2.out _).mono ?_
                    rintro e w' ⟨rfl, rfl⟩
                    go_wp2_with fail
                    go_roundw
                    case rel => exact ⟨k + 1, _, by omega, by go_num, rfl, fun j hj => by
                                  by_cases e : j = k
                                  · rw [e]
                                    exact ⟨by rw [← HE.out.1, ← HE.out.2.2.2.1]; exact HG.out.1, by rw [← HE.out.2.1, ← HE.out.2.2.2.2]; exact HG.out.2.1, by rw [← HE.out.2.2.1]; have := HG.out.2.2.1; omega, by rw [← HE.out.2.2.1, hl3]; have := HG.out.2.2.2; omega,
                                      fun h => (by have := HBA.out.mpr h; cases this), fun h => (by have := HBB.out.mpr h; cases this)⟩
                                  · exact HK.out j (by omega)⟩
                    case measure => simp [intOf]; omega
          · have f2 : ((lp : Int) != 256) = true := by simp; omega
            have hb : bq = false := hno.out (fun h => by have := (h.states k (by omega)).plen; rw [← HE.out.2.1, ← HE.out.2.2.2.2] at this; omega)
            subst hb
            go_wp2_with fail
            go_quiet (fail)
            go_wp2_with fail
            go_returns
            exact ⟨by first | rfl | simp, below_drewN (below_drewN HBW2.out _) _⟩
        · have f1 : ((ln : Int) != 256) = true := by simp; omega
          have hb : bq = false := hno.out (fun h => by have := (h.states k (by omega)).nlen; rw [← HE.out.1, ← HE.out.2.2.2.1] at this; omega)
          subst hb
          go_wp2_with fail
          go_quiet (fail)
          go_wp2_with fail
          go_returns
          exact ⟨by first | rfl | simp, below_drewN (below_drewN HBW2.out _) _⟩
      · obtain rfl : k = n2 := by omega
        have HI3 := Lib.hid (idx47 A3 n3 c3 m.texts (w2.drewN mq) hle3 (H2.out.drewN mq).tarr)
        have hq : bq = !(longB m.texts n3) := by
          rw [HBQ.out]
          by_cases h9 : AnyLong m.texts n3
          · rw [longB_yes h9, rightM_no (fun h => h.short (by rw [hl3]; exact h9))]; rfl
          · rw [longB_no h9, rightM_yes ⟨by omega, by omega, by omega, by omega, by omega, fun i hi => HK.out i (by omega), by rw [hl3]; exact h9⟩]; rfl
        obtain ⟨lb, hlb⟩ : ∃ lb, lb = longB m.texts n3 := ⟨_, rfl⟩
        rw [← hlb] at HI3 hq
        clear hlb
        subst hq
        go_wp2_with fail
        refine HI3.out.mono ?_
        rintro e w' ⟨rfl, rfl⟩
        go_wp2_with fail
        go_returns
        exact ⟨by first | rfl | simp, below_drewN HBW2.out _⟩
end Go.Proofs.Ythjnkpoalbddkaa
