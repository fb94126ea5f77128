/- TransThen, with its machines and text laid open. -/
import Derived.Test.YthjnkpoalbddkaaThPlainY
import Derived.Test.YthjnkpoalbddkaaLTGrowsY
namespace Go.Proofs.Ythjnkpoalbddkaa
open Go.RowKit
/-- the world of a law that holds two machines in their boxes -/
structure TW (w : World) (A0 A1 A2 A3 B0 B1 B2 B3 : Option Addr) (n0 n1 n2 n3 c0 c1 c2 c3 k0 k1 k2 k3 d0 d1 d2 d3 : Nat) (a b : Mach) (RAa : Nat → Option Addr) (rca : Nat → Nat) (PAa : Nat → Option Addr) (pca : Nat → Nat) (RAb : Nat → Option Addr) (rcb : Nat → Nat) (PAb : Nat → Option Addr) (pcb : Nat → Nat) (wr : World) : Prop where
  ma : MachIn wr A0 A1 A2 A3 n0 n1 n2 n3 a RAa rca PAa pca
  mb : MachIn wr B0 B1 B2 B3 k0 k1 k2 k3 b RAb rcb PAb pcb
  bel : Below w.heap.size w wr
  xa : Blk wr w.heap.size 42 [.slice A0 n0 c0, .slice A1 n1 c1, .slice A2 n2 c2, .slice A3 n3 c3]
  xb : Blk wr (w.heap.size + 1) 42 [.slice B0 k0 d0, .slice B1 k1 d1, .slice B2 k2 d2, .slice B3 k3 d3]
section
variable {w : World} {A0 A1 A2 A3 B0 B1 B2 B3 : Option Addr} {n0 n1 n2 n3 c0 c1 c2 c3 k0 k1 k2 k3 d0 d1 d2 d3 : Nat} {a b : Mach} {RAa : Nat → Option Addr} {rca : Nat → Nat} {PAa : Nat → Option Addr} {pca : Nat → Nat} {RAb : Nat → Option Addr} {rcb : Nat → Nat} {PAb : Nat → Option Addr} {pcb : Nat → Nat} {wr w' : World}
theorem TW.go (h : TW w A0 A1 A2 A3 B0 B1 B2 B3 n0 n1 n2 n3 c0 c1 c2 c3 k0 k1 k2 k3 d0 d1 d2 d3 a b RAa rca PAa pca RAb rcb PAb pcb wr) (hb : Below wr.heap.size wr w') : TW w A0 A1 A2 A3 B0 B1 B2 B3 n0 n1 n2 n3 c0 c1 c2 c3 k0 k1 k2 k3 d0 d1 d2 d3 a b RAa rca PAa pca RAb rcb PAb pcb w' :=
  ⟨h.ma.keep hb, h.mb.keep hb, h.bel.trans (hb.mono h.bel.size), h.xa.below hb h.xa.lt, h.xb.below hb h.xb.lt⟩
theorem TW.start (h1 : MachIn w A0 A1 A2 A3 n0 n1 n2 n3 a RAa rca PAa pca) (h2 : MachIn w B0 B1 B2 B3 k0 k1 k2 k3 b RAb rcb PAb pcb) :
    TW w A0 A1 A2 A3 B0 B1 B2 B3 n0 n1 n2 n3 c0 c1 c2 c3 k0 k1 k2 k3 d0 d1 d2 d3 a b RAa rca PAa pca RAb rcb PAb pcb ((w.alloc (.cells #[.slice A0 n0 c0, .slice A1 n1 c1, .slice A2 n2 c2, .slice A3 n3 c3] 42)).alloc (.cells #[.slice B0 k0 d0, .slice B1 k1 d1, .slice B2 k2 d2, .slice B3 k3 d3] 42)) := by
  have hb : Below w.heap.size w ((w.alloc (.cells #[.slice A0 n0 c0, .slice A1 n1 c1, .slice A2 n2 c2, .slice A3 n3 c3] 42)).alloc (.cells #[.slice B0 k0 d0, .slice B1 k1 d1, .slice B2 k2 d2, .slice B3 k3 d3] 42)) := ((Below.refl _ _).alloc (Nat.le_refl _) _).alloc (by simp) _
  refine ⟨h1.keep hb, h2.keep hb, hb, (box_new _ _ _ _ _ _ _ _ _ _ _ _ _).alloc _, ?_⟩
  have := box_new (w.alloc (.cells #[.slice A0 n0 c0, .slice A1 n1 c1, .slice A2 n2 c2, .slice A3 n3 c3] 42)) B0 B1 B2 B3 k0 k1 k2 k3 d0 d1 d2 d3
  simpa using this
theorem four_cells {w : World} {g : Nat} {t : TypeId} {a b c d : Value} (h : Blk w g t [a, b, c, d]) : w.cell? ⟨g, 0, none⟩ = some a ∧ w.cell? ⟨g, 1, none⟩ = some b ∧ w.cell? ⟨g, 2, none⟩ = some c ∧ w.cell? ⟨g, 3, none⟩ = some d :=
  ⟨h.cell 0, h.cell 1, h.cell 2, h.cell 3⟩
end
theorem tiny_of {m : Mach} (h : m.next.length ≤ 10 ∧ mostT m.texts m.texts.length ≤ 8) : Tiny m := ⟨h.1, fun _ hj => Nat.le_trans (mostT_ge hj (Nat.le_refl _)) h.2⟩
set_option maxRecDepth 100000 in
set_option maxHeartbeats 16000000 in
theorem law_tthen (A0 A1 A2 A3 B0 B1 B2 B3 : Option Addr) (n0 n1 n2 n3 c0 c1 c2 c3 k0 k1 k2 k3 d0 d1 d2 d3 : Nat) (a b : Mach) (RAa : Nat → Option Addr) (rca : Nat → Nat) (PAa : Nat → Option Addr) (pca : Nat → Nat) (RAb : Nat → Option Addr) (rcb : Nat → Nat) (PAb : Nat → Option Addr) (pcb : Nat → Nat) (s : ByteArray) (w : World)
    (hma : MachIn w A0 A1 A2 A3 n0 n1 n2 n3 a RAa rca PAa pca) (hmb : MachIn w B0 B1 B2 B3 k0 k1 k2 k3 b RAb rcb PAb pcb) :
    Calls Try.prog 10 #[.agg #[.slice A0 n0 c0, .slice A1 n1 c1, .slice A2 n2 c2, .slice A3 n3 c3], .agg #[.slice B0 k0 d0, .slice B1 k1 d1, .slice B2 k2 d2, .slice B3 k3 d3], .string s] w fun e w' => e = .returned (.bool true) ∧ Below w.heap.size w w' := by
  have L1 := Lib.hid (TW.start (c0 := c0) (c1 := c1) (c2 := c2) (c3 := c3) (d0 := d0) (d1 := d1) (d2 := d2) (d3 := d3) hma hmb)
  have hna := hma.next.len
  have hnb := hmb.next.len
  have hta := hma.tlen
  have htb := hmb.tlen
  have HLN := Lib.hid (And.intro hna (And.intro hnb (And.intro hta htb)))
  obtain ⟨ra, hra⟩ : ∃ ra, ra = rightM a := ⟨_, rfl⟩
  obtain ⟨rb, hrb⟩ : ∃ rb, rb = rightM b := ⟨_, rfl⟩
  have HRA := Lib.hid hra
  have HRB := Lib.hid hrb
  clear hra hrb hma hmb hna hnb hta htb
  go_enter Try.func10, Try.ntmps10
  go_wp2_with fail
  generalize (w.alloc (.cells #[.slice A0 n0 c0, .slice A1 n1 c1, .slice A2 n2 c2, .slice A3 n3 c3] 42)).alloc (.cells #[.slice B0 k0 d0, .slice B1 k1 d1, .slice B2 k2 d2, .slice B3 k3 d3] 42) = w1 at L1 ⊢
  obtain ⟨q0, q1, q2, q3⟩ := four_cells L1.out.xa
  go_wp2_with fail
  refine (large_any A0 A1 A2 A3 n0 n1 n2 n3 c0 c1 c2 c3 a RAa rca PAa pca _ L1.out.ma).mono ?_
  rintro e w2 ⟨⟨v1, rfl⟩, hb2⟩
  have L2 := Lib.hid (L1.out.go hb2)
  clear hb2 q0 q1 q2 q3 L1
  obtain ⟨p0, p1, p2, p3⟩ := four_cells L2.out.xb
  cases v1 with
  | true =>
    go_wp2_with fail
    go_returns
    exact ⟨by first | rfl | simp, L2.out.bel⟩
  | false =>
    go_wp2_with fail
    refine (large_any B0 B1 B2 B3 k0 k1 k2 k3 d0 d1 d2 d3 b RAb rcb PAb pcb _ L2.out.mb).mono ?_
    rintro e w3 ⟨⟨v2, rfl⟩, hb3⟩
    have L3 := Lib.hid (L2.out.go hb3)
    clear hb3 p0 p1 p2 p3 L2
    cases v2 with
    | true =>
      go_wp2_with fail
      go_returns
      exact ⟨by first | rfl | simp, L3.out.bel⟩
    | false =>
      obtain ⟨q0, q1, q2, q3⟩ := four_cells L3.out.xa
      obtain ⟨p0, p1, p2, p3⟩ := four_cells L3.out.xb
      by_cases hr : (ra && rb) = true
      · obtain ⟨rfl, rfl⟩ : ra = true ∧ rb = true := by simpa using hr
        have hra : RightM a := by
          apply Classical.byContradiction
          intro h9
          have := HRA.out
          rw [rightM_no h9] at this
          cases this
        have hrb : RightM b := by
          apply Classical.byContradiction
          intro h9
          have := HRB.out
          rw [rightM_no h9] at this
          cases this
        have HR := Lib.hid (And.intro hra hrb)
        have HT : Hid (Calls Try.prog 32 #[.agg #[.slice A0 n0 c0, .slice A1 n1 c1, .slice A2 n2 c2, .slice A3 n3 c3], .agg #[.slice B0 k0 d0, .slice B1 k1 d1, .slice B2 k2 d2, .slice B3 k3 d3]] w3 (ThRes a b w3)) :=
          Lib.hid (tthen_ok a b (fun i => [A0, A1, A2, A3].getD i none) (fun i => [B0, B1, B2, B3].getD i none) (fun i => [n0, n1, n2, n3].getD i 0) (fun i => [k0, k1, k2, k3].getD i 0) (fun i => [c0, c1, c2, c3].getD i 0) (fun i => [d0, d1, d2, d3].getD i 0) RAa rca PAa pca RAb rcb PAb pcb w3 L3.out.ma L3.out.mb hra hrb)
        clear hr hra hrb
        go_wp2_with fail
        refine HT.out.mono ?_
        rintro e w4 h4
        rcases h4 with ⟨rfl, hb4, hwhy⟩ | ⟨m, M0, M1, M2, M3, j0, j1, j2, j3, e0, e1, e2, e3, RM, rm, PM, pm, rfl, hb4, hrn, hbad, hmm⟩
        · have L4 := Lib.hid ((L3.out.go hb4).go ((Below.refl w4.heap.size w4).alloc (Nat.le_refl _) (.cells #[.slice none 0 0, .slice none 0 0, .slice none 0 0, .slice none 0 0] 42)))
          have HX := Lib.hid (box_new w4 none none none none 0 0 0 0 0 0 0 0)
          have HWHY := Lib.hid hwhy
          clear hb4 hwhy q0 q1 q2 q3 p0 p1 p2 p3 L3 HT
          obtain ⟨q0, q1, q2, q3⟩ := four_cells L4.out.xa
          go_wp2_with fail
          refine (rtright_any A0 A1 A2 A3 n0 n1 n2 n3 c0 c1 c2 c3 a RAa rca PAa pca _ L4.out.ma).mono ?_
          rw [← HRA.out]
          rintro e w5 ⟨rfl, hb5⟩
          have L5 := Lib.hid (L4.out.go hb5)
          have X5 := Lib.hid (HX.out.below hb5 HX.out.lt)
          clear hb5 q0 q1 q2 q3 L4 HX
          obtain ⟨p0, p1, p2, p3⟩ := four_cells L5.out.xb
          go_wp2_with fail
          refine (rtright_any B0 B1 B2 B3 k0 k1 k2 k3 d0 d1 d2 d3 b RAb rcb PAb pcb _ L5.out.mb).mono ?_
          rw [← HRB.out]
          rintro e w6 ⟨rfl, hb6⟩
          have L6 := Lib.hid (L5.out.go hb6)
          have X6 := Lib.hid (X5.out.below hb6 X5.out.lt)
          clear hb6 p0 p1 p2 p3 L5 X5
          obtain ⟨q0, q1, q2, q3⟩ := four_cells L6.out.xa
          obtain ⟨p0, p1, p2, p3⟩ := four_cells L6.out.xb
          have x0 := X6.out.cell 0
          simp only [List.getElem?_cons_zero] at x0
          have HTA := Lib.hid (tiny_any A0 A1 A2 A3 n0 n1 n2 n3 c0 c1 c2 c3 a RAa rca PAa pca _ L6.out.ma)
          obtain ⟨ta, hta⟩ : ∃ ta, ta = decide (n0 ≤ 10 ∧ mostT a.texts n3 ≤ 8) := ⟨_, rfl⟩
          rw [← hta] at HTA
          have HTAV := Lib.hid hta
          clear hta
          cases ta with
          | false =>
            go_wp2_with fail
            refine HTA.out.mono ?_
            rintro e w7 ⟨rfl, hb7⟩
            have L7 := Lib.hid (L6.out.go hb7)
            clear hb7 L6
            go_wp2_with fail
            go_returns
            exact ⟨by first | rfl | simp, L7.out.bel⟩
          | true =>
            go_wp2_with fail
            refine HTA.out.mono ?_
            rintro e w7 ⟨rfl, hb7⟩
            have L7 := Lib.hid (L6.out.go hb7)
            clear hb7 L6 q0 q1 q2 q3 p0 p1 p2 p3 x0 X6
            obtain ⟨q0, q1, q2, q3⟩ := four_cells L7.out.xa
            obtain ⟨p0, p1, p2, p3⟩ := four_cells L7.out.xb
            have HTB := Lib.hid (tiny_any B0 B1 B2 B3 k0 k1 k2 k3 d0 d1 d2 d3 b RAb rcb PAb pcb _ L7.out.mb)
            obtain ⟨tb, htb⟩ : ∃ tb, tb = decide (k0 ≤ 10 ∧ mostT b.texts k3 ≤ 8) := ⟨_, rfl⟩
            rw [← htb] at HTB
            have HTBV := Lib.hid htb
            clear htb
            cases tb with
            | false =>
              go_wp2_with fail
              refine HTB.out.mono ?_
              rintro e w8 ⟨rfl, hb8⟩
              have L8 := Lib.hid (L7.out.go hb8)
              clear hb8 L7
              go_wp2_with fail
              go_returns
              exact ⟨by first | rfl | simp, L8.out.bel⟩
            | true =>
              have hA : Tiny a := tiny_of (by rw [HLN.out.1, HLN.out.2.2.1]; exact of_decide_eq_true HTAV.out.symm)
              have hB : Tiny b := tiny_of (by rw [HLN.out.2.1, HLN.out.2.2.2]; exact of_decide_eq_true HTBV.out.symm)
              have hno : ¬ (n0 = 1 ∨ k0 = 1) := fun h1 => by
                rcases HWHY.out with ⟨m, k, c, fl, hrn, hk, hbad⟩ | hl
                · have := tiny_made hrn hk HR.out.1 HR.out.2 hA hB (by rw [HLN.out.1, HLN.out.2.1]; exact h1)
                  rw [hbad] at this
                  cases this
                · exact hl (tiny_noLong HR.out.1 HR.out.2 hA hB)
              have z1 : ((n0 : Int) == 1) = false := beq_eq_false_iff_ne.mpr (by omega)
              have z2 : ((k0 : Int) == 1) = false := beq_eq_false_iff_ne.mpr (by omega)
              clear hA hB hno
              go_wp2_with fail
              refine HTB.out.mono ?_
              rintro e w8 ⟨rfl, hb8⟩
              have L8 := Lib.hid (L7.out.go hb8)
              clear hb8 L7 q0 q1 q2 q3 p0 p1 p2 p3
              obtain ⟨q0, q1, q2, q3⟩ := four_cells L8.out.xa
              obtain ⟨p0, p1, p2, p3⟩ := four_cells L8.out.xb
              go_wp2_with fail
              go_returns
              exact ⟨by first | rfl | simp, L8.out.bel⟩
        · have L4 := Lib.hid ((L3.out.go hb4).go ((Below.refl w4.heap.size w4).alloc (Nat.le_refl _) (.cells #[.slice M0 j0 e0, .slice M1 j1 e1, .slice M2 j2 e2, .slice M3 j3 e3] 42)))
          have X4 := Lib.hid (And.intro (box_new w4 M0 M1 M2 M3 j0 j1 j2 j3 e0 e1 e2 e3) (hmm.keep ((Below.refl w4.heap.size w4).alloc (Nat.le_refl _) (.cells #[.slice M0 j0 e0, .slice M1 j1 e1, .slice M2 j2 e2, .slice M3 j3 e3] 42))))
          have HM := Lib.hid (And.intro hrn (hrn.ok.right hbad))
          clear hb4 hrn hbad hmm q0 q1 q2 q3 p0 p1 p2 p3 L3 HT
          obtain ⟨q0, q1, q2, q3⟩ := four_cells L4.out.xa
          go_wp2_with fail
          refine (rtright_any A0 A1 A2 A3 n0 n1 n2 n3 c0 c1 c2 c3 a RAa rca PAa pca _ L4.out.ma).mono ?_
          rw [← HRA.out]
          rintro e w5 ⟨rfl, hb5⟩
          have L5 := Lib.hid (L4.out.go hb5)
          have X5 := Lib.hid (And.intro (X4.out.1.below hb5 X4.out.1.lt) (X4.out.2.keep hb5))
          clear hb5 q0 q1 q2 q3 L4 X4
          obtain ⟨p0, p1, p2, p3⟩ := four_cells L5.out.xb
          go_wp2_with fail
          refine (rtright_any B0 B1 B2 B3 k0 k1 k2 k3 d0 d1 d2 d3 b RAb rcb PAb pcb _ L5.out.mb).mono ?_
          rw [← HRB.out]
          rintro e w6 ⟨rfl, hb6⟩
          have L6 := Lib.hid (L5.out.go hb6)
          have X6 := Lib.hid (And.intro (X5.out.1.below hb6 X5.out.1.lt) (X5.out.2.keep hb6))
          clear hb6 p0 p1 p2 p3 L5 X5
          obtain ⟨s', hs'⟩ : ∃ s', s' = cutS s 60 := ⟨_, rfl⟩
          have HSH := Lib.hid (tshort_any s 60 (by omega) w6)
          rw [← hs'] at HSH
          have hcs : s'.size ≤ 4096 := by rw [hs']; have := cutS_le s 60; omega
          clear hs'
          go_wp2_with fail
          refine HSH.out.mono ?_
          rintro e w7 ⟨rfl, rfl⟩
          obtain ⟨q0, q1, q2, q3⟩ := four_cells L6.out.xa
          have HR1 : Hid (Calls Try.prog 25 #[.agg #[.slice A0 n0 c0, .slice A1 n1 c1, .slice A2 n2 c2, .slice A3 n3 c3], .string s', .int .i64 4096] w7 _) := Lib.hid (rrunL_any A0 A1 A2 A3 n0 n1 n2 n3 c0 c1 c2 c3 a RAa rca PAa pca s' w7 L6.out.ma HR.out.1 hcs 4096 (by omega))
          have hx : (runResL 4096 a s'.data.toList = none) ∨ (runResL 4096 a s'.data.toList = some (total a s'.data.toList) ∧ (total a s'.data.toList).length ≤ 4096) := by
            by_cases h9 : TooLongL 4096 a s'.data.toList
            · exact .inl (runResL_long h9)
            · exact .inr ⟨runResL_ok h9, Nat.le_of_not_lt (fun h8 => h9 (.inr h8))⟩
          obtain ⟨xt, fx, HR1, hxs, hxv⟩ : ∃ (xt : ByteArray) (fx : Bool), Hid (Calls Try.prog 25 #[.agg #[.slice A0 n0 c0, .slice A1 n1 c1, .slice A2 n2 c2, .slice A3 n3 c3], .string s', .int .i64 4096] w7 fun e w' => e = .returned (.tuple #[.string xt, .bool fx]) ∧ Below w7.heap.size w7 w') ∧ xt.size ≤ 4096 ∧ (fx = false → xt.data.toList = total a s'.data.toList) := by
            rcases hx with e | ⟨e, hl⟩
            · rw [e] at HR1
              exact ⟨⟨#[]⟩, true, HR1, by simp [ByteArray.size], fun h => by cases h⟩
            · rw [e] at HR1
              exact ⟨⟨(total a s'.data.toList).toArray⟩, false, HR1, by simpa [ByteArray.size] using hl, fun _ => rfl⟩
          have HXV := Lib.hid hxv
          clear hx hxv HSH
          go_wp2_with fail
          refine HR1.out.mono ?_
          rintro e w8 ⟨rfl, hb8⟩
          have L8 := Lib.hid (L6.out.go hb8)
          have X8 := Lib.hid (And.intro (X6.out.1.below hb8 X6.out.1.lt) (X6.out.2.keep hb8))
          clear hb8 q0 q1 q2 q3 L6 X6 HR1
          obtain ⟨p0, p1, p2, p3⟩ := four_cells L8.out.xb
          have HR2 : Hid (Calls Try.prog 25 #[.agg #[.slice B0 k0 d0, .slice B1 k1 d1, .slice B2 k2 d2, .slice B3 k3 d3], .string xt, .int .i64 262144] w8 _) := Lib.hid (rrunL_any B0 B1 B2 B3 k0 k1 k2 k3 d0 d1 d2 d3 b RAb rcb PAb pcb xt w8 L8.out.mb HR.out.2 hxs 262144 (by omega))
          obtain ⟨yt, fy, HR2, hyv⟩ : ∃ (yt : ByteArray) (fy : Bool), Hid (Calls Try.prog 25 #[.agg #[.slice B0 k0 d0, .slice B1 k1 d1, .slice B2 k2 d2, .slice B3 k3 d3], .string xt, .int .i64 262144] w8 fun e w' => e = .returned (.tuple #[.string yt, .bool fy]) ∧ Below w8.heap.size w8 w') ∧ (fy = false → yt = ⟨(total b xt.data.toList).toArray⟩ ∧ ¬ TooLongL 262144 b xt.data.toList) := by
            by_cases h9 : TooLongL 262144 b xt.data.toList
            · rw [runResL_long h9] at HR2; exact ⟨⟨#[]⟩, true, HR2, fun h => by cases h⟩
            · rw [runResL_ok h9] at HR2; exact ⟨_, false, HR2, fun _ => ⟨rfl, h9⟩⟩
          have HYV := Lib.hid hyv
          clear hyv
          go_wp2_with fail
          refine HR2.out.mono ?_
          rintro e w9 ⟨rfl, hb9⟩
          have L9 := Lib.hid (L8.out.go hb9)
          have X9 := Lib.hid (And.intro (X8.out.1.below hb9 X8.out.1.lt) (X8.out.2.keep hb9))
          clear hb9 p0 p1 p2 p3 L8 X8 HR2
          cases fx with
          | true =>
            go_wp2_with fail
            go_returns
            exact ⟨by first | rfl | simp, L9.out.bel⟩
          | false =>
            cases fy with
            | true =>
              go_wp2_with fail
              go_returns
              exact ⟨by first | rfl | simp, L9.out.bel⟩
            | false =>
              have hres : runRes m.mach s'.data.toList = some yt.data.toList := by
                have h1 := HXV.out rfl
                have h2 := HYV.out rfl
                rw [h1] at h2
                rw [then_short HM.out.1 s'.data.toList h2.2, h2.1]
              have HTR := Lib.hid (trun_any M0 M1 M2 M3 j0 j1 j2 j3 e0 e1 e2 e3 m.mach RM rm PM pm s' w9 X9.out.2 HM.out.2 hcs)
              rw [hres] at HTR
              clear hres
              obtain ⟨x0, x1, x2, x3⟩ := four_cells X9.out.1
              go_wp2_with fail
              refine HTR.out.mono ?_
              rintro e w10 ⟨rfl, hb10⟩
              have L10 := Lib.hid (L9.out.go hb10)
              have X10 := Lib.hid (And.intro (X9.out.1.below hb10 X9.out.1.lt) (X9.out.2.keep hb10))
              clear hb10 x0 x1 x2 x3 L9 X9 HTR
              obtain ⟨x0, x1, x2, x3⟩ := four_cells X10.out.1
              have HRR := Lib.hid (rtright_any M0 M1 M2 M3 j0 j1 j2 j3 e0 e1 e2 e3 m.mach RM rm PM pm w10 X10.out.2)
              rw [rightM_yes HM.out.2] at HRR
              go_wp2_with fail
              refine HRR.out.mono ?_
              rintro e w11 ⟨rfl, hb11⟩
              have L11 := Lib.hid (L10.out.go hb11)
              clear hb11 L10
              go_wp2_with fail
              go_returns
              exact ⟨by first | rfl | simp, L11.out.bel⟩
      · have hrf : (ra && rb) = false := by simpa using hr
        have HT := Lib.hid (tthen_no A0 A1 A2 A3 B0 B1 B2 B3 n0 n1 n2 n3 c0 c1 c2 c3 k0 k1 k2 k3 d0 d1 d2 d3 a b RAa rca PAa pca RAb rcb PAb pcb w3 L3.out.ma L3.out.mb (by rw [← HRA.out, ← HRB.out]; exact hrf))
        have HRF := Lib.hid hrf
        clear hr hrf
        go_wp2_with fail
        refine HT.out.mono ?_
        rintro e w4 ⟨rfl, hb4⟩
        have L4 := Lib.hid ((L3.out.go hb4).go ((Below.refl w4.heap.size w4).alloc (Nat.le_refl _) (.cells #[.slice none 0 0, .slice none 0 0, .slice none 0 0, .slice none 0 0] 42)))
        have HX := Lib.hid (box_new w4 none none none none 0 0 0 0 0 0 0 0)
        clear hb4 q0 q1 q2 q3 p0 p1 p2 p3 L3 HT
        obtain ⟨q0, q1, q2, q3⟩ := four_cells L4.out.xa
        go_wp2_with fail
        refine (rtright_any A0 A1 A2 A3 n0 n1 n2 n3 c0 c1 c2 c3 a RAa rca PAa pca _ L4.out.ma).mono ?_
        rw [← HRA.out]
        rintro e w5 ⟨rfl, hb5⟩
        have L5 := Lib.hid (L4.out.go hb5)
        have X5 := Lib.hid (HX.out.below hb5 HX.out.lt)
        clear hb5 q0 q1 q2 q3 L4 HX
        cases ra with
        | false =>
          have x0 := X5.out.cell 0
          simp only [List.getElem?_cons_zero] at x0
          go_wp2_with fail
          go_returns
          exact ⟨by first | rfl | simp, L5.out.bel⟩
        | true =>
          obtain rfl : rb = false := by simpa using HRF.out
          obtain ⟨p0, p1, p2, p3⟩ := four_cells L5.out.xb
          go_wp2_with fail
          refine (rtright_any B0 B1 B2 B3 k0 k1 k2 k3 d0 d1 d2 d3 b RAb rcb PAb pcb _ L5.out.mb).mono ?_
          rw [← HRB.out]
          rintro e w6 ⟨rfl, hb6⟩
          have L6 := Lib.hid (L5.out.go hb6)
          have X6 := Lib.hid (X5.out.below hb6 X5.out.lt)
          clear hb6 p0 p1 p2 p3 L5 X5
          have x0 := X6.out.cell 0
          simp only [List.getElem?_cons_zero] at x0
          go_wp2_with fail
          go_returns
          exact ⟨by first | rfl | simp, L6.out.bel⟩
end Go.Proofs.Ythjnkpoalbddkaa
