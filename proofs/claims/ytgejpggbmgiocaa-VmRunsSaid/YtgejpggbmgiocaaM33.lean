/- Run of this seat, in one text. -/
import Derived.Test.YtgejpggbmgiocaaM23
import Derived.Lib.ConvBytes
import Derived.Deep.RegionHeld3
import Derived.Deep.MidRow
import Derived.Test.YtgejpggbmgiocaaM11
/- vm.Run, over what a step does. -/
namespace Go.Proofs.Ytgejpggbmgiocaa
open Go.RowKit

/-- a run: the state at its end, and how it ends -/
inductive Ends (stp : St → St × Option Nat) : St → St → Nat → Prop
  | last {s s' : St} {e : Nat} : stp s = (s', some e) → Ends stp s s' e
  | more {s s1 s' : St} {e : Nat} : stp s = (s1, none) → Ends stp s1 s' e → Ends stp s s' e
def st0 (src : Bs) : St := ⟨List.replicate 8 0, [0, 0], src, 0, [], [], [], 0, 0⟩
def roomF (grow rest extra : Int) (n : Nat) : Int := boundF grow * n + boundF rest + boundF extra
def fuelF (fuel : Int) : Int := if fuel < 0 then 0 else if 35184372088832 < fuel then 35184372088832 else fuel
theorem boundF_lo (x : Int) : 0 ≤ boundF x := by unfold boundF; split <;> (try split) <;> omega
theorem boundF_hi (x : Int) : boundF x ≤ 1048576 := by unfold boundF; split <;> (try split) <;> omega
theorem fuelF_lo (x : Int) : 0 ≤ fuelF x := by unfold fuelF; split <;> (try split) <;> omega
theorem fuelF_hi (x : Int) : fuelF x ≤ 35184372088832 := by unfold fuelF; split <;> (try split) <;> omega
set_option maxRecDepth 100000 in
set_option maxHeartbeats 4000000 in
theorem run_long (grow rest extra signs fuel : Int) (v4 v5 v6 v7 v8 v9 : Value) (s : ByteArray) (w : World) (hs : 4096 < s.size) :
    Calls Try.prog 10 #[.agg #[.int .i64 grow, .int .i64 rest, .int .i64 extra, .int .i64 signs, v4, v5, v6, v7, v8, v9], .string s, .int .i64 fuel] w fun e w' => e = .returned (.tuple #[.slice none 0 0, .int .i64 2, .int .i64 0]) ∧ Below w.heap.size w w' := by
  have hb0 : Below w.heap.size w (w.alloc (.cells #[.int .i64 grow, .int .i64 rest, .int .i64 extra, .int .i64 signs, v4, v5, v6, v7, v8, v9] 35)) := (Below.refl _ _).alloc (Nat.le_refl _) _
  have HB := Lib.hid hb0
  have e1 : decide ((4096 : Int) < (s.size : Int)) = true := by simp; omega
  clear hb0
  go_enter Try.func10, Try.ntmps10
  go_wp2_with fail
  go_returns
  exact ⟨by first | rfl | simp, HB.out⟩
def loadP (v : Value) : Sem Value := Instr.loadAt 35 v
theorem load_p (v : Value) : Instr.loadAt 35 v = loadP v := rfl
attribute [local go_sem ↓] load_p
theorem info35 : (Try.prog.info? 35).map (·.size) = some 10 := by kernel_rfl
def prgL (grow rest extra signs : Int) (v4 v5 v6 v7 v8 v9 : Value) : List Value := [.int .i64 grow, .int .i64 rest, .int .i64 extra, .int .i64 signs, v4, v5, v6, v7, v8, v9]
/-- a world that holds the program's box -/
structure PB (w : World) (l : List Value) (W : World) : Prop where
  bel : Below w.heap.size w W
  lt : w.heap.size < W.heap.size
  blk : Blk W w.heap.size 35 l
section
variable {w W W' : World} {l : List Value}
theorem PB.go (h : PB w l W) (hb : Below W.heap.size W W') : PB w l W' := ⟨h.bel.trans (hb.mono (Nat.le_of_lt h.lt)), Nat.lt_of_lt_of_le h.lt hb.size, h.blk.below hb h.lt⟩
theorem PB.drew (h : PB w l W) : PB w l W.drew := h.go (Below.refl _ _).drew
theorem PB.alloc (h : PB w l W) (o : Obj) : PB w l (W.alloc o) := h.go ((Below.refl _ _).alloc (Nat.le_refl _) _)
theorem below_bytes (W : World) (s : ByteArray) : Below W.heap.size W (Lib.bytesWorld W 5 s) := by
  refine ⟨?_, ?_, ?_, by rw [Lib.bytesWorld_size]; omega, fun k hk => Lib.bytesWorld_at_old W 5 s k hk⟩ <;> simp [Lib.bytesWorld, World.freeze, World.alloc, World.drew, -World.alloc_eq, -World.drew_eq]
theorem PB.bytes (h : PB w l W) (s : ByteArray) : PB w l (Lib.bytesWorld W 5 s) := h.go (below_bytes W s)
theorem PB.load (h : PB w l W) (hl : l.length = 10) : (loadP (.pointer (some ⟨w.heap.size, 0, none⟩))).run Try.prog W = .ok (.agg l.toArray) W := by
  have hr : W.rangeAt w.heap.size 0 l := fun j v hv => by rw [h.blk.cell]; simpa using hv
  have := run_loadAt_mid W w.heap.size 0 35 l _ hr Try.underlying35 rfl (by rw [hl]; exact info35)
  unfold loadP
  rw [this]
end
theorem size_data (s : ByteArray) : s.data.toList.length = s.size := rfl
/-- how much fuel a run in memory has used -/
def usedM (g : Nat) (W : World) : Nat := match W.cell? ⟨g, 28, none⟩ with | some (.int _ x) => x.toNat | _ => 0
theorem usedM_eq {B g : Nat} {w0 W : World} {prg : List Value} {room fuel : Int} {s : St} {vs vp vg vt : Value} (h : RS B g w0 W prg room fuel s vs vp vg vt) : usedM g W = s.used := by
  unfold usedM
  rw [h.cells.used]
  rfl
set_option maxRecDepth 100000 in
set_option maxHeartbeats 8000000 in
theorem run_walk (grow rest extra signs fuel : Int) (v4 v5 v6 v7 v8 v9 : Value) (s : ByteArray) (w : World) (hs : s.size ≤ 4096)
    (stp : St → St × Option Nat) (Inv : St → Prop) (h0 : Inv (st0 s.data.toList))
    (HSTEP : ∀ (g : Nat) (W : World) (t : St) (vs vp vg vt : Value), RS w.heap.size g w W [.int .i64 grow, .int .i64 rest, .int .i64 extra, .int .i64 signs, v4, v5, v6, v7, v8, v9] (roomF grow rest extra s.size) (fuelF fuel) t vs vp vg vt → Inv t →
      Calls Try.prog 20 #[.pointer (some ⟨g, 0, none⟩)] W fun e w' => e = .returned (.tuple #[.int .i64 ((stp t).2.getD 0 : Nat), .bool (stp t).2.isSome]) ∧ ∃ vs' vp' vg' vt', RS w.heap.size g w w' [.int .i64 grow, .int .i64 rest, .int .i64 extra, .int .i64 signs, v4, v5, v6, v7, v8, v9] (roomF grow rest extra s.size) (fuelF fuel) (stp t).1 vs' vp' vg' vt')
    (HINV : ∀ t, Inv t → (stp t).2 = none → Inv (stp t).1 ∧ t.used < (stp t).1.used ∧ ((stp t).1.used : Int) ≤ fuelF fuel) :
    Calls Try.prog 10 #[.agg #[.int .i64 grow, .int .i64 rest, .int .i64 extra, .int .i64 signs, v4, v5, v6, v7, v8, v9], .string s, .int .i64 fuel] w fun e w' => Below w.heap.size w w' ∧ ∃ t' c, Ends stp (st0 s.data.toList) t' c ∧
      ∃ v, e = .returned (.tuple #[v, .int .i64 (c : Nat), .int .i64 t'.used]) ∧ ((c = 0 ∧ ∃ A q, v = .slice A t'.told.length q ∧ Arr w' w'.heap.size 1 A t'.told.length (fun k _ => .int .i64 (t'.told.getD k 0))) ∨ (c ≠ 0 ∧ v = .slice none 0 0)) := by
  have e1 : decide ((4096 : Int) < (s.size : Int)) = false := by simp; omega
  have HB1 := Lib.hid (fun W => bound_any grow W)
  have HB2 := Lib.hid (fun W => bound_any rest W)
  have HB3 := Lib.hid (fun W => bound_any extra W)
  have hcv := fun W => Lib.run_convert_string_bytes (P := Try.prog) W 9 62 5 s Try.underlying9 Try.underlying62 Try.underlying5
  have HH := Lib.hid (And.intro h0 (And.intro HSTEP HINV))
  clear h0 HSTEP HINV
  have P0 := Lib.hid (show PB w [.int .i64 grow, .int .i64 rest, .int .i64 extra, .int .i64 signs, v4, v5, v6, v7, v8, v9] (w.alloc (.cells #[.int .i64 grow, .int .i64 rest, .int .i64 extra, .int .i64 signs, v4, v5, v6, v7, v8, v9] 35)) from ⟨(Below.refl _ _).alloc (Nat.le_refl _) _, by simp, Blk.new w 35 [.int .i64 grow, .int .i64 rest, .int .i64 extra, .int .i64 signs, v4, v5, v6, v7, v8, v9]⟩)
  have hld : ∀ W, PB w [.int .i64 grow, .int .i64 rest, .int .i64 extra, .int .i64 signs, v4, v5, v6, v7, v8, v9] W → (loadP (.pointer (some ⟨w.heap.size, 0, none⟩))).run Try.prog W = .ok (.agg [.int .i64 grow, .int .i64 rest, .int .i64 extra, .int .i64 signs, v4, v5, v6, v7, v8, v9].toArray) W := fun W h => h.load rfl
  have hq0 : ∀ W, PB w [.int .i64 grow, .int .i64 rest, .int .i64 extra, .int .i64 signs, v4, v5, v6, v7, v8, v9] W → W.cell? ⟨w.heap.size, 0, none⟩ = some (.int .i64 grow) := fun W h => h.blk.cell 0
  have hq1 : ∀ W, PB w [.int .i64 grow, .int .i64 rest, .int .i64 extra, .int .i64 signs, v4, v5, v6, v7, v8, v9] W → W.cell? ⟨w.heap.size, 1, none⟩ = some (.int .i64 rest) := fun W h => h.blk.cell 1
  have hq2 : ∀ W, PB w [.int .i64 grow, .int .i64 rest, .int .i64 extra, .int .i64 signs, v4, v5, v6, v7, v8, v9] W → W.cell? ⟨w.heap.size, 2, none⟩ = some (.int .i64 extra) := fun W h => h.blk.cell 2
  have b1 := boundF_lo grow
  have b2 := boundF_hi grow
  have b3 := boundF_lo rest
  have b4 := boundF_hi rest
  have b5 := boundF_lo extra
  have b6 := boundF_hi extra
  obtain ⟨x1, hx1⟩ : ∃ x1, x1 = boundF grow := ⟨_, rfl⟩
  obtain ⟨x2, hx2⟩ : ∃ x2, x2 = boundF rest := ⟨_, rfl⟩
  obtain ⟨x3, hx3⟩ : ∃ x3, x3 = boundF extra := ⟨_, rfl⟩
  rw [← hx1] at b1 b2 HB1
  rw [← hx2] at b3 b4 HB2
  rw [← hx3] at b5 b6 HB3
  obtain ⟨ls, hls⟩ : ∃ ls : Nat, ls = s.size := ⟨_, rfl⟩
  have hp1 : 0 ≤ x1 * (ls : Int) := Int.mul_nonneg b1 (by omega)
  have hp2 : x1 * (ls : Int) ≤ 1048576 * 4096 := Int.mul_le_mul b2 (by omega) (by omega) (by omega)
  rw [hls] at hp1 hp2
  have HX := Lib.hid (And.intro hx1 (And.intro hx2 hx3))
  clear hx1 hx2 hx3 hls
  go_enter Try.func10, Try.ntmps10
  go_wp2_with fail
  refine wp_region_held_drew (S := fun W' => PB w [.int .i64 grow, .int .i64 rest, .int .i64 extra, .int .i64 signs, v4, v5, v6, v7, v8, v9] W') (by kernel_rfl) P0.out.drew (fun hHeld => ?_)
  refine wpAnyH_take (i := 0) (v := ?v0) (List.getElem?_toArray.trans rfl) (by kernel_rfl) (by kernel_rfl) (by kernel_rfl) (fun _ _ _ h => h) (Or.inl ⟨by rfl, ?hy0⟩) (by assumption) ?rest0
  case hy0 => (intro W hSw; go_simp <;> (with_reducible rfl))
  simp only [Act.put, List.setIfInBounds_toArray, List.set_cons_zero, List.set_cons_succ]
  refine wpAnyH_take (i := 1) (v := ?v1) (List.getElem?_toArray.trans rfl) (by kernel_rfl) (by kernel_rfl) (by kernel_rfl) (fun _ _ _ h => h) (Or.inl ⟨by rfl, ?hy1⟩) (by assumption) ?rest1
  case hy1 => (intro W hSw; go_simp <;> (with_reducible rfl))
  simp only [Act.put, List.setIfInBounds_toArray, List.set_cons_zero, List.set_cons_succ]
  refine wpAnyH_take (i := 3) (v := ?v3) (List.getElem?_toArray.trans rfl) (by kernel_rfl) (by kernel_rfl) (by kernel_rfl) (fun _ _ _ h => h) (Or.inl ⟨by rfl, ?hy3⟩) (by assumption) ?rest3
  case hy3 => (intro W hSw; go_simp <;> (with_reducible rfl))
  simp only [Act.put, List.setIfInBounds_toArray, List.set_cons_zero, List.set_cons_succ]
  refine wpAnyH_take (i := 4) (v := ?v4) (List.getElem?_toArray.trans rfl) (by kernel_rfl) (by kernel_rfl) (by kernel_rfl) (fun _ _ _ h => h) (Or.inl ⟨by rfl, ?hy4⟩) (by assumption) ?rest4
  case hy4 => (intro W hSw; go_simp <;> (with_reducible rfl))
  simp only [Act.put, List.setIfInBounds_toArray, List.set_cons_zero, List.set_cons_succ]
  refine wpAnyH_take (i := 5) (v := ?v5) (List.getElem?_toArray.trans rfl) (by kernel_rfl) (by kernel_rfl) (by kernel_rfl) (fun _ _ _ h => h) (Or.inl ⟨by rfl, ?hy5⟩) (by assumption) ?rest5
  case hy5 => (intro W hSw; go_simp <;> (with_reducible rfl))
  simp only [Act.put, List.setIfInBounds_toArray, List.set_cons_zero, List.set_cons_succ]
  refine wpAnyH_take (i := 6) (v := ?v6) (List.getElem?_toArray.trans rfl) (by kernel_rfl) (by kernel_rfl) (by kernel_rfl) (fun _ _ _ h => h) (Or.inl ⟨by rfl, ?hy6⟩) (by assumption) ?rest6
  case hy6 => (intro W hSw; go_simp <;> (with_reducible rfl))
  simp only [Act.put, List.setIfInBounds_toArray, List.set_cons_zero, List.set_cons_succ]
  refine wpAnyH_take (i := 7) (v := ?v7) (List.getElem?_toArray.trans rfl) (by kernel_rfl) (by kernel_rfl) (by kernel_rfl) (fun _ _ _ h => h) (Or.inl ⟨by rfl, ?hy7⟩) (by assumption) ?rest7
  case hy7 => (intro W hSw; go_simp <;> (with_reducible rfl))
  simp only [Act.put, List.setIfInBounds_toArray, List.set_cons_zero, List.set_cons_succ]
  refine wpAnyH_take_call 8 (.int .i64 x1) (List.getElem?_toArray.trans rfl) (by kernel_rfl) (by kernel_rfl) (by kernel_rfl) (by kernel_rfl) (by kernel_rfl) (fun _ _ _ h => h) ⟨by rfl, fun W hSw => ⟨19, #[.int .i64 grow], (by kernel_rfl), HB1.out W⟩⟩ (by assumption) ?_
  simp only [Act.put, List.setIfInBounds_toArray, List.set_cons_zero, List.set_cons_succ]
  refine wpAnyH_take (i := 9) (v := ?v9) (List.getElem?_toArray.trans rfl) (by kernel_rfl) (by kernel_rfl) (by kernel_rfl) (fun _ _ _ h => h) (Or.inl ⟨by rfl, ?hy9⟩) (by assumption) ?rest9
  case hy9 => (intro W hSw; go_simp <;> (with_reducible rfl))
  simp only [Act.put, List.setIfInBounds_toArray, List.set_cons_zero, List.set_cons_succ]
  refine wpAnyH_take (i := 10) (v := ?v10) (List.getElem?_toArray.trans rfl) (by kernel_rfl) (by kernel_rfl) (by kernel_rfl) (fun _ _ _ h => h) (Or.inl ⟨by rfl, ?hy10⟩) (by assumption) ?rest10
  case hy10 => (intro W hSw; go_simp <;> (with_reducible rfl))
  simp only [Act.put, List.setIfInBounds_toArray, List.set_cons_zero, List.set_cons_succ]
  refine wpAnyH_take (i := 11) (v := ?v11) (List.getElem?_toArray.trans rfl) (by kernel_rfl) (by kernel_rfl) (by kernel_rfl) (fun _ _ _ h => h) (Or.inl ⟨by rfl, ?hy11⟩) (by assumption) ?rest11
  case hy11 => (intro W hSw; go_simp <;> (with_reducible rfl))
  simp only [Act.put, List.setIfInBounds_toArray, List.set_cons_zero, List.set_cons_succ]
  refine wpAnyH_take (i := 12) (v := ?v12) (List.getElem?_toArray.trans rfl) (by kernel_rfl) (by kernel_rfl) (by kernel_rfl) (fun _ _ _ h => h) (Or.inl ⟨by rfl, ?hy12⟩) (by assumption) ?rest12
  case hy12 => (intro W hSw; go_simp <;> (with_reducible rfl))
  simp only [Act.put, List.setIfInBounds_toArray, List.set_cons_zero, List.set_cons_succ]
  refine wpAnyH_take (i := 13) (v := ?v13) (List.getElem?_toArray.trans rfl) (by kernel_rfl) (by kernel_rfl) (by kernel_rfl) (fun _ _ _ h => h) (Or.inl ⟨by rfl, ?hy13⟩) (by assumption) ?rest13
  case hy13 => (intro W hSw; go_simp <;> (with_reducible rfl))
  simp only [Act.put, List.setIfInBounds_toArray, List.set_cons_zero, List.set_cons_succ]
  refine wpAnyH_take_call 14 (.int .i64 x2) (List.getElem?_toArray.trans rfl) (by kernel_rfl) (by kernel_rfl) (by kernel_rfl) (by kernel_rfl) (by kernel_rfl) (fun _ _ _ h => h) ⟨by rfl, fun W hSw => ⟨19, #[.int .i64 rest], (by kernel_rfl), HB2.out W⟩⟩ (by assumption) ?_
  simp only [Act.put, List.setIfInBounds_toArray, List.set_cons_zero, List.set_cons_succ]
  refine wpAnyH_take (i := 15) (v := ?v15) (List.getElem?_toArray.trans rfl) (by kernel_rfl) (by kernel_rfl) (by kernel_rfl) (fun _ _ _ h => h) (Or.inl ⟨by rfl, ?hy15⟩) (by assumption) ?rest15
  case hy15 => (intro W hSw; go_simp <;> (with_reducible rfl))
  simp only [Act.put, List.setIfInBounds_toArray, List.set_cons_zero, List.set_cons_succ]
  refine wpAnyH_take (i := 16) (v := ?v16) (List.getElem?_toArray.trans rfl) (by kernel_rfl) (by kernel_rfl) (by kernel_rfl) (fun _ _ _ h => h) (Or.inl ⟨by rfl, ?hy16⟩) (by assumption) ?rest16
  case hy16 => (intro W hSw; go_simp <;> (with_reducible rfl))
  simp only [Act.put, List.setIfInBounds_toArray, List.set_cons_zero, List.set_cons_succ]
  refine wpAnyH_take (i := 17) (v := ?v17) (List.getElem?_toArray.trans rfl) (by kernel_rfl) (by kernel_rfl) (by kernel_rfl) (fun _ _ _ h => h) (Or.inl ⟨by rfl, ?hy17⟩) (by assumption) ?rest17
  case hy17 => (intro W hSw; go_simp <;> (with_reducible rfl))
  simp only [Act.put, List.setIfInBounds_toArray, List.set_cons_zero, List.set_cons_succ]
  refine wpAnyH_take_call 18 (.int .i64 x3) (List.getElem?_toArray.trans rfl) (by kernel_rfl) (by kernel_rfl) (by kernel_rfl) (by kernel_rfl) (by kernel_rfl) (fun _ _ _ h => h) ⟨by rfl, fun W hSw => ⟨19, #[.int .i64 extra], (by kernel_rfl), HB3.out W⟩⟩ (by assumption) ?_
  simp only [Act.put, List.setIfInBounds_toArray, List.set_cons_zero, List.set_cons_succ]
  refine wpAnyH_take (i := 19) (v := ?v19) (List.getElem?_toArray.trans rfl) (by kernel_rfl) (by kernel_rfl) (by kernel_rfl) (fun _ _ _ h => h) (Or.inl ⟨by rfl, ?hy19⟩) (by assumption) ?rest19
  case hy19 => (intro W hSw; go_simp <;> (with_reducible rfl))
  simp only [Act.put, List.setIfInBounds_toArray, List.set_cons_zero, List.set_cons_succ]
  refine wpAnyH_ready (rs := [2]) (by kernel_rfl) (by simp) ?_
  refine AllReadyH.cons (List.getElem?_toArray.trans rfl) (fun K hK => ?_) AllReadyH.nil
  go_simp
  refine hK.out _ _ (PB.bytes (by assumption) _) (fun hHeld => ?_)
  clear hK K
  refine wpAnyH_take (i := 20) (v := ?v20) (List.getElem?_toArray.trans rfl) (by kernel_rfl) (by kernel_rfl) (by kernel_rfl) (fun _ _ _ h => h) (Or.inl ⟨by rfl, ?hy20⟩) (by assumption) ?rest20
  case hy20 => (intro W hSw; go_simp <;> (with_reducible rfl))
  simp only [Act.put, List.setIfInBounds_toArray, List.set_cons_zero, List.set_cons_succ]
  refine wpAnyH_ready (rs := [21]) (by kernel_rfl) (by simp) ?_
  refine AllReadyH.cons (List.getElem?_toArray.trans rfl) (fun K hK => ?_) AllReadyH.nil
  go_simp
  refine hK.out _ _ (PB.alloc (by assumption) _) (fun hHeld => ?_)
  clear hK K
  refine wpAnyH_take (i := 22) (v := ?v22) (List.getElem?_toArray.trans rfl) (by kernel_rfl) (by kernel_rfl) (by kernel_rfl) (fun _ _ _ h => h) (Or.inl ⟨by rfl, ?hy22⟩) (by assumption) ?rest22
  case hy22 => (intro W hSw; go_simp <;> (with_reducible rfl))
  simp only [Act.put, List.setIfInBounds_toArray, List.set_cons_zero, List.set_cons_succ]
  refine wpAnyH_done (by kernel_rfl) ?_ _
  have hroom : IntKind.i64.wrap (IntKind.i64.wrap (IntKind.i64.wrap (x1 * (s.size : Int)) + x2) + x3) = roomF grow rest extra s.size := by
    rw [IntWalk.i64_in (x1 * (s.size : Int)) ⟨by omega, by omega⟩, IntWalk.i64_in (x1 * (s.size : Int) + x2) ⟨by omega, by omega⟩, IntWalk.i64_in (x1 * (s.size : Int) + x2 + x3) ⟨by omega, by omega⟩]
    unfold roomF
    rw [HX.out.1, HX.out.2.1, HX.out.2.2]
  have hfuel : (if 35184372088832 < if fuel < 0 then 0 else fuel then 35184372088832 else if fuel < 0 then 0 else fuel) = fuelF fuel := by
    unfold fuelF
    split <;> split <;> (try split) <;> omega
  rw [hroom, hfuel]
  generalize (if fuel < 0 then 0 else fuel) = fm
  obtain ⟨Wb, hWb⟩ : ∃ Wb, Wb = Lib.bytesWorld (w.alloc (.cells #[.int .i64 grow, .int .i64 rest, .int .i64 extra, .int .i64 signs, v4, v5, v6, v7, v8, v9] 35)).drew 5 s := ⟨_, rfl⟩
  obtain ⟨cp, hcp⟩ : ∃ cp, cp = grownCap (w.alloc (.cells #[.int .i64 grow, .int .i64 rest, .int .i64 extra, .int .i64 signs, v4, v5, v6, v7, v8, v9] 35)).drew s.size 0 5 := ⟨_, rfl⟩
  rw [← hWb, ← hcp]
  have hsz1 : (w.alloc (.cells #[.int .i64 grow, .int .i64 rest, .int .i64 extra, .int .i64 signs, v4, v5, v6, v7, v8, v9] 35)).drew.heap.size = w.heap.size + 1 := by simp
  have hszb : Wb.heap.size = w.heap.size + 2 := by rw [hWb, Lib.bytesWorld_size, hsz1]
  have hbl : Below w.heap.size w Wb := by rw [hWb]; exact (P0.out.drew.bytes s).bel
  have hce : ∀ j, j < s.size → Wb.cell? ⟨w.heap.size + 1, j, none⟩ = some (.int .u8 (s.data.toList.getD j 0).toNat) := fun j hj => by
    rw [hWb, ← hsz1]
    exact Lib.bytesWorld_cell _ 5 s j hj
  obtain ⟨room, hrm⟩ : ∃ room, room = roomF grow rest extra s.size := ⟨_, rfl⟩
  obtain ⟨fu, hfu⟩ : ∃ fu, fu = fuelF fuel := ⟨_, rfl⟩
  rw [← hrm, ← hfu] at HH
  rw [← hrm, ← hfu]
  have hX : RS w.heap.size Wb.heap.size w (Wb.alloc (.cells #[.int .i64 grow, .int .i64 rest, .int .i64 extra, .int .i64 signs, v4, v5, v6, v7, v8, v9, .int .i64 0, .int .i64 0, .int .i64 0, .int .i64 0, .int .i64 0, .int .i64 0, .int .i64 0, .int .i64 0, .int .i64 0, .int .i64 0, .slice (some ⟨w.heap.size + 1, 0, none⟩) s.size cp, .int .i64 0, .slice none 0 0, .slice none 0 0, .slice none 0 0, .int .i64 0, .int .i64 room, .int .i64 fu, .int .i64 0] 67)) [.int .i64 grow, .int .i64 rest, .int .i64 extra, .int .i64 signs, v4, v5, v6, v7, v8, v9] room fu (st0 s.data.toList) (.slice (some ⟨w.heap.size + 1, 0, none⟩) s.size cp) (.slice none 0 0) (.slice none 0 0) (.slice none 0 0) := by
    refine ⟨rfl, rfl, rfl, hbl.alloc (by omega) _, by omega, Blk.new Wb 67 (rcells [.int .i64 grow, .int .i64 rest, .int .i64 extra, .int .i64 signs, v4, v5, v6, v7, v8, v9] (st0 s.data.toList) (.slice (some ⟨w.heap.size + 1, 0, none⟩) s.size cp) (.slice none 0 0) (.slice none 0 0) (.slice none 0 0) room fu), ⟨⟨_, cp, rfl⟩, fun b e => ?_, fun j hj => ⟨w.heap.size + 1, ⟨cp, rfl⟩, ?_⟩⟩, World.ownsRow_nil _ _ _ _, World.ownsRow_nil _ _ _ _, World.ownsRow_nil _ _ _ _, fun e => ?_, fun b _ e => (by cases e), fun b _ e => (by cases e), fun b _ e => (by cases e), fun b _ e => (by cases e), fun b _ e => (by cases e), fun b _ e => (by cases e)⟩
    · have e2 : w.heap.size + 1 = b := by simpa [Value.ownBlock] using e
      simp
      omega
    · have hj2 : j < s.size := by rw [← size_data]; exact hj
      exact cell_al (hce j hj2) _
    · have e2 : w.heap.size + 1 = Wb.heap.size := by simpa [Value.ownBlock] using e
      omega
  have hgw : w.heap.size < Wb.heap.size := by omega
  obtain ⟨g, hg⟩ : ∃ g, g = Wb.heap.size := ⟨_, rfl⟩
  have hW9 : ∃ W9, W9 = Wb.alloc (.cells #[.int .i64 grow, .int .i64 rest, .int .i64 extra, .int .i64 signs, v4, v5, v6, v7, v8, v9, .int .i64 0, .int .i64 0, .int .i64 0, .int .i64 0, .int .i64 0, .int .i64 0, .int .i64 0, .int .i64 0, .int .i64 0, .int .i64 0, .slice (some ⟨w.heap.size + 1, 0, none⟩) s.size cp, .int .i64 0, .slice none 0 0, .slice none 0 0, .slice none 0 0, .int .i64 0, .int .i64 room, .int .i64 fu, .int .i64 0] 67) := ⟨_, rfl⟩
  obtain ⟨W9, hW9⟩ := hW9
  rw [← hW9] at hX ⊢
  rw [← hg] at hX ⊢
  have HX9 := Lib.hid hX
  have HBW := Lib.hid hbl
  clear hrm hfu hX hW9 hg hce hWb hbl hszb hsz1 hcp hHeld hld hq0 hq1 hq2 hcv hroom hfuel
  go_wp2_with fail
  go_loopw [10] (fun _ wr => ∃ (t : St) (vs vp vg vt : Value), RS w.heap.size g w wr [.int .i64 grow, .int .i64 rest, .int .i64 extra, .int .i64 signs, v4, v5, v6, v7, v8, v9] room fu t vs vp vg vt ∧ Inv t ∧ (∀ t' c, Ends stp t t' c → Ends stp (st0 s.data.toList) t' c)) (fun _ wr => fu.toNat - usedM g wr)
  case atStart => exact ⟨_, _, _, _, _, HX9.out, HH.out.1, fun t' c h => h⟩
  case round =>
    obtain ⟨t, vs, vp, vg, vt, hX, hI, hE⟩ := hrel
    obtain ⟨w2, rfl⟩ : ∃ w2 : World, w2 = wr := ⟨_, rfl⟩
    have X2 := Lib.hid hX
    have I2 := Lib.hid hI
    have E2 := Lib.hid hE
    have M2 := Lib.hid (usedM_eq hX)
    clear hX hI hE HX9
    obtain ⟨t3, o3⟩ : ∃ r, r = stp t := ⟨_, rfl⟩
    go_wp2_with fail
    refine (HH.out.2.1 g w2 t vs vp vg vt X2.out I2.out).mono ?_
    rw [← o3]
    rintro e w3 ⟨rfl, vs3, vp3, vg3, vt3, hX3⟩
    have X3 := Lib.hid hX3
    clear hX3
    obtain ⟨t4, o4⟩ := t3
    have hv := X3.out.cells.vt
    have hu := X3.out.cells.used
    obtain ⟨A5, c5, hvt⟩ := own_sl X3.out.told
    cases o4 with
    | none =>
      have hin := HH.out.2.2 t I2.out (by rw [← o3])
      rw [← o3] at hin
      have HIN := Lib.hid hin
      have HO := Lib.hid o3
      clear hin o3 hv hu hvt
      go_wp2_with fail
      go_roundw
      case rel =>
        exact ⟨t4, vs3, vp3, vg3, vt3, X3.out, HIN.out.1, fun t' c h => E2.out t' c (.more HO.out.symm h)⟩
      case measure =>
        rw [M2.out, usedM_eq X3.out]
        have h1 := HIN.out.2.1
        have h2 := HIN.out.2.2
        omega
    | some c =>
      have HO := Lib.hid (E2.out t4 c (.last o3.symm))
      clear o3
      by_cases hc : c = 0
      · subst hc
        go_wp2_with fail
        go_quiet (fail)
        go_wp2_with fail
        go_returns
        have X4 := X3.out.drewN nq
        have hb4 := X4.below
        have ht4 := X4.told
        rw [hvt] at ht4
        exact ⟨hb4, t4, 0, HO.out, _, rfl, .inl ⟨rfl, A5, c5, rfl, own_ints ht4⟩⟩
      · have hcb : ((c : Int) == 0) = false := by simp; omega
        go_wp2_with fail
        go_quiet (fail)
        go_wp2_with fail
        go_returns
        exact ⟨(X3.out.drewN nq).below, t4, c, HO.out, _, rfl, .inr ⟨hc, rfl⟩⟩
end Go.Proofs.Ytgejpggbmgiocaa
