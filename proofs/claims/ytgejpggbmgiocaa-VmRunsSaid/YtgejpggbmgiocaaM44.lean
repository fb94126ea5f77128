/- RRun of this seat, in one text. -/
import Derived.Test.YtgejpggbmgiocaaM25
import Derived.Test.YtgejpggbmgiocaaM33
/- The reference's Run, over what a step does. -/
namespace Go.Proofs.Ytgejpggbmgiocaa
open Go.RowKit
attribute [local go_sem ↓] load_p
set_option maxRecDepth 100000 in
set_option maxHeartbeats 4000000 in
theorem rrun_long (grow rest extra signs fuel : Int) (v4 v5 v6 v7 v8 v9 : Value) (s : ByteArray) (w : World) (hs : 4096 < s.size) :
    Calls Try.prog 11 #[.agg #[.int .i64 grow, .int .i64 rest, .int .i64 extra, .int .i64 signs, v4, v5, v6, v7, v8, v9], .string s, .int .i64 fuel] w fun e w' => e = .returned (.tuple #[.slice none 0 0, .int .i64 2, .int .i64 0]) ∧ Below w.heap.size w w' := by
  have hb0 : Below w.heap.size w (w.alloc (.cells #[.int .i64 grow, .int .i64 rest, .int .i64 extra, .int .i64 signs, v4, v5, v6, v7, v8, v9] 35)) := (Below.refl _ _).alloc (Nat.le_refl _) _
  have HB := Lib.hid hb0
  have e1 : decide ((4096 : Int) < (s.size : Int)) = true := by simp; omega
  clear hb0
  go_enter Try.func11, Try.ntmps11
  go_wp2_with fail
  go_returns
  exact ⟨by first | rfl | simp, HB.out⟩
def BytesIn (W : World) (c : Nat) (s : ByteArray) : Prop := c < W.heap.size ∧ ∀ j, j < s.size → W.cell? ⟨c, j, none⟩ = some (.int .u8 (s.data.toList.getD j 0).toNat)
theorem BytesIn.below {W W' : World} {c : Nat} {s : ByteArray} (h : BytesIn W c s) (hb : Below W.heap.size W W') : BytesIn W' c s := ⟨Nat.lt_of_lt_of_le h.1 hb.size, fun j hj => (hb.cell (p := ⟨c, j, none⟩) h.1).trans (h.2 j hj)⟩
theorem BytesIn.alloc {W : World} {c : Nat} {s : ByteArray} (h : BytesIn W c s) (o : Obj) : BytesIn (W.alloc o) c s := h.below ((Below.refl _ _).alloc (Nat.le_refl _) _)
theorem BytesIn.new (W : World) (s : ByteArray) : BytesIn (Lib.bytesWorld W 5 s) W.heap.size s := ⟨by rw [Lib.bytesWorld_size]; omega, fun j hj => Lib.bytesWorld_cell W 5 s j hj⟩
theorem newA (W : World) (k : Nat) (hk : k = W.heap.size) : Blk (W.alloc (.cells (Array.replicate 8 (.int .i64 0)) 3)) k 3 (numsV .i64 (List.replicate 8 0)) := by
  subst hk; exact Blk.new W 3 (numsV .i64 (List.replicate 8 0))
theorem newB (W : World) (k : Nat) (hk : k = W.heap.size) : Blk (W.alloc (.cells #[.int .i64 0, .int .i64 0] 3)) k 3 [.int .i64 0, .int .i64 0] := by
  subst hk; exact Blk.new W 3 [.int .i64 0, .int .i64 0]
theorem newC (W : World) (s : ByteArray) (k : Nat) (hk : k = W.heap.size) : BytesIn (Lib.bytesWorld W 5 s) k s := by
  subst hk; exact BytesIn.new W s
theorem BytesIn.drew {W : World} {c : Nat} {s : ByteArray} (h : BytesIn W c s) : BytesIn W.drew c s := h
theorem Blk.drew1 {W : World} {g : Nat} {t : TypeId} {cs : List Value} (h : Blk W g t cs) : Blk W.drew g t cs := h
theorem Blk.bytes {W : World} {g : Nat} {t : TypeId} {cs : List Value} (h : Blk W g t cs) (s : ByteArray) : Blk (Lib.bytesWorld W 5 s) g t cs := h.below (below_bytes W s) h.lt
theorem rr_start (grow rest extra signs fr : Int) (v4 v5 v6 v7 v8 v9 : Value) (s : ByteArray) (w W : World) (g a b c cap : Nat) (hg : g = W.heap.size) (hb : Below w.heap.size w W) (ha : w.heap.size ≤ a) (hbb : w.heap.size ≤ b) (hcc : w.heap.size ≤ c) (hab : a ≠ b) (hac : a ≠ c) (hbc : b ≠ c)
    (hA : Blk W a 3 (numsV .i64 (List.replicate 8 0))) (hB : Blk W b 3 [.int .i64 0, .int .i64 0]) (hC : BytesIn W c s) :
    RR w.heap.size g a b w (W.alloc (.cells #[.int .i64 grow, .int .i64 rest, .int .i64 extra, .int .i64 signs, v4, v5, v6, v7, v8, v9, .slice (some ⟨a, 0, none⟩) 8 8, .slice (some ⟨b, 0, none⟩) 2 2, .slice (some ⟨c, 0, none⟩) s.size cap, .int .i64 0, .slice none 0 0, .slice none 0 0, .slice none 0 0, .int .i64 0, .int .i64 0, .int .i64 fr, .int .i64 0] 72)) [.int .i64 grow, .int .i64 rest, .int .i64 extra, .int .i64 signs, v4, v5, v6, v7, v8, v9] 0 fr (st0 s.data.toList) (.slice (some ⟨c, 0, none⟩) s.size cap) (.slice none 0 0) (.slice none 0 0) (.slice none 0 0) := by
  subst hg
  have hsz := hb.size
  have hl := hA.lt
  have hl2 := hB.lt
  have hl3 := hC.1
  have hcb : ∀ b', (Value.slice (some ⟨c, 0, none⟩) s.size cap).ownBlock = some b' → b' = c := fun b' e => by
    have e2 : c = b' := by simpa [Value.ownBlock] using e
    exact e2.symm
  refine ⟨rfl, rfl, rfl, hb.alloc hsz _, hsz, ha, hbb, Blk.new W 72 (rrc [.int .i64 grow, .int .i64 rest, .int .i64 extra, .int .i64 signs, v4, v5, v6, v7, v8, v9] a b (st0 s.data.toList) (.slice (some ⟨c, 0, none⟩) s.size cap) (.slice none 0 0) (.slice none 0 0) (.slice none 0 0) 0 fr), hA.alloc _, hB.alloc _, ⟨⟨_, cap, rfl⟩, fun b' e => ⟨by have := hcb b' e; omega, by have := hcb b' e; simp; omega⟩, fun j hj => ⟨c, ⟨cap, rfl⟩, ?_⟩⟩, World.ownsRow_nil _ _ _ _, World.ownsRow_nil _ _ _ _, World.ownsRow_nil _ _ _ _, ⟨by omega, by omega, hab, fun b' e => by have := hcb b' e; omega, fun _ e => (by cases e), fun _ e => (by cases e), fun _ e => (by cases e), fun _ _ e => (by cases e), fun _ _ e => (by cases e), fun _ _ e => (by cases e), fun _ _ e => (by cases e), fun _ _ e => (by cases e), fun _ _ e => (by cases e)⟩⟩
  have hj2 : j < s.size := by rw [← size_data]; exact hj
  exact cell_al (hC.2 j hj2) _
theorem RR.setRoom {B g gr gk : Nat} {w0 W : World} {prg : List Value} {room fuel : Int} {s : St} {vs vp vg vt : Value} (h : RR B g gr gk w0 W prg room fuel s vs vp vg vt) (x : Int) : RR B g gr gk w0 (W.setCell ⟨g, 18, none⟩ (.int .i64 x)) prg x fuel s vs vp vg vt := by
  have hh : ∀ b, b ≠ g → (W.setCell ⟨g, 18, none⟩ (.int .i64 x)).heap[b]? = W.heap[b]? := fun b hb => Below.heap_setCell _ _ _ b hb
  refine ⟨h.pl, h.rl, h.ml, h.below.setCell (p := ⟨g, 18, none⟩) h.gB _, h.gB, h.grB, h.gkB, ?_, blk_far h.rb h.ap.n1.symm, blk_far h.mb h.ap.n2.symm, ?_, ?_, ?_, ?_, h.ap⟩
  · have := h.box.set 18 (.int .i64 x)
    rw [rrs_tail h.pl 8] at this
    exact this
  · exact h.src.keep (by simp) (fun b e => hh b (h.ap.fs b e).1)
  · exact own_move h.put (fun b o e ho _ => (hh b (h.ap.fp b e).1).trans ho)
  · exact own_move h.sgn (fun b o e ho _ => (hh b (h.ap.fg b e).1).trans ho)
  · exact own_move h.told (fun b o e ho _ => (hh b (h.ap.ft b e).1).trans ho)
theorem PB.set {w W : World} {l : List Value} (h : PB w l W) {g : Nat} (hne : g ≠ w.heap.size) (k : Nat) (v : Value) (hg : w.heap.size ≤ g) : PB w l (W.setCell ⟨g, k, none⟩ v) := ⟨h.bel.setCell (p := ⟨g, k, none⟩) hg _, by simp [h.lt], blk_far h.blk hne.symm⟩
def usedR (g : Nat) (W : World) : Nat := match W.cell? ⟨g, 20, none⟩ with | some (.int _ x) => x.toNat | _ => 0
theorem usedR_eq {B g gr gk : Nat} {w0 W : World} {prg : List Value} {room fuel : Int} {s : St} {vs vp vg vt : Value} (h : RR B g gr gk w0 W prg room fuel s vs vp vg vt) : usedR g W = s.used := by
  unfold usedR
  rw [h.cells.used]
  rfl
theorem info3r : (Try.prog.info? 3).map (fun i => (i.zero, i.size, i.bytes)) = some (some (.int .i64 0), 1, 8) := by kernel_rfl
set_option maxRecDepth 100000 in
set_option maxHeartbeats 8000000 in
theorem rrun_walk (grow rest extra signs fuel : Int) (v4 v5 v6 v7 v8 v9 : Value) (s : ByteArray) (w : World) (hs : s.size ≤ 4096) (hfu : fuel ≤ 35184372088832)
    (stp : St → St × Option Nat) (Inv : St → Prop) (h0 : Inv (st0 s.data.toList))
    (HSTEP : ∀ (g gr gk : Nat) (W : World) (t : St) (vs vp vg vt : Value), RR w.heap.size g gr gk w W [.int .i64 grow, .int .i64 rest, .int .i64 extra, .int .i64 signs, v4, v5, v6, v7, v8, v9] (roomF grow rest extra s.size) (fuelF fuel) t vs vp vg vt → Inv t →
      Calls Try.prog 22 #[.pointer (some ⟨g, 0, none⟩)] W (ResR w.heap.size g gr w [.int .i64 grow, .int .i64 rest, .int .i64 extra, .int .i64 signs, v4, v5, v6, v7, v8, v9] (roomF grow rest extra s.size) (fuelF fuel) (stp t)))
    (HINV : ∀ t, Inv t → (stp t).2 = none → Inv (stp t).1 ∧ t.used < (stp t).1.used ∧ ((stp t).1.used : Int) ≤ fuelF fuel) :
    Calls Try.prog 11 #[.agg #[.int .i64 grow, .int .i64 rest, .int .i64 extra, .int .i64 signs, v4, v5, v6, v7, v8, v9], .string s, .int .i64 fuel] w fun e w' => Below w.heap.size w w' ∧ ∃ t' c, Ends stp (st0 s.data.toList) t' c ∧
      ∃ v, e = .returned (.tuple #[v, .int .i64 (c : Nat), .int .i64 t'.used]) ∧ ((c = 0 ∧ ∃ A q, v = .slice A t'.told.length q ∧ Arr w' w'.heap.size 1 A t'.told.length (fun k _ => .int .i64 (t'.told.getD k 0))) ∨ (c ≠ 0 ∧ v = .slice none 0 0)) := by
  have e1 : decide ((4096 : Int) < (s.size : Int)) = false := by simp; omega
  obtain ⟨fr, hfr⟩ : ∃ x, (if fuel < 0 then (0 : Int) else fuel) = x := ⟨_, rfl⟩
  have hff : fuelF fuel = fr := by rw [← hfr]; unfold fuelF; split <;> (try split) <;> omega
  rw [hff] at HSTEP HINV
  have P0 := Lib.hid (show PB w [.int .i64 grow, .int .i64 rest, .int .i64 extra, .int .i64 signs, v4, v5, v6, v7, v8, v9] (w.alloc (.cells #[.int .i64 grow, .int .i64 rest, .int .i64 extra, .int .i64 signs, v4, v5, v6, v7, v8, v9] 35)) from ⟨(Below.refl _ _).alloc (Nat.le_refl _) _, by simp, Blk.new w 35 [.int .i64 grow, .int .i64 rest, .int .i64 extra, .int .i64 signs, v4, v5, v6, v7, v8, v9]⟩)
  have hmk : ∀ W : World, (Instr.makeSlice 26 (.int .i64 8) (.int .i64 8)).run Try.prog W = .ok (.slice (some ⟨W.heap.size, 0, none⟩) 8 8) (W.alloc (.cells (Array.replicate 8 (.int .i64 0)) 3)) := fun W => make_one 26 3 (.int .i64 0) 8 Try.underlying26 info3r rfl 8 (by omega) (by omega) W
  have hcv := fun W => Lib.run_convert_string_bytes (P := Try.prog) W 9 62 5 s Try.underlying9 Try.underlying62 Try.underlying5
  have hld := (P0.out.drew).load rfl
  have HH := Lib.hid (And.intro h0 (And.intro HSTEP HINV))
  clear h0 HSTEP HINV hff
  have fn : fuel < 0 ∨ ¬ fuel < 0 := by omega
  go_enter Try.func11, Try.ntmps11
  go_upto_if 15 with (fail)
  generalize w.alloc (.cells #[.int .i64 grow, .int .i64 rest, .int .i64 extra, .int .i64 signs, v4, v5, v6, v7, v8, v9] 35) = w1 at P0 hld ⊢
  go_cut [2] from 14 (fun va wx => va = .int .i64 fr ∧ wx = w1)
  case first =>
    by_cases hneg : fuel < 0
    · have d1 : decide (fuel < 0) = true := by simpa using hneg
      rw [if_pos hneg] at hfr
      subst hfr
      go_wp2_with fail
      all_goals
        go_meet
        exact ⟨rfl, rfl⟩
    · have d1 : decide (fuel < 0) = false := by simpa using hneg
      rw [if_neg hneg] at hfr
      subst hfr
      go_wp2_with fail
      all_goals
        go_meet
        exact ⟨rfl, rfl⟩
  case rest =>
    obtain ⟨rfl, rfl⟩ := hcut
    have hwz := P0.out.bel.size
    go_wp2_with fail
    have hq : ∀ W, PB w [.int .i64 grow, .int .i64 rest, .int .i64 extra, .int .i64 signs, v4, v5, v6, v7, v8, v9] W → (loadP (.pointer (some ⟨w.heap.size, 0, none⟩))).run Try.prog W = .ok (.agg ([.int .i64 grow, .int .i64 rest, .int .i64 extra, .int .i64 signs, v4, v5, v6, v7, v8, v9]).toArray) W := fun W h => h.load rfl
    go_cut [9] from 14 (fun va wx => ∃ g gr gk vs, va = .pointer (some ⟨g, 0, none⟩) ∧ RR w.heap.size g gr gk w wx [.int .i64 grow, .int .i64 rest, .int .i64 extra, .int .i64 signs, v4, v5, v6, v7, v8, v9] 0 fr (st0 s.data.toList) vs (.slice none 0 0) (.slice none 0 0) (.slice none 0 0) ∧ PB w [.int .i64 grow, .int .i64 rest, .int .i64 extra, .int .i64 signs, v4, v5, v6, v7, v8, v9] wx)
    case first =>
      refine wp_region_held_drew (S := fun W' => PB w [.int .i64 grow, .int .i64 rest, .int .i64 extra, .int .i64 signs, v4, v5, v6, v7, v8, v9] W') (by kernel_rfl) (P0.out.drew) (fun hHeld1 => ?_)
      refine wpAnyH_take (i := 0) (v := ?v0x1) (List.getElem?_toArray.trans rfl) (by kernel_rfl) (by kernel_rfl) (by kernel_rfl) (fun _ _ _ h => h) (Or.inl ⟨by rfl, ?hy0x1⟩) (by assumption) ?rest0x1
      case hy0x1 => (intro W hSw; go_simp <;> (with_reducible rfl))
      simp only [Act.put, List.setIfInBounds_toArray, List.set_cons_zero, List.set_cons_succ]
      refine wpAnyH_take (i := 3) (v := ?v3x2) (List.getElem?_toArray.trans rfl) (by kernel_rfl) (by kernel_rfl) (by kernel_rfl) (fun _ _ _ h => h) (Or.inl ⟨by rfl, ?hy3x2⟩) (by assumption) ?rest3x2
      case hy3x2 => (intro W hSw; go_simp <;> (with_reducible rfl))
      simp only [Act.put, List.setIfInBounds_toArray, List.set_cons_zero, List.set_cons_succ]
      refine wpAnyH_take (i := 5) (v := ?v5x3) (List.getElem?_toArray.trans rfl) (by kernel_rfl) (by kernel_rfl) (by kernel_rfl) (fun _ _ _ h => h) (Or.inl ⟨by rfl, ?hy5x3⟩) (by assumption) ?rest5x3
      case hy5x3 => (intro W hSw; go_simp <;> (with_reducible rfl))
      simp only [Act.put, List.setIfInBounds_toArray, List.set_cons_zero, List.set_cons_succ]
      refine wpAnyH_ready (rs := [1, 2, 4]) (by kernel_rfl) (by simp) ?_
      refine AllReadyH.cons (List.getElem?_toArray.trans rfl) (fun K hK => ?_) (AllReadyH.cons (List.getElem?_toArray.trans rfl) (fun K hK => ?_) (AllReadyH.cons (List.getElem?_toArray.trans rfl) (fun K hK => ?_) (AllReadyH.nil)))
      · go_simp
        refine hK.out _ _ (PB.alloc (by assumption) _) (fun hHeld2 => ?_)
        clear hK K
        refine wpAnyH_ready (rs := [2, 4]) (by kernel_rfl) (by simp) ?_
        refine AllReadyH.cons (List.getElem?_toArray.trans rfl) (fun K hK => ?_) (AllReadyH.cons (List.getElem?_toArray.trans rfl) (fun K hK => ?_) (AllReadyH.nil))
        · go_simp
          refine hK.out _ _ (PB.alloc (by assumption) _) (fun hHeld3 => ?_)
          clear hK K
          refine wpAnyH_ready (rs := [4]) (by kernel_rfl) (by simp) ?_
          refine AllReadyH.cons (List.getElem?_toArray.trans rfl) (fun K hK => ?_) (AllReadyH.nil)
          · go_simp
            refine hK.out _ _ (PB.bytes (by assumption) _) (fun hHeld4 => ?_)
            clear hK K
            refine wpAnyH_take (i := 6) (v := ?v6x4) (List.getElem?_toArray.trans rfl) (by kernel_rfl) (by kernel_rfl) (by kernel_rfl) (fun _ _ _ h => h) (Or.inl ⟨by rfl, ?hy6x4⟩) (by assumption) ?rest6x4
            case hy6x4 => (intro W hSw; go_simp <;> (with_reducible rfl))
            simp only [Act.put, List.setIfInBounds_toArray, List.set_cons_zero, List.set_cons_succ]
            refine wpAnyH_ready (rs := [7]) (by kernel_rfl) (by simp) ?_
            refine AllReadyH.cons (List.getElem?_toArray.trans rfl) (fun K hK => ?_) AllReadyH.nil
            go_simp
            refine hK.out _ _ (PB.alloc (by assumption) _) (fun hHeld5 => ?_)
            clear hK K
            refine wpAnyH_take (i := 8) (v := ?v8x5) (List.getElem?_toArray.trans rfl) (by kernel_rfl) (by kernel_rfl) (by kernel_rfl) (fun _ _ _ h => h) (Or.inl ⟨by rfl, ?hy8x5⟩) (by assumption) ?rest8x5
            case hy8x5 => (intro W hSw; go_simp <;> (with_reducible rfl))
            simp only [Act.put, List.setIfInBounds_toArray, List.set_cons_zero, List.set_cons_succ]
            refine wpAnyH_done (by kernel_rfl) ?_ _
            go_wp2_with fail
            all_goals
              rename_i hJ
              refine Met.intro (hJ _ _ ?_)
              repeat apply Exists.intro
              refine ⟨⟨_, _, _, _, rfl, rr_start grow rest extra signs fr v4 v5 v6 v7 v8 v9 s w _ _ _ _ _ _ ?_ (PB.bel (l := [.int .i64 grow, .int .i64 rest, .int .i64 extra, .int .i64 signs, v4, v5, v6, v7, v8, v9]) (by repeat first | exact P0.out | refine PB.alloc ?_ _ | refine PB.bytes ?_ _ | refine PB.drew ?_)) ?_ ?_ ?_ ?_ ?_ ?_ ?_ ?_ ?_, (by repeat first | exact P0.out | refine PB.alloc ?_ _ | refine PB.bytes ?_ _ | refine PB.drew ?_)⟩, rfl⟩
              · first | rfl | (simp; done) | (simp [Lib.bytesWorld_size]; done)
              · first | exact hwz | omega | (simp; done) | (simp; omega) | (simp [Lib.bytesWorld_size]; done) | (simp [Lib.bytesWorld_size]; omega)
              · first | exact hwz | omega | (simp; done) | (simp; omega) | (simp [Lib.bytesWorld_size]; done) | (simp [Lib.bytesWorld_size]; omega)
              · first | exact hwz | omega | (simp; done) | (simp; omega) | (simp [Lib.bytesWorld_size]; done) | (simp [Lib.bytesWorld_size]; omega)
              · first | exact hwz | omega | (simp; done) | (simp; omega) | (simp [Lib.bytesWorld_size]; done) | (simp [Lib.bytesWorld_size]; omega)
              · first | exact hwz | omega | (simp; done) | (simp; omega) | (simp [Lib.bytesWorld_size]; done) | (simp [Lib.bytesWorld_size]; omega)
              · first | exact hwz | omega | (simp; done) | (simp; omega) | (simp [Lib.bytesWorld_size]; done) | (simp [Lib.bytesWorld_size]; omega)
              · repeat first | exact newA _ _ (by first | rfl | (simp; done) | (simp [Lib.bytesWorld_size]; done)) | refine Blk.alloc ?_ _ | refine Blk.bytes ?_ _ | refine Blk.drew1 ?_
              · repeat first | exact newB _ _ (by first | rfl | (simp; done) | (simp [Lib.bytesWorld_size]; done)) | refine Blk.alloc ?_ _ | refine Blk.bytes ?_ _ | refine Blk.drew1 ?_
              · repeat first | exact newC _ _ _ (by first | rfl | (simp; done) | (simp [Lib.bytesWorld_size]; done)) | refine BytesIn.alloc ?_ _ | refine BytesIn.drew ?_
        · go_simp
          refine hK.out _ _ (PB.bytes (by assumption) _) (fun hHeld6 => ?_)
          clear hK K
          refine wpAnyH_ready (rs := [2]) (by kernel_rfl) (by simp) ?_
          refine AllReadyH.cons (List.getElem?_toArray.trans rfl) (fun K hK => ?_) (AllReadyH.nil)
          · go_simp
            refine hK.out _ _ (PB.alloc (by assumption) _) (fun hHeld7 => ?_)
            clear hK K
            refine wpAnyH_take (i := 6) (v := ?v6x6) (List.getElem?_toArray.trans rfl) (by kernel_rfl) (by kernel_rfl) (by kernel_rfl) (fun _ _ _ h => h) (Or.inl ⟨by rfl, ?hy6x6⟩) (by assumption) ?rest6x6
            case hy6x6 => (intro W hSw; go_simp <;> (with_reducible rfl))
            simp only [Act.put, List.setIfInBounds_toArray, List.set_cons_zero, List.set_cons_succ]
            refine wpAnyH_ready (rs := [7]) (by kernel_rfl) (by simp) ?_
            refine AllReadyH.cons (List.getElem?_toArray.trans rfl) (fun K hK => ?_) AllReadyH.nil
            go_simp
            refine hK.out _ _ (PB.alloc (by assumption) _) (fun hHeld8 => ?_)
            clear hK K
            refine wpAnyH_take (i := 8) (v := ?v8x7) (List.getElem?_toArray.trans rfl) (by kernel_rfl) (by kernel_rfl) (by kernel_rfl) (fun _ _ _ h => h) (Or.inl ⟨by rfl, ?hy8x7⟩) (by assumption) ?rest8x7
            case hy8x7 => (intro W hSw; go_simp <;> (with_reducible rfl))
            simp only [Act.put, List.setIfInBounds_toArray, List.set_cons_zero, List.set_cons_succ]
            refine wpAnyH_done (by kernel_rfl) ?_ _
            go_wp2_with fail
            all_goals
              rename_i hJ
              refine Met.intro (hJ _ _ ?_)
              repeat apply Exists.intro
              refine ⟨⟨_, _, _, _, rfl, rr_start grow rest extra signs fr v4 v5 v6 v7 v8 v9 s w _ _ _ _ _ _ ?_ (PB.bel (l := [.int .i64 grow, .int .i64 rest, .int .i64 extra, .int .i64 signs, v4, v5, v6, v7, v8, v9]) (by repeat first | exact P0.out | refine PB.alloc ?_ _ | refine PB.bytes ?_ _ | refine PB.drew ?_)) ?_ ?_ ?_ ?_ ?_ ?_ ?_ ?_ ?_, (by repeat first | exact P0.out | refine PB.alloc ?_ _ | refine PB.bytes ?_ _ | refine PB.drew ?_)⟩, rfl⟩
              · first | rfl | (simp; done) | (simp [Lib.bytesWorld_size]; done)
              · first | exact hwz | omega | (simp; done) | (simp; omega) | (simp [Lib.bytesWorld_size]; done) | (simp [Lib.bytesWorld_size]; omega)
              · first | exact hwz | omega | (simp; done) | (simp; omega) | (simp [Lib.bytesWorld_size]; done) | (simp [Lib.bytesWorld_size]; omega)
              · first | exact hwz | omega | (simp; done) | (simp; omega) | (simp [Lib.bytesWorld_size]; done) | (simp [Lib.bytesWorld_size]; omega)
              · first | exact hwz | omega | (simp; done) | (simp; omega) | (simp [Lib.bytesWorld_size]; done) | (simp [Lib.bytesWorld_size]; omega)
              · first | exact hwz | omega | (simp; done) | (simp; omega) | (simp [Lib.bytesWorld_size]; done) | (simp [Lib.bytesWorld_size]; omega)
              · first | exact hwz | omega | (simp; done) | (simp; omega) | (simp [Lib.bytesWorld_size]; done) | (simp [Lib.bytesWorld_size]; omega)
              · repeat first | exact newA _ _ (by first | rfl | (simp; done) | (simp [Lib.bytesWorld_size]; done)) | refine Blk.alloc ?_ _ | refine Blk.bytes ?_ _ | refine Blk.drew1 ?_
              · repeat first | exact newB _ _ (by first | rfl | (simp; done) | (simp [Lib.bytesWorld_size]; done)) | refine Blk.alloc ?_ _ | refine Blk.bytes ?_ _ | refine Blk.drew1 ?_
              · repeat first | exact newC _ _ _ (by first | rfl | (simp; done) | (simp [Lib.bytesWorld_size]; done)) | refine BytesIn.alloc ?_ _ | refine BytesIn.drew ?_
      · go_simp
        refine hK.out _ _ (PB.alloc (by assumption) _) (fun hHeld9 => ?_)
        clear hK K
        refine wpAnyH_ready (rs := [1, 4]) (by kernel_rfl) (by simp) ?_
        refine AllReadyH.cons (List.getElem?_toArray.trans rfl) (fun K hK => ?_) (AllReadyH.cons (List.getElem?_toArray.trans rfl) (fun K hK => ?_) (AllReadyH.nil))
        · go_simp
          refine hK.out _ _ (PB.alloc (by assumption) _) (fun hHeld10 => ?_)
          clear hK K
          refine wpAnyH_ready (rs := [4]) (by kernel_rfl) (by simp) ?_
          refine AllReadyH.cons (List.getElem?_toArray.trans rfl) (fun K hK => ?_) (AllReadyH.nil)
          · go_simp
            refine hK.out _ _ (PB.bytes (by assumption) _) (fun hHeld11 => ?_)
            clear hK K
            refine wpAnyH_take (i := 6) (v := ?v6x8) (List.getElem?_toArray.trans rfl) (by kernel_rfl) (by kernel_rfl) (by kernel_rfl) (fun _ _ _ h => h) (Or.inl ⟨by rfl, ?hy6x8⟩) (by assumption) ?rest6x8
            case hy6x8 => (intro W hSw; go_simp <;> (with_reducible rfl))
            simp only [Act.put, List.setIfInBounds_toArray, List.set_cons_zero, List.set_cons_succ]
            refine wpAnyH_ready (rs := [7]) (by kernel_rfl) (by simp) ?_
            refine AllReadyH.cons (List.getElem?_toArray.trans rfl) (fun K hK => ?_) AllReadyH.nil
            go_simp
            refine hK.out _ _ (PB.alloc (by assumption) _) (fun hHeld12 => ?_)
            clear hK K
            refine wpAnyH_take (i := 8) (v := ?v8x9) (List.getElem?_toArray.trans rfl) (by kernel_rfl) (by kernel_rfl) (by kernel_rfl) (fun _ _ _ h => h) (Or.inl ⟨by rfl, ?hy8x9⟩) (by assumption) ?rest8x9
            case hy8x9 => (intro W hSw; go_simp <;> (with_reducible rfl))
            simp only [Act.put, List.setIfInBounds_toArray, List.set_cons_zero, List.set_cons_succ]
            refine wpAnyH_done (by kernel_rfl) ?_ _
            go_wp2_with fail
            all_goals
              rename_i hJ
              refine Met.intro (hJ _ _ ?_)
              repeat apply Exists.intro
              refine ⟨⟨_, _, _, _, rfl, rr_start grow rest extra signs fr v4 v5 v6 v7 v8 v9 s w _ _ _ _ _ _ ?_ (PB.bel (l := [.int .i64 grow, .int .i64 rest, .int .i64 extra, .int .i64 signs, v4, v5, v6, v7, v8, v9]) (by repeat first | exact P0.out | refine PB.alloc ?_ _ | refine PB.bytes ?_ _ | refine PB.drew ?_)) ?_ ?_ ?_ ?_ ?_ ?_ ?_ ?_ ?_, (by repeat first | exact P0.out | refine PB.alloc ?_ _ | refine PB.bytes ?_ _ | refine PB.drew ?_)⟩, rfl⟩
              · first | rfl | (simp; done) | (simp [Lib.bytesWorld_size]; done)
              · first | exact hwz | omega | (simp; done) | (simp; omega) | (simp [Lib.bytesWorld_size]; done) | (simp [Lib.bytesWorld_size]; omega)
              · first | exact hwz | omega | (simp; done) | (simp; omega) | (simp [Lib.bytesWorld_size]; done) | (simp [Lib.bytesWorld_size]; omega)
              · first | exact hwz | omega | (simp; done) | (simp; omega) | (simp [Lib.bytesWorld_size]; done) | (simp [Lib.bytesWorld_size]; omega)
              · first | exact hwz | omega | (simp; done) | (simp; omega) | (simp [Lib.bytesWorld_size]; done) | (simp [Lib.bytesWorld_size]; omega)
              · first | exact hwz | omega | (simp; done) | (simp; omega) | (simp [Lib.bytesWorld_size]; done) | (simp [Lib.bytesWorld_size]; omega)
              · first | exact hwz | omega | (simp; done) | (simp; omega) | (simp [Lib.bytesWorld_size]; done) | (simp [Lib.bytesWorld_size]; omega)
              · repeat first | exact newA _ _ (by first | rfl | (simp; done) | (simp [Lib.bytesWorld_size]; done)) | refine Blk.alloc ?_ _ | refine Blk.bytes ?_ _ | refine Blk.drew1 ?_
              · repeat first | exact newB _ _ (by first | rfl | (simp; done) | (simp [Lib.bytesWorld_size]; done)) | refine Blk.alloc ?_ _ | refine Blk.bytes ?_ _ | refine Blk.drew1 ?_
              · repeat first | exact newC _ _ _ (by first | rfl | (simp; done) | (simp [Lib.bytesWorld_size]; done)) | refine BytesIn.alloc ?_ _ | refine BytesIn.drew ?_
        · go_simp
          refine hK.out _ _ (PB.bytes (by assumption) _) (fun hHeld13 => ?_)
          clear hK K
          refine wpAnyH_ready (rs := [1]) (by kernel_rfl) (by simp) ?_
          refine AllReadyH.cons (List.getElem?_toArray.trans rfl) (fun K hK => ?_) (AllReadyH.nil)
          · go_simp
            refine hK.out _ _ (PB.alloc (by assumption) _) (fun hHeld14 => ?_)
            clear hK K
            refine wpAnyH_take (i := 6) (v := ?v6x10) (List.getElem?_toArray.trans rfl) (by kernel_rfl) (by kernel_rfl) (by kernel_rfl) (fun _ _ _ h => h) (Or.inl ⟨by rfl, ?hy6x10⟩) (by assumption) ?rest6x10
            case hy6x10 => (intro W hSw; go_simp <;> (with_reducible rfl))
            simp only [Act.put, List.setIfInBounds_toArray, List.set_cons_zero, List.set_cons_succ]
            refine wpAnyH_ready (rs := [7]) (by kernel_rfl) (by simp) ?_
            refine AllReadyH.cons (List.getElem?_toArray.trans rfl) (fun K hK => ?_) AllReadyH.nil
            go_simp
            refine hK.out _ _ (PB.alloc (by assumption) _) (fun hHeld15 => ?_)
            clear hK K
            refine wpAnyH_take (i := 8) (v := ?v8x11) (List.getElem?_toArray.trans rfl) (by kernel_rfl) (by kernel_rfl) (by kernel_rfl) (fun _ _ _ h => h) (Or.inl ⟨by rfl, ?hy8x11⟩) (by assumption) ?rest8x11
            case hy8x11 => (intro W hSw; go_simp <;> (with_reducible rfl))
            simp only [Act.put, List.setIfInBounds_toArray, List.set_cons_zero, List.set_cons_succ]
            refine wpAnyH_done (by kernel_rfl) ?_ _
            go_wp2_with fail
            all_goals
              rename_i hJ
              refine Met.intro (hJ _ _ ?_)
              repeat apply Exists.intro
              refine ⟨⟨_, _, _, _, rfl, rr_start grow rest extra signs fr v4 v5 v6 v7 v8 v9 s w _ _ _ _ _ _ ?_ (PB.bel (l := [.int .i64 grow, .int .i64 rest, .int .i64 extra, .int .i64 signs, v4, v5, v6, v7, v8, v9]) (by repeat first | exact P0.out | refine PB.alloc ?_ _ | refine PB.bytes ?_ _ | refine PB.drew ?_)) ?_ ?_ ?_ ?_ ?_ ?_ ?_ ?_ ?_, (by repeat first | exact P0.out | refine PB.alloc ?_ _ | refine PB.bytes ?_ _ | refine PB.drew ?_)⟩, rfl⟩
              · first | rfl | (simp; done) | (simp [Lib.bytesWorld_size]; done)
              · first | exact hwz | omega | (simp; done) | (simp; omega) | (simp [Lib.bytesWorld_size]; done) | (simp [Lib.bytesWorld_size]; omega)
              · first | exact hwz | omega | (simp; done) | (simp; omega) | (simp [Lib.bytesWorld_size]; done) | (simp [Lib.bytesWorld_size]; omega)
              · first | exact hwz | omega | (simp; done) | (simp; omega) | (simp [Lib.bytesWorld_size]; done) | (simp [Lib.bytesWorld_size]; omega)
              · first | exact hwz | omega | (simp; done) | (simp; omega) | (simp [Lib.bytesWorld_size]; done) | (simp [Lib.bytesWorld_size]; omega)
              · first | exact hwz | omega | (simp; done) | (simp; omega) | (simp [Lib.bytesWorld_size]; done) | (simp [Lib.bytesWorld_size]; omega)
              · first | exact hwz | omega | (simp; done) | (simp; omega) | (simp [Lib.bytesWorld_size]; done) | (simp [Lib.bytesWorld_size]; omega)
              · repeat first | exact newA _ _ (by first | rfl | (simp; done) | (simp [Lib.bytesWorld_size]; done)) | refine Blk.alloc ?_ _ | refine Blk.bytes ?_ _ | refine Blk.drew1 ?_
              · repeat first | exact newB _ _ (by first | rfl | (simp; done) | (simp [Lib.bytesWorld_size]; done)) | refine Blk.alloc ?_ _ | refine Blk.bytes ?_ _ | refine Blk.drew1 ?_
              · repeat first | exact newC _ _ _ (by first | rfl | (simp; done) | (simp [Lib.bytesWorld_size]; done)) | refine BytesIn.alloc ?_ _ | refine BytesIn.drew ?_
      · go_simp
        refine hK.out _ _ (PB.bytes (by assumption) _) (fun hHeld16 => ?_)
        clear hK K
        refine wpAnyH_ready (rs := [1, 2]) (by kernel_rfl) (by simp) ?_
        refine AllReadyH.cons (List.getElem?_toArray.trans rfl) (fun K hK => ?_) (AllReadyH.cons (List.getElem?_toArray.trans rfl) (fun K hK => ?_) (AllReadyH.nil))
        · go_simp
          refine hK.out _ _ (PB.alloc (by assumption) _) (fun hHeld17 => ?_)
          clear hK K
          refine wpAnyH_ready (rs := [2]) (by kernel_rfl) (by simp) ?_
          refine AllReadyH.cons (List.getElem?_toArray.trans rfl) (fun K hK => ?_) (AllReadyH.nil)
          · go_simp
            refine hK.out _ _ (PB.alloc (by assumption) _) (fun hHeld18 => ?_)
            clear hK K
            refine wpAnyH_take (i := 6) (v := ?v6x12) (List.getElem?_toArray.trans rfl) (by kernel_rfl) (by kernel_rfl) (by kernel_rfl) (fun _ _ _ h => h) (Or.inl ⟨by rfl, ?hy6x12⟩) (by assumption) ?rest6x12
            case hy6x12 => (intro W hSw; go_simp <;> (with_reducible rfl))
            simp only [Act.put, List.setIfInBounds_toArray, List.set_cons_zero, List.set_cons_succ]
            refine wpAnyH_ready (rs := [7]) (by kernel_rfl) (by simp) ?_
            refine AllReadyH.cons (List.getElem?_toArray.trans rfl) (fun K hK => ?_) AllReadyH.nil
            go_simp
            refine hK.out _ _ (PB.alloc (by assumption) _) (fun hHeld19 => ?_)
            clear hK K
            refine wpAnyH_take (i := 8) (v := ?v8x13) (List.getElem?_toArray.trans rfl) (by kernel_rfl) (by kernel_rfl) (by kernel_rfl) (fun _ _ _ h => h) (Or.inl ⟨by rfl, ?hy8x13⟩) (by assumption) ?rest8x13
            case hy8x13 => (intro W hSw; go_simp <;> (with_reducible rfl))
            simp only [Act.put, List.setIfInBounds_toArray, List.set_cons_zero, List.set_cons_succ]
            refine wpAnyH_done (by kernel_rfl) ?_ _
            go_wp2_with fail
            all_goals
              rename_i hJ
              refine Met.intro (hJ _ _ ?_)
              repeat apply Exists.intro
              refine ⟨⟨_, _, _, _, rfl, rr_start grow rest extra signs fr v4 v5 v6 v7 v8 v9 s w _ _ _ _ _ _ ?_ (PB.bel (l := [.int .i64 grow, .int .i64 rest, .int .i64 extra, .int .i64 signs, v4, v5, v6, v7, v8, v9]) (by repeat first | exact P0.out | refine PB.alloc ?_ _ | refine PB.bytes ?_ _ | refine PB.drew ?_)) ?_ ?_ ?_ ?_ ?_ ?_ ?_ ?_ ?_, (by repeat first | exact P0.out | refine PB.alloc ?_ _ | refine PB.bytes ?_ _ | refine PB.drew ?_)⟩, rfl⟩
              · first | rfl | (simp; done) | (simp [Lib.bytesWorld_size]; done)
              · first | exact hwz | omega | (simp; done) | (simp; omega) | (simp [Lib.bytesWorld_size]; done) | (simp [Lib.bytesWorld_size]; omega)
              · first | exact hwz | omega | (simp; done) | (simp; omega) | (simp [Lib.bytesWorld_size]; done) | (simp [Lib.bytesWorld_size]; omega)
              · first | exact hwz | omega | (simp; done) | (simp; omega) | (simp [Lib.bytesWorld_size]; done) | (simp [Lib.bytesWorld_size]; omega)
              · first | exact hwz | omega | (simp; done) | (simp; omega) | (simp [Lib.bytesWorld_size]; done) | (simp [Lib.bytesWorld_size]; omega)
              · first | exact hwz | omega | (simp; done) | (simp; omega) | (simp [Lib.bytesWorld_size]; done) | (simp [Lib.bytesWorld_size]; omega)
              · first | exact hwz | omega | (simp; done) | (simp; omega) | (simp [Lib.bytesWorld_size]; done) | (simp [Lib.bytesWorld_size]; omega)
              · repeat first | exact newA _ _ (by first | rfl | (simp; done) | (simp [Lib.bytesWorld_size]; done)) | refine Blk.alloc ?_ _ | refine Blk.bytes ?_ _ | refine Blk.drew1 ?_
              · repeat first | exact newB _ _ (by first | rfl | (simp; done) | (simp [Lib.bytesWorld_size]; done)) | refine Blk.alloc ?_ _ | refine Blk.bytes ?_ _ | refine Blk.drew1 ?_
              · repeat first | exact newC _ _ _ (by first | rfl | (simp; done) | (simp [Lib.bytesWorld_size]; done)) | refine BytesIn.alloc ?_ _ | refine BytesIn.drew ?_
        · go_simp
          refine hK.out _ _ (PB.alloc (by assumption) _) (fun hHeld20 => ?_)
          clear hK K
          refine wpAnyH_ready (rs := [1]) (by kernel_rfl) (by simp) ?_
          refine AllReadyH.cons (List.getElem?_toArray.trans rfl) (fun K hK => ?_) (AllReadyH.nil)
          · go_simp
            refine hK.out _ _ (PB.alloc (by assumption) _) (fun hHeld21 => ?_)
            clear hK K
            refine wpAnyH_take (i := 6) (v := ?v6x14) (List.getElem?_toArray.trans rfl) (by kernel_rfl) (by kernel_rfl) (by kernel_rfl) (fun _ _ _ h => h) (Or.inl ⟨by rfl, ?hy6x14⟩) (by assumption) ?rest6x14
            case hy6x14 => (intro W hSw; go_simp <;> (with_reducible rfl))
            simp only [Act.put, List.setIfInBounds_toArray, List.set_cons_zero, List.set_cons_succ]
            refine wpAnyH_ready (rs := [7]) (by kernel_rfl) (by simp) ?_
            refine AllReadyH.cons (List.getElem?_toArray.trans rfl) (fun K hK => ?_) AllReadyH.nil
            go_simp
            refine hK.out _ _ (PB.alloc (by assumption) _) (fun hHeld22 => ?_)
            clear hK K
            refine wpAnyH_take (i := 8) (v := ?v8x15) (List.getElem?_toArray.trans rfl) (by kernel_rfl) (by kernel_rfl) (by kernel_rfl) (fun _ _ _ h => h) (Or.inl ⟨by rfl, ?hy8x15⟩) (by assumption) ?rest8x15
            case hy8x15 => (intro W hSw; go_simp <;> (with_reducible rfl))
            simp only [Act.put, List.setIfInBounds_toArray, List.set_cons_zero, List.set_cons_succ]
            refine wpAnyH_done (by kernel_rfl) ?_ _
            go_wp2_with fail
            all_goals
              rename_i hJ
              refine Met.intro (hJ _ _ ?_)
              repeat apply Exists.intro
              refine ⟨⟨_, _, _, _, rfl, rr_start grow rest extra signs fr v4 v5 v6 v7 v8 v9 s w _ _ _ _ _ _ ?_ (PB.bel (l := [.int .i64 grow, .int .i64 rest, .int .i64 extra, .int .i64 signs, v4, v5, v6, v7, v8, v9]) (by repeat first | exact P0.out | refine PB.alloc ?_ _ | refine PB.bytes ?_ _ | refine PB.drew ?_)) ?_ ?_ ?_ ?_ ?_ ?_ ?_ ?_ ?_, (by repeat first | exact P0.out | refine PB.alloc ?_ _ | refine PB.bytes ?_ _ | refine PB.drew ?_)⟩, rfl⟩
              · first | rfl | (simp; done) | (simp [Lib.bytesWorld_size]; done)
              · first | exact hwz | omega | (simp; done) | (simp; omega) | (simp [Lib.bytesWorld_size]; done) | (simp [Lib.bytesWorld_size]; omega)
              · first | exact hwz | omega | (simp; done) | (simp; omega) | (simp [Lib.bytesWorld_size]; done) | (simp [Lib.bytesWorld_size]; omega)
              · first | exact hwz | omega | (simp; done) | (simp; omega) | (simp [Lib.bytesWorld_size]; done) | (simp [Lib.bytesWorld_size]; omega)
              · first | exact hwz | omega | (simp; done) | (simp; omega) | (simp [Lib.bytesWorld_size]; done) | (simp [Lib.bytesWorld_size]; omega)
              · first | exact hwz | omega | (simp; done) | (simp; omega) | (simp [Lib.bytesWorld_size]; done) | (simp [Lib.bytesWorld_size]; omega)
              · first | exact hwz | omega | (simp; done) | (simp; omega) | (simp [Lib.bytesWorld_size]; done) | (simp [Lib.bytesWorld_size]; omega)
              · repeat first | exact newA _ _ (by first | rfl | (simp; done) | (simp [Lib.bytesWorld_size]; done)) | refine Blk.alloc ?_ _ | refine Blk.bytes ?_ _ | refine Blk.drew1 ?_
              · repeat first | exact newB _ _ (by first | rfl | (simp; done) | (simp [Lib.bytesWorld_size]; done)) | refine Blk.alloc ?_ _ | refine Blk.bytes ?_ _ | refine Blk.drew1 ?_
              · repeat first | exact newC _ _ _ (by first | rfl | (simp; done) | (simp [Lib.bytesWorld_size]; done)) | refine BytesIn.alloc ?_ _ | refine BytesIn.drew ?_
    case rest =>
      obtain ⟨g, gr, gk, vs, rfl, hR, hP⟩ := hcut
      have hne : g ≠ w.heap.size := fun e => by
        have h1 := hR.box
        have h2 := hP.blk
        rw [e] at h1
        unfold Blk at h1 h2
        rw [h1] at h2
        simp at h2
      have HB1 := Lib.hid (fun W => rbound_any grow W)
      have HB2 := Lib.hid (fun W => rbound_any rest W)
      have HB3 := Lib.hid (fun W => rbound_any extra W)
      have hq0 : ∀ W, PB w [.int .i64 grow, .int .i64 rest, .int .i64 extra, .int .i64 signs, v4, v5, v6, v7, v8, v9] W → W.cell? ⟨w.heap.size, 0, none⟩ = some (.int .i64 grow) := fun W h => h.blk.cell 0
      have hq1 : ∀ W, PB w [.int .i64 grow, .int .i64 rest, .int .i64 extra, .int .i64 signs, v4, v5, v6, v7, v8, v9] W → W.cell? ⟨w.heap.size, 1, none⟩ = some (.int .i64 rest) := fun W h => h.blk.cell 1
      have hq2 : ∀ W, PB w [.int .i64 grow, .int .i64 rest, .int .i64 extra, .int .i64 signs, v4, v5, v6, v7, v8, v9] W → W.cell? ⟨w.heap.size, 2, none⟩ = some (.int .i64 extra) := fun W h => h.blk.cell 2
      have b1 := boundF_lo grow
      have b2 := boundF_hi grow
      have b3 := boundF_lo rest
      have b4 := boundF_hi rest
      have b5 := boundF_lo extra
      have b6 := boundF_hi extra
      obtain ⟨x1, hx1⟩ : ∃ x1, x1 = boundF grow := ⟨_, rfl⟩
      obtain ⟨x2, hx2⟩ : ∃ x2, x2 = boundF rest := ⟨_, rfl⟩
      obtain ⟨x3, hx3⟩ : ∃ x3, x3 = boundF extra := ⟨_, rfl⟩
      rw [← hx1] at b1 b2 HB1
      rw [← hx2] at b3 b4 HB2
      rw [← hx3] at b5 b6 HB3
      obtain ⟨ls, hls⟩ : ∃ ls : Nat, ls = s.size := ⟨_, rfl⟩
      have hp1 : 0 ≤ x1 * (ls : Int) := Int.mul_nonneg b1 (by omega)
      have hp2 : x1 * (ls : Int) ≤ 1048576 * 4096 := Int.mul_le_mul b2 (by omega) (by omega) (by omega)
      rw [hls] at hp1 hp2
      have HX := Lib.hid (And.intro hx1 (And.intro hx2 hx3))
      have hfz : wc.frozen? ⟨g, 18, none⟩ = false := hR.box.frozen 18
      have hcl : wc.cell? ⟨g, 18, none⟩ = some (.int .i64 0) := hR.cells.room
      have R1 := Lib.hid hR
      clear hx1 hx2 hx3 hls hld hq hR hcv hmk
      go_wp2_with fail
      refine wp_region_held_drew (S := fun W' => PB w [.int .i64 grow, .int .i64 rest, .int .i64 extra, .int .i64 signs, v4, v5, v6, v7, v8, v9] W') (by kernel_rfl) hP.drew (fun hHeld => ?_)
      refine wpAnyH_take (i := 0) (v := ?v0x16) (List.getElem?_toArray.trans rfl) (by kernel_rfl) (by kernel_rfl) (by kernel_rfl) (fun _ _ _ h => h) (Or.inl ⟨by rfl, ?hy0x16⟩) (by assumption) ?rest0x16
      case hy0x16 => (intro W hSw; go_simp <;> (with_reducible rfl))
      simp only [Act.put, List.setIfInBounds_toArray, List.set_cons_zero, List.set_cons_succ]
      refine wpAnyH_take (i := 1) (v := ?v1x17) (List.getElem?_toArray.trans rfl) (by kernel_rfl) (by kernel_rfl) (by kernel_rfl) (fun _ _ _ h => h) (Or.inl ⟨by rfl, ?hy1x17⟩) (by assumption) ?rest1x17
      case hy1x17 => (intro W hSw; go_simp <;> (with_reducible rfl))
      simp only [Act.put, List.setIfInBounds_toArray, List.set_cons_zero, List.set_cons_succ]
      refine wpAnyH_take (i := 2) (v := ?v2x18) (List.getElem?_toArray.trans rfl) (by kernel_rfl) (by kernel_rfl) (by kernel_rfl) (fun _ _ _ h => h) (Or.inl ⟨by rfl, ?hy2x18⟩) (by assumption) ?rest2x18
      case hy2x18 => (intro W hSw; go_simp <;> (with_reducible rfl))
      simp only [Act.put, List.setIfInBounds_toArray, List.set_cons_zero, List.set_cons_succ]
      refine wpAnyH_take_call 3 (.int .i64 x1) (List.getElem?_toArray.trans rfl) (by kernel_rfl) (by kernel_rfl) (by kernel_rfl) (by kernel_rfl) (by kernel_rfl) (fun _ _ _ h => h) ⟨by rfl, fun W hSw => ⟨21, _, (by kernel_rfl), HB1.out W⟩⟩ (by assumption) ?_
      simp only [Act.put, List.setIfInBounds_toArray, List.set_cons_zero, List.set_cons_succ]
      refine wpAnyH_take (i := 4) (v := ?v4x19) (List.getElem?_toArray.trans rfl) (by kernel_rfl) (by kernel_rfl) (by kernel_rfl) (fun _ _ _ h => h) (Or.inl ⟨by rfl, ?hy4x19⟩) (by assumption) ?rest4x19
      case hy4x19 => (intro W hSw; go_simp <;> (with_reducible rfl))
      simp only [Act.put, List.setIfInBounds_toArray, List.set_cons_zero, List.set_cons_succ]
      refine wpAnyH_take (i := 5) (v := ?v5x20) (List.getElem?_toArray.trans rfl) (by kernel_rfl) (by kernel_rfl) (by kernel_rfl) (fun _ _ _ h => h) (Or.inl ⟨by rfl, ?hy5x20⟩) (by assumption) ?rest5x20
      case hy5x20 => (intro W hSw; go_simp <;> (with_reducible rfl))
      simp only [Act.put, List.setIfInBounds_toArray, List.set_cons_zero, List.set_cons_succ]
      refine wpAnyH_take (i := 6) (v := ?v6x21) (List.getElem?_toArray.trans rfl) (by kernel_rfl) (by kernel_rfl) (by kernel_rfl) (fun _ _ _ h => h) (Or.inl ⟨by rfl, ?hy6x21⟩) (by assumption) ?rest6x21
      case hy6x21 => (intro W hSw; go_simp <;> (with_reducible rfl))
      simp only [Act.put, List.setIfInBounds_toArray, List.set_cons_zero, List.set_cons_succ]
      refine wpAnyH_take (i := 7) (v := ?v7x22) (List.getElem?_toArray.trans rfl) (by kernel_rfl) (by kernel_rfl) (by kernel_rfl) (fun _ _ _ h => h) (Or.inl ⟨by rfl, ?hy7x22⟩) (by assumption) ?rest7x22
      case hy7x22 => (intro W hSw; go_simp <;> (with_reducible rfl))
      simp only [Act.put, List.setIfInBounds_toArray, List.set_cons_zero, List.set_cons_succ]
      refine wpAnyH_take (i := 8) (v := ?v8x23) (List.getElem?_toArray.trans rfl) (by kernel_rfl) (by kernel_rfl) (by kernel_rfl) (fun _ _ _ h => h) (Or.inl ⟨by rfl, ?hy8x23⟩) (by assumption) ?rest8x23
      case hy8x23 => (intro W hSw; go_simp <;> (with_reducible rfl))
      simp only [Act.put, List.setIfInBounds_toArray, List.set_cons_zero, List.set_cons_succ]
      refine wpAnyH_take_call 9 (.int .i64 x2) (List.getElem?_toArray.trans rfl) (by kernel_rfl) (by kernel_rfl) (by kernel_rfl) (by kernel_rfl) (by kernel_rfl) (fun _ _ _ h => h) ⟨by rfl, fun W hSw => ⟨21, _, (by kernel_rfl), HB2.out W⟩⟩ (by assumption) ?_
      simp only [Act.put, List.setIfInBounds_toArray, List.set_cons_zero, List.set_cons_succ]
      refine wpAnyH_take (i := 10) (v := ?v10x24) (List.getElem?_toArray.trans rfl) (by kernel_rfl) (by kernel_rfl) (by kernel_rfl) (fun _ _ _ h => h) (Or.inl ⟨by rfl, ?hy10x24⟩) (by assumption) ?rest10x24
      case hy10x24 => (intro W hSw; go_simp <;> (with_reducible rfl))
      simp only [Act.put, List.setIfInBounds_toArray, List.set_cons_zero, List.set_cons_succ]
      refine wpAnyH_take (i := 11) (v := ?v11x25) (List.getElem?_toArray.trans rfl) (by kernel_rfl) (by kernel_rfl) (by kernel_rfl) (fun _ _ _ h => h) (Or.inl ⟨by rfl, ?hy11x25⟩) (by assumption) ?rest11x25
      case hy11x25 => (intro W hSw; go_simp <;> (with_reducible rfl))
      simp only [Act.put, List.setIfInBounds_toArray, List.set_cons_zero, List.set_cons_succ]
      refine wpAnyH_take (i := 12) (v := ?v12x26) (List.getElem?_toArray.trans rfl) (by kernel_rfl) (by kernel_rfl) (by kernel_rfl) (fun _ _ _ h => h) (Or.inl ⟨by rfl, ?hy12x26⟩) (by assumption) ?rest12x26
      case hy12x26 => (intro W hSw; go_simp <;> (with_reducible rfl))
      simp only [Act.put, List.setIfInBounds_toArray, List.set_cons_zero, List.set_cons_succ]
      refine wpAnyH_take_call 13 (.int .i64 x3) (List.getElem?_toArray.trans rfl) (by kernel_rfl) (by kernel_rfl) (by kernel_rfl) (by kernel_rfl) (by kernel_rfl) (fun _ _ _ h => h) ⟨by rfl, fun W hSw => ⟨21, _, (by kernel_rfl), HB3.out W⟩⟩ (by assumption) ?_
      simp only [Act.put, List.setIfInBounds_toArray, List.set_cons_zero, List.set_cons_succ]
      refine wpAnyH_take (i := 14) (v := ?v14x27) (List.getElem?_toArray.trans rfl) (by kernel_rfl) (by kernel_rfl) (by kernel_rfl) (fun _ _ _ h => h) (Or.inl ⟨by rfl, ?hy14x27⟩) (by assumption) ?rest14x27
      case hy14x27 => (intro W hSw; go_simp <;> (with_reducible rfl))
      simp only [Act.put, List.setIfInBounds_toArray, List.set_cons_zero, List.set_cons_succ]
      refine wpAnyH_take (i := 15) (v := ?v15x28) (List.getElem?_toArray.trans rfl) (by kernel_rfl) (by kernel_rfl) (by kernel_rfl) (fun _ _ _ h => h) (Or.inl ⟨by rfl, ?hy15x28⟩) (by assumption) ?rest15x28
      case hy15x28 => (intro W hSw; go_simp <;> (with_reducible rfl))
      simp only [Act.put, List.setIfInBounds_toArray, List.set_cons_zero, List.set_cons_succ]
      refine wpAnyH_take (i := 16) (v := ?v16x29) (List.getElem?_toArray.trans rfl) (by kernel_rfl) (by kernel_rfl) (by kernel_rfl) (fun _ _ _ h => h) (Or.inl ⟨by rfl, ?hy16x29⟩) (by assumption) ?rest16x29
      case hy16x29 => (intro W hSw; go_simp <;> (with_reducible rfl))
      simp only [Act.put, List.setIfInBounds_toArray, List.set_cons_zero, List.set_cons_succ]
      have hroom : IntKind.i64.wrap (IntKind.i64.wrap (IntKind.i64.wrap (x1 * (s.size : Int)) + x2) + x3) = roomF grow rest extra s.size := by
        rw [IntWalk.i64_in (x1 * (s.size : Int)) ⟨by omega, by omega⟩, IntWalk.i64_in (x1 * (s.size : Int) + x2) ⟨by omega, by omega⟩, IntWalk.i64_in (x1 * (s.size : Int) + x2 + x3) ⟨by omega, by omega⟩]
        unfold roomF
        rw [HX.out.1, HX.out.2.1, HX.out.2.2]
      rw [hroom]
      obtain ⟨room, hrm⟩ : ∃ room, room = roomF grow rest extra s.size := ⟨_, rfl⟩
      rw [← hrm] at HH ⊢
      clear hrm hroom
      refine wpAnyH_ready (rs := [17]) (by kernel_rfl) (by simp) ?_
      refine AllReadyH.cons (List.getElem?_toArray.trans rfl) (fun K hK => ?_) AllReadyH.nil
      go_simp
      refine hK.out _ _ (PB.drew (PB.set hP hne _ _ R1.out.gB)) (fun hHeld => ?_)
      clear hK K
      refine wpAnyH_done (by kernel_rfl) ?_ _
      have HX9 := Lib.hid ((R1.out.setRoom room).drewN 1)
      clear hHeld hp1 hp2 b1 b2 b3 b4 b5 b6 hcl hfz hq0 hq1 hq2 hne hP
      go_wp2_with fail
      go_loopw [10] (fun _ wr => ∃ (t : St) (gk : Nat) (vs vp vg vt : Value), RR w.heap.size g gr gk w wr [.int .i64 grow, .int .i64 rest, .int .i64 extra, .int .i64 signs, v4, v5, v6, v7, v8, v9] room fr t vs vp vg vt ∧ Inv t ∧ (∀ t' c, Ends stp t t' c → Ends stp (st0 s.data.toList) t' c)) (fun _ wr => fr.toNat - usedR g wr)
      case atStart => exact ⟨_, _, _, _, _, _, HX9.out, HH.out.1, fun t' c h => h⟩
      case round =>
        obtain ⟨t, gk, vs, vp, vg, vt, hX, hI, hE⟩ := hrel
        obtain ⟨w2, rfl⟩ : ∃ w2 : World, w2 = wr := ⟨_, rfl⟩
        have X2 := Lib.hid hX
        have I2 := Lib.hid hI
        have E2 := Lib.hid hE
        have M2 := Lib.hid (usedR_eq hX)
        clear hX hI hE HX9
        obtain ⟨t3, o3⟩ : ∃ r, r = stp t := ⟨_, rfl⟩
        go_wp2_with fail
        refine (HH.out.2.1 g gr gk w2 t vs vp vg vt X2.out I2.out).mono ?_
        rw [← o3]
        rintro e w3 ⟨rfl, gk3, vs3, vp3, vg3, vt3, hX3⟩
        have X3 := Lib.hid hX3
        clear hX3
        obtain ⟨t4, o4⟩ := t3
        have hv := X3.out.cells.vt
        have hu := X3.out.cells.used
        obtain ⟨A5, c5, hvt⟩ := own_sl X3.out.told
        cases o4 with
        | none =>
          have hin := HH.out.2.2 t I2.out (by rw [← o3])
          rw [← o3] at hin
          have HIN := Lib.hid hin
          have HO := Lib.hid o3
          have hei : endI none = -1 := rfl
          clear hin o3 hv hu hvt
          go_wp2_with fail
          go_roundw
          case rel =>
            exact ⟨t4, gk3, vs3, vp3, vg3, vt3, X3.out, HIN.out.1, fun t' c h => E2.out t' c (.more HO.out.symm h)⟩
          case measure =>
            rw [M2.out, usedR_eq X3.out]
            have h1 := HIN.out.2.1
            have h2 := HIN.out.2.2
            omega
        | some c =>
          have HO := Lib.hid (E2.out t4 c (.last o3.symm))
          have hei : endI (some c) = (c : Int) := rfl
          clear o3
          by_cases hc : c = 0
          · subst hc
            go_wp2_with fail
            go_quiet (fail)
            go_wp2_with fail
            go_returns
            have X4 := X3.out.drewN nq
            have hb4 := X4.below
            have ht4 := X4.told
            rw [hvt] at ht4
            exact ⟨hb4, t4, 0, HO.out, _, rfl, .inl ⟨rfl, A5, c5, rfl, own_ints ht4⟩⟩
          · have hcb : ((c : Int) == 0) = false := by simp; omega
            have hcp : decide ((0 : Int) < (c : Int)) = true := by simp; omega
            go_wp2_with fail
            go_quiet (fail)
            go_wp2_with fail
            go_returns
            exact ⟨(X3.out.drewN nq).below, t4, c, HO.out, _, rfl, .inr ⟨hc, rfl⟩⟩
end Go.Proofs.Ytgejpggbmgiocaa
