/- RD8 of this seat, in one text. -/
import Derived.Test.YtgejpggbmgiocaaM25
import Derived.Test.YtgejpggbmgiocaaM17
import Derived.Test.YtgejpggbmgiocaaM24
/- The reference's instructions: Join. -/
namespace Go.Proofs.Ytgejpggbmgiocaa
open Go.RowKit
theorem RR.noSigns {B g gr gk : Nat} {w0 W : World} {prg : List Value} {room fuel : Int} {s : St} {vs vp vg vt : Value} (h : RR B g gr gk w0 W prg room fuel s vs vp vg vt) (m : Nat) (hm : m = W.heap.size) :
    RR B g gr gk w0 ((W.setCell ⟨g, 15, none⟩ (.slice (some ⟨m, 0, none⟩) 0 0)).alloc (.cells #[] 3)) prg room fuel { s with signs := [] } vs vp (.slice (some ⟨m, 0, none⟩) 0 0) vt := by
  subst hm
  have hh : ∀ b, b ≠ g → (W.setCell ⟨g, 15, none⟩ (.slice (some ⟨W.heap.size, 0, none⟩) 0 0)).heap[b]? = W.heap[b]? := fun b hb => Below.heap_setCell _ _ _ b hb
  have hs1 : (W.setCell ⟨g, 15, none⟩ (.slice (some ⟨W.heap.size, 0, none⟩) 0 0)).heap.size = W.heap.size := by simp
  have hb1 := h.box.set 15 (.slice (some ⟨W.heap.size, 0, none⟩) 0 0)
  rw [rrs_tail h.pl 5] at hb1
  have hbl := h.below.setCell (p := ⟨g, 15, none⟩) h.gB (.slice (some ⟨W.heap.size, 0, none⟩) 0 0)
  generalize W.setCell ⟨g, 15, none⟩ (.slice (some ⟨W.heap.size, 0, none⟩) 0 0) = W1 at hh hs1 hb1 hbl ⊢
  have hal : Below W1.heap.size W1 (W1.alloc (.cells #[] 3)) := (Below.refl _ _).alloc (Nat.le_refl _) _
  have hold : ∀ b, b < W.heap.size → b ≠ g → (W1.alloc (.cells #[] 3)).heap[b]? = W.heap[b]? := fun b hb hne => (hal.block b (by omega)).trans (hh b hne)
  have hpr := h.lt
  have hrr := h.rb.lt
  have hkr := h.mb.lt
  have hnew : ∀ b, (Value.slice (some ⟨W.heap.size, 0, none⟩) 0 0).ownBlock = some b → b = W.heap.size := fun b e => by
    have e2 : W.heap.size = b := by simpa [Value.ownBlock] using e
    exact e2.symm
  refine ⟨h.pl, h.rl, h.ml, hbl.trans (hal.mono (by have := h.Bs; omega)), h.gB, h.grB, h.gkB, (hal.block g (by omega)).trans hb1, (hold gr hrr h.ap.n1.symm).trans h.rb, (hold gk hkr h.ap.n2.symm).trans h.mb, ?_, ?_, ?_, ?_, ?_⟩
  · exact h.src.keep (by have := hal.size; omega) (fun b e => hold b (h.src.near b e).2 (h.ap.fs b e).1)
  · exact own_move h.put (fun b _ e ho _ => (hold b (h.put.lt b e).2 (h.ap.fp b e).1).trans ho)
  · have := World.ownsRow_made (base := B) (size := 1) (e := 3) W1 #[] 0 (by have := h.Bs; omega) (by simp [maxLen]) rfl
    simpa [hs1, numsV] using this
  · exact own_move h.told (fun b _ e ho _ => (hold b (h.told.lt b e).2 (h.ap.ft b e).1).trans ho)
  · exact ⟨h.ap.n1, h.ap.n2, h.ap.n3, h.ap.fs, h.ap.fp, fun b e => by have := hnew b e; omega, h.ap.ft, h.ap.asp, fun b e e2 => by have := hnew b e2; have := (h.src.near b e).2; omega, h.ap.ast, fun b e e2 => by have := hnew b e2; have := (h.put.lt b e).2; omega, h.ap.apt, fun b e e2 => by have := hnew b e; have := (h.told.lt b e2).2; omega⟩
set_option maxRecDepth 100000 in
set_option maxHeartbeats 8000000 in
theorem rdo_16 (B g gr gk : Nat) (w0 W : World) (prg : List Value) (room fuel : Int) (s : St) (vs vp vg vt : Value) (p : Prog) (S K V : List Int) (i : Ins) (ho : i.op = 16) (h : RR B g gr gk w0 W prg room fuel s vs vp vg vt) (hp : PairsIn w0 B prg p.signs S K V) (hn : s.told.length ≤ 10000000000) (hsn : s.signs.length ≤ 262144) (hro : room ≤ 10000000000) :
    Calls Try.prog 35 #[.pointer (some ⟨g, 0, none⟩), insV i] W (ResR B g gr w0 prg room fuel (doF (mgF p.signs S K V) p room s i)) := by
  obtain ⟨op, a, b, c, d⟩ := i
  simp only at ho
  subst ho
  have hr : doF (mgF p.signs S K V) p room s ⟨16, a, b, c, d⟩ = (match mgF p.signs S K V s.signs with
    | none => (s, some 3)
    | some l => if room < (s.told.length + l.length : Nat) then (s, some 1) else ({ s with told := s.told ++ l, signs := [] }, none)) := rfl
  rw [hr]
  clear hr
  obtain ⟨sg, hsg⟩ : ∃ x, x = p.signs := ⟨_, rfl⟩
  rw [← hsg] at hp ⊢
  clear hsg
  obtain ⟨A0, A1, A2, n0, n1, n2, c0, c1, c2, h7, h8, h9, hin⟩ := hp.hash
  have h3 := hp.p3
  obtain ⟨Ag, cg, rfl⟩ := own_sl h.sgn
  have HIN := Lib.hid (fun (W : World) (h : RR B g gr gk w0 W prg room fuel s vs vp (.slice Ag s.signs.length cg) vt) => hin.keep (by rw [hp.sz]; exact h.below))
  have HV := Lib.hid hp.hv
  obtain ⟨R, hR⟩ : ∃ R, R = mgF sg S K V s.signs := ⟨_, rfl⟩
  have HM := Lib.hid (fun (W : World) (h : RR B g gr gk w0 W prg room fuel s vs vp (.slice Ag s.signs.length cg) vt) => rmerge_any A0 A1 A2 Ag n0 n1 n2 c0 c1 c2 s.signs.length cg S K V s.signs (sgF sg) W (HIN.out W h) HV.out (by unfold sgF; split <;> (try split) <;> omega) (by unfold sgF; split <;> (try split) <;> omega) hsn rfl (own_ints h.sgn))
  rw [← hR]
  rw [show (if badId (sgF sg) s.signs = true then none else mergeF (hget S K V) (sgF sg) s.signs) = R from hR.symm] at HM
  have hlen : ∀ l, R = some l → l.length ≤ 262144 := fun l hl => by
    rw [hR] at hl
    unfold mgF at hl
    split at hl
    · cases hl
    · have := length_mergeF hl
      omega
  have HLEN := Lib.hid hlen
  have hq7 : ∀ W, RR B g gr gk w0 W prg room fuel s vs vp (.slice Ag s.signs.length cg) vt → W.cell? ⟨g, 7, none⟩ = some (.slice A0 n0 c0) := fun W h => (h.cells.p 7 (by omega)).trans h7
  have hq8 : ∀ W, RR B g gr gk w0 W prg room fuel s vs vp (.slice Ag s.signs.length cg) vt → W.cell? ⟨g, 8, none⟩ = some (.slice A1 n1 c1) := fun W h => (h.cells.p 8 (by omega)).trans h8
  have hq9 : ∀ W, RR B g gr gk w0 W prg room fuel s vs vp (.slice Ag s.signs.length cg) vt → W.cell? ⟨g, 9, none⟩ = some (.slice A2 n2 c2) := fun W h => (h.cells.p 9 (by omega)).trans h9
  have hq3 : ∀ W, RR B g gr gk w0 W prg room fuel s vs vp (.slice Ag s.signs.length cg) vt → W.cell? ⟨g, 3, none⟩ = some (.int .i64 sg) := fun W h => (h.cells.p 3 (by omega)).trans h3
  have hqg : ∀ W, RR B g gr gk w0 W prg room fuel s vs vp (.slice Ag s.signs.length cg) vt → W.cell? ⟨g, 15, none⟩ = some (.slice Ag s.signs.length cg) := fun W h => h.cells.vg
  have X1 := Lib.hid (h.alloc (.cells #[.int .i64 16, .int .i64 a, .int .i64 b, .int .i64 c, .int .i64 d] 40))
  have hlt := h.lt
  obtain ⟨sv, hsv⟩ : ∃ x, x = sgF sg := ⟨_, rfl⟩
  have HSG := Lib.hid (fun W => rsigns_any sg W)
  rw [← hsv] at HM HSG
  clear h hp h7 h8 h9 hin h3 hR hlen hsv
  unfold insV
  go_enter Try.func35, Try.ntmps35
  go_upto_region 44 with (fail)
  generalize W.alloc (.cells #[.int .i64 16, .int .i64 a, .int .i64 b, .int .i64 c, .int .i64 d] 40) = W1 at X1 ⊢
  go_cut [7, 8] from 9 (fun va b wx => (RR B g gr gk w0 wx prg room fuel s vs vp (.slice Ag s.signs.length cg) vt) ∧ b = .bool R.isSome ∧ MV R va wx)
  case first =>
    refine wp_region_held_drew (S := fun W' => RR B g gr gk w0 W' prg room fuel s vs vp (.slice Ag s.signs.length cg) vt) (by kernel_rfl) (X1.out.drew) (fun hHeld => ?_)
    refine wpAnyH_take (i := 0) (v := ?v0) (List.getElem?_toArray.trans rfl) (by kernel_rfl) (by kernel_rfl) (by kernel_rfl) (fun _ _ _ h => h) (Or.inl ⟨by rfl, ?hy0⟩) (by assumption) ?rest0
    case hy0 => (intro W hSw; go_simp <;> (with_reducible rfl))
    simp only [Act.put, List.setIfInBounds_toArray, List.set_cons_zero, List.set_cons_succ]
    refine wpAnyH_take (i := 1) (v := ?v1) (List.getElem?_toArray.trans rfl) (by kernel_rfl) (by kernel_rfl) (by kernel_rfl) (fun _ _ _ h => h) (Or.inl ⟨by rfl, ?hy1⟩) (by assumption) ?rest1
    case hy1 => (intro W hSw; go_simp <;> (with_reducible rfl))
    simp only [Act.put, List.setIfInBounds_toArray, List.set_cons_zero, List.set_cons_succ]
    refine wpAnyH_take (i := 2) (v := ?v2) (List.getElem?_toArray.trans rfl) (by kernel_rfl) (by kernel_rfl) (by kernel_rfl) (fun _ _ _ h => h) (Or.inl ⟨by rfl, ?hy2⟩) (by assumption) ?rest2
    case hy2 => (intro W hSw; go_simp <;> (with_reducible rfl))
    simp only [Act.put, List.setIfInBounds_toArray, List.set_cons_zero, List.set_cons_succ]
    refine wpAnyH_take (i := 3) (v := ?v3) (List.getElem?_toArray.trans rfl) (by kernel_rfl) (by kernel_rfl) (by kernel_rfl) (fun _ _ _ h => h) (Or.inl ⟨by rfl, ?hy3⟩) (by assumption) ?rest3
    case hy3 => (intro W hSw; go_simp <;> (with_reducible rfl))
    simp only [Act.put, List.setIfInBounds_toArray, List.set_cons_zero, List.set_cons_succ]
    refine wpAnyH_take (i := 4) (v := ?v4) (List.getElem?_toArray.trans rfl) (by kernel_rfl) (by kernel_rfl) (by kernel_rfl) (fun _ _ _ h => h) (Or.inl ⟨by rfl, ?hy4⟩) (by assumption) ?rest4
    case hy4 => (intro W hSw; go_simp <;> (with_reducible rfl))
    simp only [Act.put, List.setIfInBounds_toArray, List.set_cons_zero, List.set_cons_succ]
    refine wpAnyH_take (i := 5) (v := ?v5) (List.getElem?_toArray.trans rfl) (by kernel_rfl) (by kernel_rfl) (by kernel_rfl) (fun _ _ _ h => h) (Or.inl ⟨by rfl, ?hy5⟩) (by assumption) ?rest5
    case hy5 => (intro W hSw; go_simp <;> (with_reducible rfl))
    simp only [Act.put, List.setIfInBounds_toArray, List.set_cons_zero, List.set_cons_succ]
    refine wpAnyH_take (i := 6) (v := ?v6) (List.getElem?_toArray.trans rfl) (by kernel_rfl) (by kernel_rfl) (by kernel_rfl) (fun _ _ _ h => h) (Or.inl ⟨by rfl, ?hy6⟩) (by assumption) ?rest6
    case hy6 => (intro W hSw; go_simp <;> (with_reducible rfl))
    simp only [Act.put, List.setIfInBounds_toArray, List.set_cons_zero, List.set_cons_succ]
    refine wpAnyH_take (i := 7) (v := ?v7) (List.getElem?_toArray.trans rfl) (by kernel_rfl) (by kernel_rfl) (by kernel_rfl) (fun _ _ _ h => h) (Or.inl ⟨by rfl, ?hy7⟩) (by assumption) ?rest7
    case hy7 => (intro W hSw; go_simp <;> (with_reducible rfl))
    simp only [Act.put, List.setIfInBounds_toArray, List.set_cons_zero, List.set_cons_succ]
    refine wpAnyH_take (i := 8) (v := ?v8) (List.getElem?_toArray.trans rfl) (by kernel_rfl) (by kernel_rfl) (by kernel_rfl) (fun _ _ _ h => h) (Or.inl ⟨by rfl, ?hy8⟩) (by assumption) ?rest8
    case hy8 => (intro W hSw; go_simp <;> (with_reducible rfl))
    simp only [Act.put, List.setIfInBounds_toArray, List.set_cons_zero, List.set_cons_succ]
    refine wpAnyH_take (i := 9) (v := ?v9) (List.getElem?_toArray.trans rfl) (by kernel_rfl) (by kernel_rfl) (by kernel_rfl) (fun _ _ _ h => h) (Or.inl ⟨by rfl, ?hy9⟩) (by assumption) ?rest9
    case hy9 => (intro W hSw; go_simp <;> (with_reducible rfl))
    simp only [Act.put, List.setIfInBounds_toArray, List.set_cons_zero, List.set_cons_succ]
    refine wpAnyH_take_call 10 (.int .i64 sv) (List.getElem?_toArray.trans rfl) (by kernel_rfl) (by kernel_rfl) (by kernel_rfl) (by kernel_rfl) (by kernel_rfl) (fun _ _ _ h => h) ⟨by rfl, fun W hSw => ⟨46, #[.int .i64 sg], (by kernel_rfl), HSG.out W⟩⟩ (by assumption) ?_
    simp only [Act.put, List.setIfInBounds_toArray, List.set_cons_zero, List.set_cons_succ]
    refine wpAnyH_take (i := 11) (v := ?v11) (List.getElem?_toArray.trans rfl) (by kernel_rfl) (by kernel_rfl) (by kernel_rfl) (fun _ _ _ h => h) (Or.inl ⟨by rfl, ?hy11⟩) (by assumption) ?rest11
    case hy11 => (intro W hSw; go_simp <;> (with_reducible rfl))
    simp only [Act.put, List.setIfInBounds_toArray, List.set_cons_zero, List.set_cons_succ]
    refine wpAnyH_take (i := 12) (v := ?v12) (List.getElem?_toArray.trans rfl) (by kernel_rfl) (by kernel_rfl) (by kernel_rfl) (fun _ _ _ h => h) (Or.inl ⟨by rfl, ?hy12⟩) (by assumption) ?rest12
    case hy12 => (intro W hSw; go_simp <;> (with_reducible rfl))
    simp only [Act.put, List.setIfInBounds_toArray, List.set_cons_zero, List.set_cons_succ]
    refine wpAnyH_take (i := 13) (v := ?v13) (List.getElem?_toArray.trans rfl) (by kernel_rfl) (by kernel_rfl) (by kernel_rfl) (fun _ _ _ h => h) (Or.inl ⟨by rfl, ?hy13⟩) (by assumption) ?rest13
    case hy13 => (intro W hSw; go_simp <;> (with_reducible rfl))
    simp only [Act.put, List.setIfInBounds_toArray, List.set_cons_zero, List.set_cons_succ]
    refine wpAnyH_take (i := 14) (v := ?v14) (List.getElem?_toArray.trans rfl) (by kernel_rfl) (by kernel_rfl) (by kernel_rfl) (fun _ _ _ h => h) (Or.inl ⟨by rfl, ?hy14⟩) (by assumption) ?rest14
    case hy14 => (intro W hSw; go_simp <;> (with_reducible rfl))
    simp only [Act.put, List.setIfInBounds_toArray, List.set_cons_zero, List.set_cons_succ]
    refine wpAnyH_ready (rs := [15]) (by kernel_rfl) (by simp) ?_
    refine AllReadyH.cons (List.getElem?_toArray.trans rfl) (fun K hK => ?_) AllReadyH.nil
    go_simp
    refine ((HM.out _ (by assumption)).mono fun _ _ h => MRes.form h).mono ?_
    rintro e w3 ⟨hb3, v3, rfl, hv3⟩
    have M9 : RR B g gr gk w0 w3 prg room fuel s vs vp (.slice Ag s.signs.length cg) vt := RR.call (by assumption) hb3
    refine hK.out _ _ M9 (fun hHeld => ?_)
    clear hK K
    refine wpAnyH_take (i := 16) (v := ?v16) (List.getElem?_toArray.trans rfl) (by kernel_rfl) (by kernel_rfl) (by kernel_rfl) (fun _ _ _ h => h) (Or.inl ⟨by rfl, ?hy16⟩) (by assumption) ?rest16
    case hy16 => (intro W hSw; go_simp <;> (with_reducible rfl))
    simp only [Act.put, List.setIfInBounds_toArray, List.set_cons_zero, List.set_cons_succ]
    refine wpAnyH_take (i := 17) (v := ?v17) (List.getElem?_toArray.trans rfl) (by kernel_rfl) (by kernel_rfl) (by kernel_rfl) (fun _ _ _ h => h) (Or.inl ⟨by rfl, ?hy17⟩) (by assumption) ?rest17
    case hy17 => (intro W hSw; go_simp <;> (with_reducible rfl))
    simp only [Act.put, List.setIfInBounds_toArray, List.set_cons_zero, List.set_cons_succ]
    refine wpAnyH_take (i := 18) (v := ?v18) (List.getElem?_toArray.trans rfl) (by kernel_rfl) (by kernel_rfl) (by kernel_rfl) (fun _ _ _ h => h) (Or.inl ⟨by rfl, ?hy18⟩) (by assumption) ?rest18
    case hy18 => (intro W hSw; go_simp <;> (with_reducible rfl))
    simp only [Act.put, List.setIfInBounds_toArray, List.set_cons_zero, List.set_cons_succ]
    refine wpAnyH_take (i := 19) (v := ?v19) (List.getElem?_toArray.trans rfl) (by kernel_rfl) (by kernel_rfl) (by kernel_rfl) (fun _ _ _ h => h) (Or.inl ⟨by rfl, ?hy19⟩) (by assumption) ?rest19
    case hy19 => (intro W hSw; go_simp <;> (with_reducible rfl))
    simp only [Act.put, List.setIfInBounds_toArray, List.set_cons_zero, List.set_cons_succ]
    refine wpAnyH_take (i := 20) (v := ?v20) (List.getElem?_toArray.trans rfl) (by kernel_rfl) (by kernel_rfl) (by kernel_rfl) (fun _ _ _ h => h) (Or.inl ⟨by rfl, ?hy20⟩) (by assumption) ?rest20
    case hy20 => (intro W hSw; go_simp <;> (with_reducible rfl))
    simp only [Act.put, List.setIfInBounds_toArray, List.set_cons_zero, List.set_cons_succ]
    refine wpAnyH_done (by kernel_rfl) ?_ _
    go_wp2_with fail
    all_goals
      rename_i hJ hK9
      refine Met.intro (hJ _ _ ?_)
      repeat apply Exists.intro
      exact ⟨⟨M9, rfl, hv3⟩, rfl⟩
  case rest =>
    obtain ⟨hX, rfl, hv⟩ := hcut
    have HX := Lib.hid hX
    clear hX hq7 hq8 hq9 hq3 hqg HM X1
    cases R with
    | none =>
      have hv2 : _ = Value.slice none 0 0 := hv
      subst hv2
      go_wp2_with fail
      go_returns
      exact ⟨by first | rfl | simp, gk, _, _, _, _, HX.out⟩
    | some o =>
      obtain ⟨A7, c7, rfl, hA7, hA0⟩ := hv
      have hol := HLEN.out o rfl
      obtain ⟨on, hon⟩ : ∃ n, n = o.length := ⟨_, rfl⟩
      rw [← hon] at hA7 hA0 hol ⊢
      obtain ⟨At, ct, rfl⟩ := own_sl HX.out.told
      obtain ⟨tn, htn⟩ : ∃ n, n = s.told.length := ⟨_, rfl⟩
      have t1 := HX.out.cells.vt
      have t2 := HX.out.cells.room
      have t3 := HX.out.cells.vg
      rw [← htn] at t1 hn
      have HA7 := Lib.hid (And.intro hA7 hA0)
      have HON := Lib.hid (And.intro hon htn)
      clear hA7 hA0 hon htn
      by_cases hr : room < ((tn + on : Nat) : Int)
      · have d1 : decide (room < (tn : Int) + (on : Int)) = true := by simp; omega
        have HR5 := Lib.hid (show room < ((s.told.length + o.length : Nat) : Int) by rw [← HON.out.1, ← HON.out.2]; exact hr)
        go_wp2_with fail
        go_quiet (fail)
        go_wp2_with fail
        go_returns
        exact ⟨by first | rfl | simp, gk, _, _, _, _, HX.out.drewN _⟩
      · have d1 : decide (room < (tn : Int) + (on : Int)) = false := by simp; omega
        have HR5 := Lib.hid (show ¬ room < ((s.told.length + o.length : Nat) : Int) by rw [← HON.out.1, ← HON.out.2]; exact hr)
        go_wp2_with fail
        go_quiet (fail)
        have H9 := Lib.hid (HX.out.drewN nq)
        have HA9 := Lib.hid (HA7.out.1.drewN nq)
        obtain ⟨i3, hi3, hz3, hsz3, hbt3⟩ := info_parts info3
        have hto := H9.out.told
        rw [← HON.out.2] at hto
        have HTO := Lib.hid hto
        have hlt9 := H9.out.lt
        have hbs9 := H9.out.Bs
        clear hto
        generalize wc.drewN nq = w9 at H9 HA9 HTO hlt9 hbs9 ⊢
        have hnews : ∀ ad, A7 = some ad → ∀ j u, (numsV .i64 o)[j]? = some u → w9.cell? (ad.add j) = some u := fun ad e j u hu => by
          have hj : j < on := by rw [HON.out.1]; have := (List.getElem?_eq_some_iff.1 hu).1; simpa [numsV] using this
          obtain ⟨b, of, e2, _, hc⟩ := HA9.out (by omega)
          rw [e] at e2
          injection e2 with e2
          subst e2
          rw [add_plain', show of + j = of + (j * 1 + 0) by omega, hc j 0 hj (by omega)]
          rw [← hu]
          simp [IntC, numsV, show j < o.length by rw [← HON.out.1]; exact hj]
        have HNW := Lib.hid hnews
        have y4 : ∀ u ∈ numsV .i64 o, u.oneCell' = true := by
          intro u hu
          simp only [numsV, List.mem_map] at hu
          obtain ⟨z, _, rfl⟩ := hu
          rfl
        clear hnews t1 t2 t3 d1
        have t1 := H9.out.cells.vt
        rw [← HON.out.2] at t1
        go_upto_region 50 with (first
          | (at_builtin; refine wpList_append_any _ rfl (.tmp 327) (.tmp 328) 26 rfl B 3 i3 _ 1 8 Try.underlying26 hi3 hz3 hsz3 hbt3 rfl (by decide) (.slice At tn ct) tn (numsV .i64 s.told) rfl HTO.out A7 on c7 (numsV .i64 o) rfl (by rw [HON.out.1]; simp [numsV]) HA7.out.2 HNW.out y4 (by unfold maxLen; omega) (by omega) (by omega) ?_; intro v5 w5 hown5 hgrow5 hor5
             obtain ⟨A5, c5, rfl⟩ := own_sl hown5
             have hgrow6 : w9.grownBy w5 (Value.slice At s.told.length ct).ownBlock := by rw [← HON.out.2]; exact hgrow5
             have hor6 : (Value.slice A5 (tn + on) c5).ownBlock = (Value.slice At s.told.length ct).ownBlock ∨ (Value.slice A5 (tn + on) c5).ownBlock = some w9.heap.size := by rw [← HON.out.2]; exact hor5
             have hbx := RR.midBox H9.out hgrow6 H9.out.toldRow
             have d1 := hbx.vt
             have d2 := hbx.fr 16
             have d3 := hbx.vg
             have d4 := hbx.fr 15
             rw [← HON.out.2] at d1
             have hnx := RR.toldApp (v' := .slice A5 (tn + on) c5) H9.out (xs := o) (by rw [← HON.out.1, ← HON.out.2]; exact hown5) hgrow6 hor6))
        have HNX := Lib.hid hnx
        generalize w5.setCell ⟨g, 16, none⟩ (.slice A5 (tn + on) c5) = w6 at HNX ⊢
        clear d1 d2 d3 d4 hnx hbx
        have d3 := HNX.out.cells.vg
        have d4 := HNX.out.cells.fr 15
        have hlt6 := HNX.out.lt
        go_wp2_with fail
        all_goals first
          | (exfalso; have h8 := HR5.out; omega)
          | (go_returns; exact ⟨by first | rfl | simp, gk, vs, vp, _, _, HNX.out.noSigns _ rfl⟩)
end Go.Proofs.Ytgejpggbmgiocaa
