/- Build. -/
import Derived.Test.YthjnkpoalbddkaaBBuild0Y
import Derived.Test.YthjnkpoalbddkaaMSMadeY
import Derived.Test.YthjnkpoalbddkaaMSRunY
namespace Go.Proofs.Ythjnkpoalbddkaa
open Go.RowKit Go.Maps Go.WideMaps
/-- what Build comes to, of rules that may be -/
def BRes (l : List SR) (w : World) (e : Ending) (w' : World) : Prop :=
  (e = .returned (.tuple #[.agg #[.slice none 0 0, .slice none 0 0, .slice none 0 0, .slice none 0 0], .int .i64 80]) ∧ Below w.heap.size w w' ∧
    ∃ m k c fl, RunI (stepB (rulesOf l)) (finB (rulesOf l)) [] (OpenW (rulesOf l)) (fun _ _ => false) (fun _ => false) m k c fl ∧ m.bad = true) ∨
  (∃ m A0 A1 A2 A3 n0 n1 n2 n3 c0 c1 c2 c3 RA rc PA pc, e = .returned (.tuple #[.agg #[.slice A0 n0 c0, .slice A1 n1 c1, .slice A2 n2 c2, .slice A3 n3 c3], .int .i64 0]) ∧ Below w.heap.size w w' ∧
    (∃ fl, RunI (stepB (rulesOf l)) (finB (rulesOf l)) [] (OpenW (rulesOf l)) (fun _ _ => false) (fun _ => false) m m.all.length 0 fl) ∧ m.bad = false ∧ MachIn w' A0 A1 A2 A3 n0 n1 n2 n3 m.mach RA rc PA pc)
theorem run_store_map {P : Program} {w : World} {a : Addr} {m : Mode} (g : Option Nat) : (store a (.map g) m).run P w = stored P w a (.map g) m := run_store P w a _ m rfl
attribute [local go_sem] run_store_map
set_option maxRecDepth 100000 in
set_option maxHeartbeats 8000000 in
theorem bbuild_ok (A : Option Addr) (n c : Nat) (l : List SR) (w : World) (hl : l.length = n) (harr : Arr w w.heap.size 2 A n (RuleC l)) (hok : AllOk l) :
    Calls Try.prog 34 #[.slice A n c] w (BRes l w) := by
  obtain ⟨W1, hW1⟩ : ∃ W1, W1 = (w.alloc (.cells #[.slice A n c] 22)).alloc (.cells MS.z4.toArray 42) := ⟨_, rfl⟩
  have hbel : Below w.heap.size w W1 := by rw [hW1]; exact ((Below.refl _ _).alloc (Nat.le_refl _) _).alloc (by simp) _
  have hxr : Blk W1 w.heap.size 22 [.slice A n c] := by rw [hW1]; exact (Blk.new w 22 _).alloc _
  have hxg : Blk W1 (w.heap.size + 1) 42 MS.z4 := by
    rw [hW1]
    have := Blk.new (w.alloc (.cells #[.slice A n c] 22)) 42 MS.z4
    simpa using this
  have H0 := Lib.hid (And.intro hbel (And.intro hxr hxg))
  have HA := Lib.hid harr
  have HOK := Lib.hid hok
  have hn64 := hok.1
  have hr0 : rightE l = 0 := rightE_ok (by omega) hok.2
  have HR := Lib.hid (right_any A n c l W1 hl (by omega) ((harr.below hbel).more hbel.size) (fun k hk => by have := (hok.2 k (by omega)).few; unfold maxLen; omega))
  rw [hr0] at HR
  have r0 := hxr.cell 0
  simp only [List.getElem?_cons_zero] at r0
  have HW1 := Lib.hid hW1
  have hmm := @run_makeMap Try.prog
  clear hbel hxr hxg hW1 harr hok hr0
  go_enter Try.func34, Try.ntmps34
  go_upto_region 1 with (fail)
  rw [show (w.alloc (.cells #[.slice A n c] 22)).alloc (.cells #[.slice none 0 0, .slice none 0 0, .slice none 0 0, .slice none 0 0] 42) = W1 from HW1.out.symm]
  clear HW1
  go_wp2_with fail
  refine HR.out.mono ?_
  rintro e W2 ⟨rfl, hb2⟩
  have H2 := Lib.hid (And.intro (H0.out.1.trans (hb2.mono H0.out.1.size)) (And.intro (H0.out.2.1.below hb2 H0.out.2.1.lt) (H0.out.2.2.below hb2 H0.out.2.2.lt)))
  clear hb2 H0 HR r0
  obtain ⟨gt, hgt⟩ : ∃ gt, gt = W2.heap.size := ⟨_, rfl⟩
  obtain ⟨bt, hbt⟩ : ∃ bt, bt = W2.heap.size + 1 := ⟨_, rfl⟩
  obtain ⟨go, hgo⟩ : ∃ go, go = W2.heap.size + 1 + 1 := ⟨_, rfl⟩
  obtain ⟨W3, hW3⟩ : ∃ W3, W3 = ((W2.alloc (.map #[] 0)).alloc (.cells #[.map (some gt)] 60)).alloc (.map #[] 0) := ⟨_, rfl⟩
  have hb3 : Below W2.heap.size W2 W3 := by rw [hW3]; exact (((Below.refl _ _).alloc (Nat.le_refl _) _).alloc (by simp) _).alloc (by simp; omega) _
  have hmt3 : W3.ownsMap Try.prog 9 (plainElem (H := Unit) Try.prog 9) gt 0 (.map []) := by
    rw [hW3, hgt]
    exact ((World.ownsMap_made W2 Try.prog 9 (plainElem (H := Unit) Try.prog 9)).alloc _).alloc _
  have hmo3 : W3.ownsMap Try.prog 9 (plainElem (H := Unit) Try.prog 4) go 0 (.map []) := by
    rw [hW3, hgo]
    have := World.ownsMap_made (H := Unit) ((W2.alloc (.map #[] 0)).alloc (.cells #[.map (some gt)] 60)) Try.prog 9 (plainElem Try.prog 4)
    simpa using this
  have hxt3 : Blk W3 bt 60 [.map (some gt)] := by
    rw [hW3, hbt]
    refine Blk.alloc ?_ _
    have := Blk.new (W2.alloc (.map #[] 0)) 60 [.map (some gt)]
    simpa using this
  obtain ⟨W4, hrun, hm4, hg4⟩ := hmo3.update (string_keyed Try.underlying9) Try.underlying93 (by unfold maxLen; omega) (keyOf_string_mk (s := ⟨#[]⟩) Try.underlying9 (by simp [ByteArray.size, maxLen])) (plainElem_bool Try.underlying4 true)
  have hb4 := But.of_grown hg4
  have hne : ∀ {k}, k ≠ go → ¬ some go = some k := fun hk e9 => hk (by injection e9 with e9; exact e9.symm)
  have hbl4 : Below w.heap.size w W4 := (H2.out.1.trans (hb3.mono H2.out.1.size)).trans (hb4.below (H2.out.1.trans (hb3.mono H2.out.1.size)).size (fun k hk => by injection hk with hk; rw [← hk, hgo]; have := H2.out.1.size; omega))
  have hBL : BL w l A n c W4.heap.size bt w.heap.size (w.heap.size + 1) go gt 0 1 0 1 0 ((DataW.map [] : DataW Unit).put (litS []) (.lit (.bool true))) (.map []) (W4.alloc (.cells #[.map (some go)] 93)) :=
    ⟨hbl4.alloc hbl4.size _, Blk.new W4 93 _, (hb4.blk hxt3 (hne (by omega))).alloc _, (hb4.blk (H2.out.2.1.below hb3 H2.out.2.1.lt) (hne (by have := H2.out.2.1.lt; omega))).alloc _, (hb4.blk (H2.out.2.2.below hb3 H2.out.2.2.lt) (hne (by have := H2.out.2.2.lt; omega))).alloc _, hm4.alloc _, (hb4.maps hmt3 (hne (by omega))).alloc _,
      opn_mono (opn_put opn_empty []) (fun x => openS_start), tells_empty, by have := H2.out.1.size; omega, by have := H2.out.1.size; omega, by omega, by omega, by omega⟩
  have HBL := Lib.hid hBL
  have r0 := hBL.xr.cell 0
  simp only [List.getElem?_cons_zero] at r0
  rw [hW3, hgt, hgo] at hrun
  have HE := Lib.hid (And.intro hgt (And.intro hbt hgo))
  clear hgt hbt hgo hW3 hb3 hmt3 hmo3 hxt3 hm4 hg4 hb4 hne hbl4 hBL H2
  go_upto_region 6 with (fail)
  rw [← HE.out.2.2, ← HE.out.2.1, ← HE.out.1]
  clear hrun
  obtain ⟨bo, hbo⟩ : ∃ bo, bo = W4.heap.size := ⟨_, rfl⟩
  rw [← hbo] at HBL ⊢
  obtain ⟨br, hbr⟩ : ∃ br, br = w.heap.size := ⟨_, rfl⟩
  obtain ⟨gr, hgr⟩ : ∃ gr, gr = w.heap.size + 1 := ⟨_, rfl⟩
  have HBL : Hid (BL w l A n c bo bt br gr go gt 0 1 0 1 0 ((DataW.map [] : DataW Unit).put (litS []) (.lit (.bool true))) (.map []) (W4.alloc (.cells #[.map (some go)] 93))) := by rw [hbr, hgr]; exact HBL
  rw [← hgr, ← hbr]
  have r0 := HBL.out.xr.cell 0
  simp only [List.getElem?_cons_zero] at r0
  have hgw : w.heap.size ≤ gr := by omega
  have HGW := Lib.hid hgw
  clear hbr hgr hbo hmm hgw
  go_wp2_with fail
  go_loopw [23] (fun x wr => ∃ (k ko kt : Nat) (Do Dt : DataW Unit), k ≤ n ∧ x = .int .i64 k ∧ BL w l A n c bo bt br gr go gt k 1 k ko kt Do Dt wr) (fun x _ => n - (intOf x).toNat)
  case atStart => exact ⟨0, _, _, _, _, by omega, rfl, HBL.out⟩
  case round =>
    obtain ⟨k, ko, kt, Do, Dt, hk, rfl, hB⟩ := hrel
    have HB := Lib.hid hB
    clear r0 hB HBL
    obtain ⟨w4, rfl⟩ : ∃ w4 : World, w4 = wr := ⟨_, rfl⟩
    by_cases hlt : k < n
    · obtain ⟨b, o, rfl, hbl, hc0, hc1⟩ := (HA.out.below HB.out.bel).two hlt
      simp only [RuleC, if_true, if_neg (show ¬ (1 : Nat) = 0 by omega)] at hc0 hc1
      have hf16 := (HOK.out.2 k (by omega)).few
      have hf1 := (HOK.out.2 k (by omega)).some
      have hf32 := (HOK.out.2 k (by omega)).few2
      have htf : toF l (k + 1) = fun x => if x = (l.getD k noRule).1.data.toList then some (l.getD k noRule).2 else toF l k x := rfl
      obtain ⟨f, hf⟩ : ∃ f, f = (l.getD k noRule).1 := ⟨_, rfl⟩
      obtain ⟨t, ht⟩ : ∃ t, t = (l.getD k noRule).2 := ⟨_, rfl⟩
      rw [← hf] at hc0 htf hf16 hf1
      rw [← ht] at hc1 htf hf32
      have hkey : keyOf Try.prog 9 (.string f) = some (litS f.data.toList) := keyOf_string_mk Try.underlying9 (by unfold maxLen; omega)
      have HB1 := Lib.hid (HB.out.go' ((Below.refl w4.heap.size w4).alloc (Nat.le_refl _) (.cells #[.string f, .string t] 34)))
      have hktl := HB.out.ktl
      obtain ⟨w5, hrun5, hm5, hg5⟩ := HB1.out.mt.update (string_keyed Try.underlying9) Try.underlying60 (by unfold maxLen; omega) hkey (plainElem_string (H := Unit) Try.underlying9 (s := t) (by unfold maxLen; omega))
      have HB5 := Lib.hid (HB1.out.putT hg5 hm5 (by rw [htf]; exact tells_put HB1.out.tel f.data.toList t))
      have hbx5 : Blk w5 w4.heap.size 34 [.string f, .string t] := (But.of_grown hg5).blk (Blk.new w4 34 _) (fun e => by injection e with e; have := map_blk_ne HB1.out.mt (Blk.new w4 34 [.string f, .string t]); omega)
      have HX5 := Lib.hid hbx5
      have t0 := HB1.out.xt.cell 0
      have z0 := hbx5.cell 0
      simp only [List.getElem?_cons_zero] at t0 z0
      have HF := Lib.hid hf
      clear hm5 hg5 hbx5 htf hf ht hkey
      go_wp2_with fail
      obtain ⟨b8, hb8⟩ : ∃ b8, b8 = w4.heap.size := ⟨_, rfl⟩
      rw [← hb8] at HX5 z0 ⊢
      clear t0 z0 hrun5 hc0 hc1 HB1 HB hb8
      go_loopw [9] (fun x wi => ∃ (j ko : Nat) (Do : DataW Unit), x = .int .i64 j ∧ 1 ≤ j ∧ (j ≤ f.size ∨ j = 1) ∧ BL w l (some ⟨b, o, none⟩) n c bo bt br gr go gt k j (k + 1) ko (kt + 1) Do _ wi ∧ Blk wi b8 34 [.string f, .string t]) (fun x _ => f.size - (intOf x).toNat)
      case atStart => exact ⟨1, ko, Do, rfl, by omega, .inr rfl, HB5.out, HX5.out⟩
      case round =>
        obtain ⟨j, kj, Dj, rfl, hj1, hjf, hBj, hXj⟩ := hrel
        have HBj := Lib.hid hBj
        have HXj := Lib.hid hXj
        have z0 := hXj.cell 0
        have o0 := hBj.xo.cell 0
        simp only [List.getElem?_cons_zero] at z0 o0
        obtain ⟨w6, rfl⟩ : ∃ w6 : World, w6 = wr := ⟨_, rfl⟩
        clear hBj hXj HB5 HX5
        by_cases hjl : j < f.size
        · have hji : (j : Int) < (f.size : Int) := by omega
          obtain ⟨pc, hpl, hps, hsl⟩ := cut_to f j (by omega)
          have hkol := HBj.out.kol
          have hBd := HBj.out.go' (Below.refl w6.heap.size w6).drew
          obtain ⟨w7, hrun7, hm7, hg7⟩ := hBd.mo.update (string_keyed Try.underlying9) Try.underlying93 (by unfold maxLen; omega) (keyOf_string_mk (s := pc) Try.underlying9 (by unfold maxLen; omega)) (plainElem_bool Try.underlying4 true)
          have HB7 := Lib.hid (hBd.putO hg7 hm7 (opn_mono (opn_put hBd.opn pc.data.toList) (fun x => by
            rw [hpl, HF.out]
            exact openS_put (by rw [size_data, ← HF.out]; exact hjl) x)))
          have hx7 := (But.of_grown hg7).blk (HXj.out.below ((Below.refl w6.heap.size w6).drew) HXj.out.lt) (fun e => by injection e with e; exact map_blk_ne hBd.mo (HXj.out.below ((Below.refl w6.heap.size w6).drew) HXj.out.lt) e)
          have HX7 := Lib.hid hx7
          clear hBd hm7 hg7 hx7 hpl
          go_wp2_with fail
          go_region
          go_wp2_with fail
          go_roundw
          case rel => exact ⟨j + 1, _, _, by go_num, by omega, .inl (by omega), HB7.out, HX7.out⟩
          case measure => simp [intOf]; omega
        · have hji : ¬ (j : Int) < (f.size : Int) := by omega
          go_wp2_with fail
          go_roundw
          case rel =>
            have e : (l.getD k noRule).1.data.toList.length = f.size := by rw [size_data, HF.out]
            exact ⟨k + 1, _, _, _, _, by omega, by go_num, HBj.out.next (by rw [e]; omega) (by rw [e]; omega) (by omega)⟩
          case measure => simp [intOf]; omega
    · obtain rfl : k = n := by omega
      have HC := Lib.hid (And.intro (HB.out.ctx HA.out hl HOK.out) HB.out.xg)
      clear HB
      have hmd := MS.made_any w4 [] (by simp)
      have HMD := Lib.hid hmd
      clear hmd
      go_wp2_with fail
      refine HMD.out.mono ?_
      rintro e W5 ⟨bk, va, vt, gno, gtx, D1, D2, rfl, hb5, hmk⟩
      have hl1 := HC.out.1.xo.lt
      have hl2 := HC.out.1.xt.lt
      have hl3 := HC.out.1.xr.lt
      have hl4 := HC.out.1.mo.lt
      have hl5 := HC.out.1.mt.lt
      have hl6 := HC.out.2.lt
      have henv := build_env (A := A) (n := k) (c := c) (ko := ko) (kt := kt) (Do := Do) (Dt := Dt) HC.out.1.bel.size hl1 hl2 hl3 hl4 hl5 hl6 HOK.out
      have hst := RunI.start (step := stepB (rulesOf l)) (fin := finB (rulesOf l)) (lg := fun _ _ => false) (lge := fun _ => false) (Ok := OpenW (rulesOf l)) (first := []) (.inl rfl)
      have hl7 : (MS.mk0 []).all.length ≤ 1200 := by unfold MS.mk0; rw [addT_all]; have := addS_len MS.mkE ([] : Bs); simp [MS.mkE] at this ⊢; omega
      have hl8 : (MS.mk0 []).texts.length ≤ 4097 := by unfold MS.mk0; have := addT_len (MS.mkE.addS ([] : Bs)) []; rw [addS_texts] at this; simp [MS.mkE] at this ⊢; omega
      have HRN := Lib.hid (MS.run_any w4.heap.size bk _ _ _ _ _ _ _ _ _ _ gno gtx henv W5 (MS.mk0 []) false _ _ _ vt va D1 D2 _ _ hst hmk ⟨HC.out.1.go' hb5, HC.out.2.below hb5 hl6⟩ hl7 hl8)
      clear hb5 hmk henv hst hl7 hl8 HMD
      go_wp2_with fail
      refine HRN.out.mono ?_
      rintro e W6 h6
      rcases h6 with ⟨m, q, cc, fl, rfl, hrn, _, hbad, hcx⟩ | ⟨m, fl, vn, vp, ve, vt, va, D1, D2, RN, RP, rfl, hrn, hmk, hcx, hbad⟩
      · have HRN2 := Lib.hid (And.intro hrn hbad)
        have HX := Lib.hid hcx
        have r0 := hcx.2.cell 0
        have r1 := hcx.2.cell 1
        have r2 := hcx.2.cell 2
        have r3 := hcx.2.cell 3
        have e0 := hcx.2.frozen 0
        have e1 := hcx.2.frozen 1
        have e2 := hcx.2.frozen 2
        have e3 := hcx.2.frozen 3
        simp only [MS.z4, List.getElem?_cons_zero, List.getElem?_cons_succ] at r0 r1 r2 r3
        clear hcx hrn hbad HRN
        have HZ := Lib.hid (MS.four_set HX.out.2 (.slice none 0 0) (.slice none 0 0) (.slice none 0 0) (.slice none 0 0))
        have HBL := Lib.hid (HX.out.1.bel.trans (HZ.out.2.below HX.out.1.bel.size (fun k hk => by rw [hk]; exact HGW.out)))
        go_wp2_with fail
        refine bodyPost_ret (MS.res_mach rfl _ rfl HZ.out.1) rfl ?_
        exact .inl ⟨rfl, HBL.out, m, q, cc, _, HRN2.out.1, HRN2.out.2⟩
      · obtain ⟨A0, c0, hvn⟩ := own_sl hmk.nx.own
        obtain ⟨A1, c1, hvp⟩ := own_sl hmk.pt.own
        obtain ⟨A2, c2, hve⟩ := own_sl hmk.oe
        obtain ⟨A3, c3, hvt⟩ := own_sl hmk.ot
        subst hvn hvp hve hvt
        have HRN2 := Lib.hid (And.intro hrn hbad)
        have HMK := Lib.hid hmk
        have HX := Lib.hid hcx
        have r0 := hcx.2.cell 0
        have r1 := hcx.2.cell 1
        have r2 := hcx.2.cell 2
        have r3 := hcx.2.cell 3
        have e0 := hcx.2.frozen 0
        have e1 := hcx.2.frozen 1
        have e2 := hcx.2.frozen 2
        have e3 := hcx.2.frozen 3
        simp only [MS.z4, List.getElem?_cons_zero, List.getElem?_cons_succ] at r0 r1 r2 r3
        clear hcx hrn hbad hmk HRN
        have HZ := Lib.hid (MS.four_set HX.out.2 (.slice A0 m.next.length c0) (.slice A1 m.put.length c1) (.slice A2 m.ends.length c2) (.slice A3 m.texts.length c3))
        have HBL := Lib.hid (HX.out.1.bel.trans (HZ.out.2.below HX.out.1.bel.size (fun k hk => by rw [hk]; exact HGW.out)))
        have hf := MS.fits_of HRN2.out.1.ok HRN2.out.2
        have g1 := HRN2.out.1.ok.nl
        have g2 := HRN2.out.1.ok.pl
        have g3 := HRN2.out.1.ok.el
        have hmm := (HMK.out.but HZ.out.2 (fun k hk => by have := hl6; omega)).mach rfl rfl rfl rfl (by omega) (by omega) (by omega) (by omega)
        have HMM := Lib.hid hmm
        clear hmm hf g1 g2 g3
        go_wp2_with fail
        refine bodyPost_ret (MS.res_mach rfl _ rfl HZ.out.1) rfl ?_
        exact .inr ⟨m, A0, A1, A2, A3, _, _, _, _, c0, c1, c2, c3, _, _, _, _, rfl, HBL.out, ⟨_, HRN2.out.1⟩, HRN2.out.2, HMM.out⟩
set_option maxRecDepth 100000 in
set_option maxHeartbeats 8000000 in
theorem bbuild_no (A : Option Addr) (n c : Nat) (l : List SR) (w : World) (hl : l.length = n) (harr : Arr w w.heap.size 2 A n (RuleC l)) (hn : n ≤ 140737488355328) (hz : ∀ k, k < n → (l.getD k noRule).1.size ≤ maxLen) (hno : rightE l ≠ 0) :
    Calls Try.prog 34 #[.slice A n c] w fun e w' => e = .returned (.tuple #[.agg #[.slice none 0 0, .slice none 0 0, .slice none 0 0, .slice none 0 0], .int .i64 (rightE l)]) ∧ Below w.heap.size w w' := by
  obtain ⟨W1, hW1⟩ : ∃ W1, W1 = (w.alloc (.cells #[.slice A n c] 22)).alloc (.cells MS.z4.toArray 42) := ⟨_, rfl⟩
  have hbel : Below w.heap.size w W1 := by rw [hW1]; exact ((Below.refl _ _).alloc (Nat.le_refl _) _).alloc (by simp) _
  have hxr : Blk W1 w.heap.size 22 [.slice A n c] := by rw [hW1]; exact (Blk.new w 22 _).alloc _
  have hxg : Blk W1 (w.heap.size + 1) 42 MS.z4 := by
    rw [hW1]
    have := Blk.new (w.alloc (.cells #[.slice A n c] 22)) 42 MS.z4
    simpa using this
  have H0 := Lib.hid (And.intro hbel hxg)
  obtain ⟨ee, hee⟩ : ∃ ee, ee = rightE l := ⟨_, rfl⟩
  have HR := Lib.hid (right_any A n c l W1 hl hn ((harr.below hbel).more hbel.size) hz)
  rw [← hee] at HR hno ⊢
  have r0 := hxr.cell 0
  simp only [List.getElem?_cons_zero] at r0
  have HW1 := Lib.hid hW1
  have hne : (ee != 0) = true := by simpa using hno
  clear hbel hxr hxg hW1 harr hz hee hno
  go_enter Try.func34, Try.ntmps34
  go_upto_region 1 with (fail)
  rw [show (w.alloc (.cells #[.slice A n c] 22)).alloc (.cells #[.slice none 0 0, .slice none 0 0, .slice none 0 0, .slice none 0 0] 42) = W1 from HW1.out.symm]
  clear HW1
  go_wp2_with fail
  refine HR.out.mono ?_
  rintro e W2 ⟨rfl, hb2⟩
  have H2 := Lib.hid (And.intro (H0.out.1.trans (hb2.mono H0.out.1.size)) (H0.out.2.below hb2 H0.out.2.lt))
  clear hb2 H0 HR r0
  have r0 := H2.out.2.cell 0
  have r1 := H2.out.2.cell 1
  have r2 := H2.out.2.cell 2
  have r3 := H2.out.2.cell 3
  have e0 := H2.out.2.frozen 0
  have e1 := H2.out.2.frozen 1
  have e2 := H2.out.2.frozen 2
  have e3 := H2.out.2.frozen 3
  simp only [MS.z4, List.getElem?_cons_zero, List.getElem?_cons_succ] at r0 r1 r2 r3
  have HZ := Lib.hid (MS.four_set H2.out.2 (.slice none 0 0) (.slice none 0 0) (.slice none 0 0) (.slice none 0 0))
  go_wp2_with fail
  refine bodyPost_ret (MS.res_mach rfl _ rfl HZ.out.1) rfl ?_
  exact ⟨rfl, H2.out.1.trans (HZ.out.2.below H2.out.1.size (fun k hk => by omega))⟩
end Go.Proofs.Ythjnkpoalbddkaa
