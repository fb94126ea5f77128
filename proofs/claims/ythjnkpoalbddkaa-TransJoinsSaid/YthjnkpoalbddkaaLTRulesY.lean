/- TransRules, with its rules and text laid open. -/
import Derived.Test.YthjnkpoalbddkaaBBuildY
import Derived.Test.YthjnkpoalbddkaaRBCountY
import Derived.Test.YthjnkpoalbddkaaLTGrowsY
import Derived.Test.YthjnkpoalbddkaaIdxY
import Derived.Test.YthjnkpoalbddkaaLGrowsY
import Derived.Test.YthjnkpoalbddkaaRApplyY
namespace Go.Proofs.Ythjnkpoalbddkaa
open Go.RowKit
theorem sumF_snoc (Q : List Rule) (r : Rule) : sumF (Q ++ [r]) = sumF Q + r.1.length := by
  induction Q with
  | nil => simp [sumF]
  | cons q Q ih => simp only [List.cons_append, sumF, ih]; omega
def sumK (l : List SR) : Nat → Nat
  | 0 => 0
  | k + 1 => sumK l k + (l.getD k noRule).1.size
theorem sumK_eq (l : List SR) : ∀ k, k ≤ l.length → sumF (rulesOf (l.take k)) = sumK l k
  | 0, _ => rfl
  | k + 1, h => by
    have h1 := sumK_eq l k (by omega)
    have h2 := List.getElem?_eq_getElem (show k < l.length by omega)
    have e : rulesOf (l.take (k + 1)) = rulesOf (l.take k) ++ [((l.getD k noRule).1.data.toList, (l.getD k noRule).2.data.toList)] := by
      unfold rulesOf
      rw [List.take_add_one, h2, List.map_append, List.getD_eq_getElem?_getD, h2]
      rfl
    rw [e, sumF_snoc, h1]
    simp only [sumK, size_data]
theorem sumK_all (l : List SR) : sumF (rulesOf l) = sumK l l.length := by
  have := sumK_eq l l.length (Nat.le_refl _)
  rwa [List.take_length] at this
theorem rules16 {l : List SR} (hok : AllOk l) : ∀ r ∈ rulesOf l, r.1.length ≤ 16 := fun r hr => by
  obtain ⟨k, hk, rfl⟩ := mem_rulesOf.mp hr
  have := (hok.2 k hk).few
  rw [size_data]; exact this
theorem rules32 {l : List SR} (hok : AllOk l) : ∀ r ∈ rulesOf l, r.2.length ≤ 32 := fun r hr => by
  obtain ⟨k, hk, rfl⟩ := mem_rulesOf.mp hr
  have := (hok.2 k hk).few2
  rw [size_data]; exact this
theorem rew_32 {R : List Rule} (hf : Fit R) (h32 : ∀ r ∈ R, r.2.length ≤ 32) {s o : Bs} (h : Rew R s o) : o.length ≤ 32 * s.length :=
  h.grows 32 (by omega) (fun r hr => by
    have := h32 r hr
    have h0 : 0 < r.1.length := List.length_pos_iff.mpr (hf.some r hr)
    omega)
/-- what the machine of rules puts -/
theorem rules_total {l : List SR} (hok : AllOk l) {m : Mk Bs} {fl : Bool} (h : RunI (stepB (rulesOf l)) (finB (rulesOf l)) [] (OpenW (rulesOf l)) (fun _ _ => false) (fun _ => false) m m.all.length 0 fl) (s : Bs) : Rew (rulesOf l) s (total m.mach s) := by
  rw [h.ok.total]
  exact runB_total hok.fit s
theorem after_take' (m : Mach) (s : Bs) (k : Nat) : (after m (s.take k)).1.length ≤ (total m (s.take k)).length := by unfold total; simp
theorem rules_short {l : List SR} (hok : AllOk l) {m : Mk Bs} {fl : Bool} (h : RunI (stepB (rulesOf l)) (finB (rulesOf l)) [] (OpenW (rulesOf l)) (fun _ _ => false) (fun _ => false) m m.all.length 0 fl) {s : Bs} (hs : s.length ≤ 4096) : runRes m.mach s = some (total m.mach s) := by
  rw [runRes_ok]
  rintro (⟨k, _, hl⟩ | hl)
  · have h1 := after_take' m.mach s k
    have h2 := rew_32 hok.fit (rules32 hok) (rules_total hok h (s.take k))
    rw [List.length_take] at h2
    omega
  · have h2 := rew_32 hok.fit (rules32 hok) (rules_total hok h s)
    omega
set_option maxRecDepth 100000 in
set_option maxHeartbeats 16000000 in
theorem law_trules (A : Option Addr) (n c : Nat) (l : List SR) (s : ByteArray) (w : World) (h : RulesIn w A n l) :
    Calls Try.prog 11 #[.slice A n c, .string s] w fun e w' => e = .returned (.bool true) ∧ Below w.heap.size w w' := by
  have H := Lib.hid h
  have hl := h.len
  by_cases h0 : rightE l = 0
  · have hok := allOk_of h0
    have hn64 := hok.1
    have HOK := Lib.hid hok
    have H0 := Lib.hid h0
    have HBD := Lib.hid (bbuild_ok A n c l w hl h.arr hok)
    clear h h0 hok
    go_enter Try.func11, Try.ntmps11
    go_wp2_with fail
    refine HBD.out.mono ?_
    rintro e w1 h1
    rcases h1 with ⟨rfl, hb1, hwhy⟩ | ⟨m, A0, A1, A2, A3, n0, n1, n2, n3, c0, c1, c2, c3, RA, rc, PA, pc, rfl, hb1, hrn, hbad, hmm⟩
    · have hbx := hb1.trans (((Below.refl w1.heap.size w1).alloc (Nat.le_refl _) (.cells #[.slice none 0 0, .slice none 0 0, .slice none 0 0, .slice none 0 0] 42)).mono hb1.size)
      have HB1 := Lib.hid hbx
      have HX1 := Lib.hid (Blk.new w1 42 [.slice none 0 0, .slice none 0 0, .slice none 0 0, .slice none 0 0])
      have hbig : 100 < sumK l n := by
        apply Classical.byContradiction
        intro h9
        obtain ⟨m, k, c, fl, hrn, hbad⟩ := hwhy
        have := rules_made HOK.out.fit (rules16 HOK.out) (rules32 HOK.out) (by rw [sumK_all, hl]; omega) hrn
        rw [hbad] at this
        cases this
      have HBG := Lib.hid hbig
      clear hwhy hb1 hbx hbig
      go_wp2_with fail
      refine (rright_any A n c l _ hl H.out.le (H.out.keep HB1.out).arr).mono ?_
      rw [H0.out]
      rintro e w2 ⟨rfl, hb2⟩
      have HB2 := Lib.hid (HB1.out.trans (hb2.mono HB1.out.size))
      have HX2 := Lib.hid (HX1.out.below hb2 HX1.out.lt)
      have H2 := Lib.hid (H.out.keep HB2.out)
      obtain ⟨b5, hb5⟩ : ∃ b5, b5 = w1.heap.size := ⟨_, rfl⟩
      rw [← hb5] at HX2 ⊢
      clear hb2 HX1 HB1 hb5
      go_wp2_with fail
      go_loopw [8, 35] (fun v x wr => ∃ k : Nat, k ≤ n ∧ x = .int .i64 k ∧ v = .int .i64 (sumK l k : Nat) ∧ Below w2.heap.size w2 wr) (fun _ x _ => n - (intOf x).toNat)
      case atStart => exact ⟨0, by omega, rfl, rfl, Below.refl _ _⟩
      case round =>
        obtain ⟨k, hk, rfl, rfl, hb3⟩ := hrel
        have HB3 := Lib.hid hb3
        have hsk : sumK l k ≤ 16 * k := by
          clear H2 HX2
          have : ∀ k, k ≤ n → sumK l k ≤ 16 * k := fun k => by
            induction k with
            | zero => intro _; simp [sumK]
            | succ k ih =>
              intro hk
              have h1 := ih (by omega)
              have h2 := (HOK.out.2 k (by omega)).few
              simp only [sumK]
              omega
          exact this k hk
        obtain ⟨sk, hsk2⟩ : ∃ sk, sk = sumK l k := ⟨_, rfl⟩
        rw [← hsk2] at hsk ⊢
        have HSK := Lib.hid hsk2
        obtain ⟨w4, rfl⟩ : ∃ w4 : World, w4 = wr := ⟨_, rfl⟩
        clear hb3 hsk2
        by_cases hlt : k < n
        · obtain ⟨b, o, rfl, hbl, hc0, hc1⟩ := (H2.out.keep HB3.out).arr.two hlt
          simp only [RuleC, if_true, if_neg (show ¬ (1 : Nat) = 0 by omega)] at hc0 hc1
          have hf16 := (HOK.out.2 k (by omega)).few
          obtain ⟨f, hf⟩ : ∃ f, f = (l.getD k noRule).1 := ⟨_, rfl⟩
          obtain ⟨t, ht⟩ : ∃ t, t = (l.getD k noRule).2 := ⟨_, rfl⟩
          rw [← hf] at hc0 hf16
          rw [← ht] at hc1
          have HF := Lib.hid hf
          clear hf ht
          go_wp2_with fail
          go_roundw
          case rel => exact ⟨k + 1, by omega, by go_num, by simp only [sumK]; rw [← HSK.out, ← HF.out]; go_num, HB3.out.trans (((Below.refl w4.heap.size w4).alloc (Nat.le_refl _) _).mono HB3.out.size)⟩
          case measure => simp [intOf]; omega
        · obtain rfl : k = n := by omega
          have x0 := (HX2.out.below HB3.out HX2.out.lt).cell 0
          simp only [List.getElem?_cons_zero] at x0
          have hbg := HBG.out
          rw [← HSK.out] at hbg
          have d1 : decide ((100 : Int) < (sk : Int)) = true := by simp; omega
          have HBF := Lib.hid (HB2.out.trans (HB3.out.mono HB2.out.size))
          go_wp2_with fail
          go_returns
          exact ⟨by first | rfl | simp, HBF.out⟩
    · have hbx := hb1.trans (((Below.refl w1.heap.size w1).alloc (Nat.le_refl _) (.cells #[.slice A0 n0 c0, .slice A1 n1 c1, .slice A2 n2 c2, .slice A3 n3 c3] 42)).mono hb1.size)
      have HB1 := Lib.hid hbx
      have HX1 := Lib.hid (And.intro (Blk.new w1 42 [.slice A0 n0 c0, .slice A1 n1 c1, .slice A2 n2 c2, .slice A3 n3 c3]) (hmm.keep ((Below.refl w1.heap.size w1).alloc (Nat.le_refl _) (.cells #[.slice A0 n0 c0, .slice A1 n1 c1, .slice A2 n2 c2, .slice A3 n3 c3] 42))))
      obtain ⟨fl, hrn⟩ := hrn
      have HM := Lib.hid (And.intro hrn (hrn.ok.right hbad))
      obtain ⟨b5, hb5⟩ : ∃ b5, b5 = w1.heap.size := ⟨_, rfl⟩
      have hcs := cutS_le s 300
      obtain ⟨s', hs'⟩ : ∃ s', s' = cutS s 300 := ⟨_, rfl⟩
      have HSH := Lib.hid (fun w => tshort_any s 300 (by omega) w)
      rw [← hs'] at hcs HSH
      have hres := rules_short HOK.out hrn (s := s'.data.toList) (by rw [size_data]; omega)
      have hrw := rules_total HOK.out hrn s'.data.toList
      obtain ⟨tt, htt⟩ : ∃ tt : ByteArray, tt = ⟨(total m.mach s'.data.toList).toArray⟩ := ⟨_, rfl⟩
      have htl : tt.data.toList = total m.mach s'.data.toList := by rw [htt]
      rw [← htl] at hres hrw
      have HRES := Lib.hid (And.intro hres hrw)
      clear hmm hrn hbad hb1 hbx hs' hres hrw htt htl
      go_wp2_with fail
      refine (rright_any A n c l _ hl H.out.le (H.out.keep HB1.out).arr).mono ?_
      rw [H0.out]
      rintro e w2 ⟨rfl, hb2⟩
      have HB2 := Lib.hid (HB1.out.trans (hb2.mono HB1.out.size))
      have HX2 := Lib.hid (And.intro (HX1.out.1.below hb2 HX1.out.1.lt) (HX1.out.2.keep hb2))
      rw [← hb5] at HX2 ⊢
      clear hb2 HX1 HB1 hb5
      go_wp2_with fail
      refine (HSH.out _).mono ?_
      rintro e w3 ⟨rfl, rfl⟩
      obtain ⟨x0, x1, x2, x3⟩ : w3.cell? ⟨b5, 0, none⟩ = some (.slice A0 n0 c0) ∧ w3.cell? ⟨b5, 1, none⟩ = some (.slice A1 n1 c1) ∧ w3.cell? ⟨b5, 2, none⟩ = some (.slice A2 n2 c2) ∧ w3.cell? ⟨b5, 3, none⟩ = some (.slice A3 n3 c3) := ⟨HX2.out.1.cell 0, HX2.out.1.cell 1, HX2.out.1.cell 2, HX2.out.1.cell 3⟩
      have HTR := Lib.hid (trun_any A0 A1 A2 A3 n0 n1 n2 n3 c0 c1 c2 c3 m.mach RA rc PA pc s' w3 HX2.out.2 HM.out.2 (by omega))
      rw [HRES.out.1] at HTR
      go_wp2_with fail
      refine HTR.out.mono ?_
      rintro e w4 ⟨rfl, hb4⟩
      have HB4 := Lib.hid (HB2.out.trans (hb4.mono HB2.out.size))
      have HX4 := Lib.hid (And.intro (HX2.out.1.below hb4 HX2.out.1.lt) (HX2.out.2.keep hb4))
      clear hb4 HX2 HTR x0 x1 x2 x3
      obtain ⟨x0, x1, x2, x3⟩ : w4.cell? ⟨b5, 0, none⟩ = some (.slice A0 n0 c0) ∧ w4.cell? ⟨b5, 1, none⟩ = some (.slice A1 n1 c1) ∧ w4.cell? ⟨b5, 2, none⟩ = some (.slice A2 n2 c2) ∧ w4.cell? ⟨b5, 3, none⟩ = some (.slice A3 n3 c3) := ⟨HX4.out.1.cell 0, HX4.out.1.cell 1, HX4.out.1.cell 2, HX4.out.1.cell 3⟩
      have HRR := Lib.hid (rtright_any A0 A1 A2 A3 n0 n1 n2 n3 c0 c1 c2 c3 m.mach RA rc PA pc w4 HX4.out.2)
      rw [rightM_yes HM.out.2] at HRR
      go_wp2_with fail
      refine HRR.out.mono ?_
      rintro e w5 ⟨rfl, hb5⟩
      have HB5 := Lib.hid (HB4.out.trans (hb5.mono HB4.out.size))
      have H5 := Lib.hid (H.out.keep HB5.out)
      clear hb5 HX4 HRR x0 x1 x2 x3
      go_wp2_with fail
      refine (rapply_ok A n c l s' w5 hl H5.out.arr HOK.out (by omega)).mono ?_
      rintro e w6 ⟨o2, hrew, rfl, hb6⟩
      have HB6 := Lib.hid (HB5.out.trans (hb6.mono HB5.out.size))
      have ho : (⟨o2.toArray⟩ : ByteArray) = tt := str_ext (by have := hrew.unique HOK.out.fit HRES.out.2; simpa using this)
      rw [ho]
      clear hrew hb6 ho
      go_wp2_with fail
      go_returns
      exact ⟨by first | rfl | simp, HB6.out⟩
  · have HZ := Lib.hid (fun k (hk : k < n) => (h.sizes k hk).1)
    have HBD := Lib.hid (bbuild_no A n c l w hl h.arr h.le HZ.out h0)
    have HRR := Lib.hid (fun w' (hb : Below w.heap.size w w') => rright_any A n c l w' hl h.le (h.keep hb).arr)
    obtain ⟨ee, hee⟩ : ∃ ee, ee = rightE l := ⟨_, rfl⟩
    rw [← hee] at HBD HRR h0
    have hne : (ee != 0) = true := by simpa using h0
    clear h h0 hee
    go_enter Try.func11, Try.ntmps11
    go_wp2_with fail
    refine HBD.out.mono ?_
    rintro e w1 ⟨rfl, hb1⟩
    have hbx := hb1.trans (((Below.refl w1.heap.size w1).alloc (Nat.le_refl _) (.cells #[.slice none 0 0, .slice none 0 0, .slice none 0 0, .slice none 0 0] 42)).mono hb1.size)
    have HB1 := Lib.hid hbx
    have HX1 := Lib.hid (Blk.new w1 42 [.slice none 0 0, .slice none 0 0, .slice none 0 0, .slice none 0 0])
    clear hb1 hbx
    go_wp2_with fail
    refine (HRR.out _ HB1.out).mono ?_
    rintro e w2 ⟨rfl, hb2⟩
    have HB2 := Lib.hid (HB1.out.trans (hb2.mono HB1.out.size))
    have x0 := (HX1.out.below hb2 HX1.out.lt).cell 0
    simp only [List.getElem?_cons_zero] at x0
    clear hb2 HX1
    go_wp2_with fail
    go_returns
    exact ⟨by first | rfl | simp, HB2.out⟩
end Go.Proofs.Ythjnkpoalbddkaa
