/- RuleOrder, with its rules and texts laid open. -/
import Derived.Test.YthjnkpoalbddkaaLGrows
import Derived.Test.YthjnkpoalbddkaaOPlain
import Derived.Deep.Cut
import Derived.Deep.CutRange
import Derived.Deep.RegionHeld3
import Derived.Deep.DrawnRows
namespace Go.Proofs.Ythjnkpoalbddkaa
open Go.RowKit

attribute [local go_sem ↓] Go.wp_at_zero Go.wp_at_succ

theorem info34 : (Try.prog.info? 34).map (fun i => (i.zero, i.size, i.bytes)) = some (some (.agg #[.string ⟨#[]⟩, .string ⟨#[]⟩]), 2, 32) := by kernel_rfl

theorem turn_facts (y : Int) (n : Nat) (h0 : 0 < n) (hn : n ≤ 64) : ∃ (r : Int) (b : Nat), y.tmod (n : Int) = r ∧ (r + (n : Int)).tmod (n : Int) = (b : Int) ∧ b < n ∧ IntKind.i64.wrap (r + (n : Int)) = r + (n : Int) := by
  have h1 : -(n : Int) < y.tmod n ∧ y.tmod n < n := by
    have h2 := Int.natAbs_tmod y (n : Int)
    have h3 : y.natAbs % (n : Int).natAbs < (n : Int).natAbs := Nat.mod_lt _ (by omega)
    omega
  refine ⟨y.tmod n, ((y.tmod n + n).tmod n).toNat, rfl, ?_, ?_, IntWalk.i64_in _ (by omega)⟩
  · rw [Int.toNat_of_nonneg (Int.tmod_nonneg _ (by omega))]
  · have := Int.tmod_lt_of_pos (y.tmod n + n) (show (0 : Int) < n by omega)
    have := Int.tmod_nonneg (n : Int) (show (0 : Int) ≤ y.tmod n + n by omega)
    omega

theorem arr_drop {w : World} {B g off n : Nat} {l : List SR} (h : Arr w B 2 (some ⟨g, off, none⟩) n (RuleC l)) (b : Nat) : Arr w B 2 (some ⟨g, off + b * 2, none⟩) (n - b) (RuleC (l.drop b)) := fun h0 => by
  obtain ⟨g', o', e, hg, hc⟩ := h (by omega)
  simp only [Option.some.injEq, Addr.mk.injEq, and_true] at e
  obtain ⟨rfl, rfl⟩ := e
  refine ⟨g, off + b * 2, rfl, hg, fun k j hk hj => ?_⟩
  have := hc (b + k) j (by omega) hj
  rw [show off + b * 2 + (k * 2 + j) = off + ((b + k) * 2 + j) by omega, this]
  simp [RuleC, List.getD_eq_getElem?_getD]
theorem arr_take {w : World} {B g off n : Nat} {l : List SR} (h : Arr w B 2 (some ⟨g, off, none⟩) n (RuleC l)) (b : Nat) (hb : b ≤ n) : Arr w B 2 (some ⟨g, off, none⟩) b (RuleC (l.take b)) := fun h0 => by
  obtain ⟨g', o', e, hg, hc⟩ := h (by omega)
  refine ⟨g', o', e, hg, fun k j hk hj => ?_⟩
  rw [hc k j (by omega) hj]
  simp [RuleC, List.getD_eq_getElem?_getD, hk]

set_option maxRecDepth 100000 in
set_option maxHeartbeats 8000000 in
theorem law_order (A : Option Addr) (n c : Nat) (l : List SR) (s more : ByteArray) (y : Int) (w : World) (h : RulesIn w A n l) (hnc : n ≤ c) (hA : A = none → n = 0 ∧ c = 0) (hm : ∃ m, w.cell? ⟨0, 0, none⟩ = some (.int .i64 m)) :
    Calls Try.prog 6 #[.slice A n c, .string s, .int .i64 y, .string more] w fun e w' => e = .returned (.bool true) ∧ Below w.heap.size w w' := by
  obtain ⟨i34, hi34, hz34, hsz34, hbt34⟩ := info_parts info34
  have H := Lib.hid h
  have hz := fun k (hk : k < n) => (h.sizes k hk).1
  have hl := h.len
  have HZ := Lib.hid hz
  have HM := Lib.hid hm
  clear h hz hm
  go_enter Try.func6, Try.ntmps6
  by_cases h0 : rightE l = 0
  · have hok := allOk_of h0
    have hn64 := hok.1
    have H0 := Lib.hid h0
    have HOK := Lib.hid hok
    clear h0 hok
    by_cases hs : s.size ≤ 262144
    · go_wp2_with fail
      refine (apply_ok A n c l s w hl H.out.arr H.out.sizes HOK.out hs).mono ?_
      rintro e w2 ⟨o, hrew, hol, rfl, hb2⟩
      have HB2 := Lib.hid hb2
      have HR1 := Lib.hid hrew
      obtain ⟨ot, hot⟩ : ∃ ot : ByteArray, ot = ⟨o.toArray⟩ := ⟨_, rfl⟩
      rw [← hot]
      have HOT := Lib.hid hot
      clear hrew hb2 hot
      by_cases hs3 : 3000 < s.size
      · have d1 : decide ((3000 : Int) < (s.size : Int)) = true := by simp; omega
        go_wp2_with fail
        go_returns
        exact ⟨rfl, HB2.out⟩
      · have d1 : decide ((3000 : Int) < (s.size : Int)) = false := by simp; omega
        go_upto_if 38 with (fail)
        go_cut [2, 38] from 39 to 66 (fun v q wx => (∃ z : Int, v = .int .i64 z) ∧ (∃ t : Bool, q = .bool t) ∧ Below w.heap.size w wx)
        case first =>
          by_cases hn0 : 0 < n
          · obtain ⟨r, b, ht1, ht2, hbn, hwr⟩ := turn_facts y n hn0 (by omega)
            have harr := (H.out.keep HB2.out).arr
            obtain ⟨g, off, rfl, hgl, hcell⟩ := harr hn0
            have HA1 := Lib.hid (arr_drop harr b)
            have HA2 := Lib.hid (arr_take harr b (by omega))
            have HL1 : Hid ((rulesV (l.drop b)).length = (n - b) * 2) := by show _ = _; rw [length_rulesV, List.length_drop, hl]
            have HL2 : Hid ((rulesV (l.take b)).length = b * 2) := by show _ = _; rw [length_rulesV, List.length_take, hl, Nat.min_eq_left (by omega)]
            have hok' := allOk_perm HOK.out (turned_perm l b)
            have HOK' := Lib.hid hok'
            have HU : Hid (∀ o', Rew (rulesOf (l.drop b ++ l.take b)) s.data.toList o' → o' = o) := fun o' h' => (h'.mono (fun r => (rules_perm (turned_perm l b) r).symm)).unique HOK.out.fit HR1.out
            have nz : ((n : Int) == 0) = false := beq_eq_false_iff_ne.mpr (by omega)
            have i1 : (b : Int) ≤ (n : Int) := by omega
            have i2 : (b : Int) ≤ (c : Int) := by omega
            have hcb : ¬ c = b := by omega
            have y1 : 0 + (n - b) ≤ maxLen := by unfold maxLen; omega
            have y2 : (0 + (n - b)) * 32 ≤ 140737488355328 := by omega
            have y3 : 0 + (n - b) + b ≤ maxLen := by unfold maxLen; omega
            have y4 : (0 + (n - b) + b) * 32 ≤ 140737488355328 := by omega
            have y5 : (0 : Nat) < 2 := by omega
            clear hcell harr hok'
            go_wp2_with fail
            go_region_held3 (fun _ => True) (trivial) (first
              | (refine step_app _ rfl (.tmp 47) (.tmp 50) 22 rfl w2.heap.size 34 i34 _ 2 32 Try.underlying22 hi34 hz34 hsz34 hbt34 rfl y5 w2 _ 0 [] rfl
                  (by repeat first | exact OwnB.made (Below.refl _ _) (Nat.le_refl _) | refine OwnB.drew ?_)
                  (some ⟨g, off + b * 2, none⟩) (n - b) (c - b) (rulesV (l.drop b)) rfl HL1.out (fun h => nomatch h)
                  (rules_news (B := w2.heap.size) (HA1.out.below (by repeat first | exact Below.refl _ _ | refine Below.drew ?_ | refine Below.alloc ?_ (by simp) _)) (by rw [List.length_drop, hl])) (rulesV_one _) y1 y2 ?_; intro v1 w3 hown1 hg1)
              | (refine step_app _ rfl (.tmp 51) (.tmp 54) 22 rfl w2.heap.size 34 i34 _ 2 32 Try.underlying22 hi34 hz34 hsz34 hbt34 rfl y5 w2 _ (0 + (n - b)) ([] ++ rulesV (l.drop b)) rfl hown1
                  (some ⟨g, off, none⟩) b c (rulesV (l.take b)) rfl HL2.out (fun h => nomatch h)
                  (rules_news (B := w2.heap.size) (HA2.out.below hown1.below) (by rw [List.length_take, hl]; omega)) (rulesV_one _) y3 y4 ?_; intro v2 w4 hown2 hg2; have hown2' : w4.ownsRow w2.heap.size 34 2 v2 n (rulesV (l.drop b ++ l.take b)) := by
                    have h5 := hown2.own
                    rw [show 0 + (n - b) + b = n by omega, List.nil_append, ← rulesV_append] at h5
                    exact h5)
              | (go_at_call 13
                 obtain ⟨hl5, A5, c5, rfl, ha5⟩   := own_rules hown2'
                 refine (apply_ok A5 n c5 (l.drop b ++ l.take b) s _ hl5 ha5 (fun k hk => by have h6 := HOK'.out.2 k (by omega); have h7 := h6.few; have h8 := h6.few2; unfold maxLen; omega) HOK'.out hs).mono ?_
                 rintro e w5 ⟨o', hrew', hol', rfl, hb5⟩
                 have h9 : (⟨o'.toArray⟩ : ByteArray) = ot := by rw [HU.out o' hrew']; exact HOT.out.symm
                 rw [h9]))
            go_wp2_with fail
            go_meet
            exact ⟨⟨_, rfl⟩, ⟨_, rfl⟩, (HB2.out.trans ((hown2.below.trans (hb5.mono hown2.base)).mono HB2.out.size))⟩
          · obtain rfl : n = 0 := by omega
            go_wp2_with fail
            go_meet
            exact ⟨⟨_, rfl⟩, ⟨_, rfl⟩, HB2.out⟩
        case rest =>
          obtain ⟨⟨z, rfl⟩, ⟨tq, rfl⟩, hbc⟩ := hcut
          have HBC := Lib.hid hbc
          have hbcs := hbc.size
          obtain ⟨w3, rfl⟩ : ∃ w3 : World, w3 = wc := ⟨_, rfl⟩
          clear hbc
          go_upto_region 12 with (fail)
          go_loopw [14, 69] (fun x i wr => ∃ (k : Nat) (bv : Bool), k ≤ n ∧ i = .int .i64 k ∧ x = .bool bv ∧ (bv = true ↔ AnyIn l s.data.toList k) ∧ Below w.heap.size w wr) (fun _ i _ => n - (intOf i).toNat)
          case atStart => exact ⟨0, false, by omega, rfl, rfl, ⟨fun h => (by cases h), fun ⟨j, hj, _⟩ => absurd hj (by omega)⟩, HBC.out⟩
          case round =>
            obtain ⟨k, bv, hk, rfl, rfl, hbv, hb4⟩ := hrel
            have HB4 := Lib.hid hb4
            have HBV := Lib.hid hbv
            have hbs := hb4.size
            clear hb4 hbv
            obtain ⟨w4, rfl⟩ : ∃ w4 : World, w4 = wr := ⟨_, rfl⟩
            by_cases hlt : k < n
            · obtain ⟨b, off, rfl, hbl, hc0, hc1⟩ := ((H.out.keep HB4.out).arr).two hlt
              simp only [RuleC, if_true, if_neg (show ¬ (1 : Nat) = 0 by omega)] at hc0 hc1
              obtain ⟨f, hf⟩ : ∃ f, f = (l.getD k noRule).1 := ⟨_, rfl⟩
              obtain ⟨t, ht⟩ : ∃ t, t = (l.getD k noRule).2 := ⟨_, rfl⟩
              rw [← hf] at hc0
              rw [← ht] at hc1
              have HF := Lib.hid hf
              clear hf ht
              cases bv with
              | true =>
                go_wp2_with fail
                go_roundw
                case rel => exact ⟨k + 1, true, by omega, by go_num, rfl, ⟨fun _ => by
                              obtain ⟨j, hj, h5⟩ := HBV.out.mp rfl
                              exact ⟨j, by omega, h5⟩, fun _ => rfl⟩, HB4.out.alloc hbs _⟩
                case measure => simp [intOf]; omega
              | false =>
                obtain ⟨mm, hmm⟩ := HM.out
                have hm4 : (w4.alloc (.cells #[.string f, .string t] 34)).cell? ⟨0, 0, none⟩ = some (.int .i64 mm) := by
                  rw [(HB4.out.alloc hbs _).cell (p := ⟨0, 0, none⟩) (World.block_lt_of_cell? _ _ hmm)]; exact hmm
                have HCT := Lib.hid (Try.strings_Contains s f mm _ (by omega) hm4)
                obtain ⟨cv, hcv⟩ : ∃ cv, cv = Lib.contains s.data.toList f.data.toList := ⟨_, rfl⟩
                rw [← hcv] at HCT
                have HCV : Hid (cv = true ↔ Stands f.data.toList s.data.toList) := by show _ ↔ _; rw [hcv]; exact contains_iff _ _
                clear hcv hmm hm4
                go_wp2_with fail
                refine HCT.out.mono ?_
                rintro e w' ⟨rfl, rfl⟩
                go_wp2_with fail
                go_roundw
                case rel => exact ⟨k + 1, cv, by omega, by go_num, by first | rfl | simp, ⟨fun h5 => ⟨k, by omega, by rw [← HF.out]; exact HCV.out.mp h5⟩, fun ⟨j, hj, h5⟩ => by
                              by_cases e : j = k
                              · rw [e, ← HF.out] at h5; exact HCV.out.mpr h5
                              · have := HBV.out.mpr ⟨j, by omega, h5⟩; cases this⟩, HB4.out.alloc hbs _⟩
                case measure => simp [intOf]; omega
            · obtain rfl : k = n := by omega
              have hno : bv = false → o = s.data.toList := fun e => same_none HR1.out (by rw [hl]; intro h5; have := HBV.out.mpr h5; rw [e] at this; cases this)
              have HNO := Lib.hid hno
              obtain ⟨eqb, heqb⟩ : ∃ eqb, (ot.toList == s.toList) = eqb := ⟨_, rfl⟩
              have heq : bv = false → eqb = true := fun e => by rw [← heqb]; exact eqB_true (str_ext (by rw [HOT.out]; simpa using hno e))
              obtain ⟨b1, hb1⟩ : ∃ b1, decide ((64 : Int) ≤ (k : Int)) = b1 := ⟨_, rfl⟩
              obtain ⟨b2, hb2⟩ : ∃ b2, more.toList.isEmpty = b2 := ⟨_, rfl⟩
              obtain ⟨b3, hb3⟩ : ∃ b3, decide ((16 : Int) < (more.size : Int)) = b3 := ⟨_, rfl⟩
              have HE := Lib.hid heq
              clear hno heq
              go_upto_region 16 with (fail)
              go_cut [100] from 81 to 99 (fun v wx => v = .bool (b1 || b2 || b3) ∧ wx = w4)
              case first =>
                have he2 : bv = true ∨ (bv = false ∧ eqb = true) := by
                  cases bv
                  · exact .inr ⟨rfl, HE.out rfl⟩
                  · exact .inl rfl
                rcases he2 with rfl | ⟨rfl, rfl⟩ <;> cases b1 <;> cases b2 <;> cases b3
                all_goals
                  go_wp2_with fail
                  go_meet
                  exact ⟨by first | rfl | simp, by first | rfl | trivial⟩
              case rest =>
                obtain ⟨rfl, rfl⟩ := hcut
                by_cases htb : (b1 || b2 || b3) = true
                · rw [htb]
                  have he2 : bv = true ∨ (bv = false ∧ eqb = true) := by
                    cases bv
                    · exact .inr ⟨rfl, HE.out rfl⟩
                    · exact .inl rfl
                  rcases he2 with rfl | ⟨rfl, rfl⟩
                  all_goals
                    go_wp2_with fail
                    go_returns
                    exact ⟨by first | rfl | simp, HB4.out⟩
                · have htf : (b1 || b2 || b3) = false := by simpa using htb
                  rw [htf]
                  have hb123 : b1 = false ∧ b2 = false ∧ b3 = false := by simpa [and_assoc] using htf
                  obtain ⟨rfl, rfl, rfl⟩ := hb123
                  have hk64 : k < 64 := by have := of_decide_eq_false hb1; omega
                  have hm1 : 1 ≤ more.size := by rw [strB] at hb2; have := of_decide_eq_false hb2; omega
                  have hm16 : more.size ≤ 16 := by have := of_decide_eq_false hb3; omega
                  clear htb htf hb1 hb2 hb3
                  go_wp2_with fail
                  go_loopw [109] (fun i wr => ∃ j : Nat, j ≤ k ∧ i = .int .i64 j ∧ Below w.heap.size w wr ∧ ∀ a, a < j → (l.getD a noRule).1 ≠ more) (fun i _ => k - (intOf i).toNat)
                  case atStart => exact ⟨0, by omega, rfl, HB4.out, fun a ha => absurd ha (by omega)⟩
                  case round =>
                    obtain ⟨j, hj, rfl, hb5, hne⟩ := hrel
                    have HB5 := Lib.hid hb5
                    have HNE := Lib.hid hne
                    have hbs5 := hb5.size
                    clear hb5 hne
                    obtain ⟨w5, rfl⟩ : ∃ w5 : World, w5 = wr := ⟨_, rfl⟩
                    by_cases hjk : j < k
                    · obtain ⟨b, off, rfl, hbl, hc0, hc1⟩ := ((H.out.keep HB5.out).arr).two hjk
                      simp only [RuleC, if_true, if_neg (show ¬ (1 : Nat) = 0 by omega)] at hc0 hc1
                      obtain ⟨f, hf⟩ : ∃ f, f = (l.getD j noRule).1 := ⟨_, rfl⟩
                      obtain ⟨t, ht⟩ : ∃ t, t = (l.getD j noRule).2 := ⟨_, rfl⟩
                      rw [← hf] at hc0
                      rw [← ht] at hc1
                      have HF := Lib.hid hf
                      clear hf ht
                      by_cases hfm : f = more
                      · have e1 := eqB_true hfm
                        clear hfm
                        go_wp2_with fail
                        go_returns
                        exact ⟨rfl, HB5.out.alloc hbs5 _⟩
                      · have e1 := eqB_false hfm
                        have HFM := Lib.hid hfm
                        clear hfm
                        go_wp2_with fail
                        go_roundw
                        case rel => exact ⟨j + 1, by omega, by go_num, HB5.out.alloc hbs5 _, fun a ha => by
                                      by_cases e : a = j
                                      · rw [e, ← HF.out]; exact HFM.out
                                      · exact HNE.out a (by omega)⟩
                        case measure => simp [intOf]; omega
                    · obtain rfl : j = k := by omega
                      have hokw : AllOk (l ++ [(more, more)]) := allOk_more HOK.out more (by omega) hm1 hm16 (fun r hr => by
                        obtain ⟨a, ha, rfl⟩ := List.getElem_of_mem hr
                        have := HNE.out a (by omega)
                        simpa [ha] using this)
                      have HOKW := Lib.hid hokw
                      have HLV : Hid ((rulesV l).length = j * 2) := by show _ = _; rw [length_rulesV, hl]
                      have HARR := Lib.hid (H.out.keep HB5.out).arr
                      have y1 : 0 + j ≤ maxLen := by unfold maxLen; omega
                      have y2 : (0 + j) * 32 ≤ 140737488355328 := by omega
                      have y3 : 0 + j + 1 ≤ maxLen := by unfold maxLen; omega
                      have y4 : (0 + j + 1) * 32 ≤ 140737488355328 := by omega
                      have y5 : (0 : Nat) < 2 := by omega
                      have y7 : ∀ u ∈ [Value.string more, .string more], u.oneCell' = true := by intro u hu; simp at hu; subst hu; rfl
                      clear hokw
                      go_wp2_with (first
                        | (at_builtin; refine wpList_appA _ rfl (.tmp 118) (.tmp 119) 22 rfl w5.heap.size 34 i34 _ 2 32 Try.underlying22 hi34 hz34 hsz34 hbt34 rfl y5 w5 _ 0 [] rfl (OwnB.made (Below.refl _ _) (Nat.le_refl _)) A j c (rulesV l) rfl HLV.out hA
                            (rules_news (B := w5.heap.size) (HARR.out.below ((Below.refl _ _).alloc (Nat.le_refl _) _)) hl) (rulesV_one _) y1 y2 ?_; intro v1 w6 hown1 hg1)
                        | (at_builtin; refine wpList_appA _ rfl (.tmp 120) (.tmp 124) 22 rfl w5.heap.size 34 i34 _ 2 32 Try.underlying22 hi34 hz34 hsz34 hbt34 rfl y5 w5 _ (0 + j) ([] ++ rulesV l) rfl (hown1.alloc _) (some ⟨w6.heap.size, 0, none⟩) 1 1 [.string more, .string more] rfl rfl (fun h => nomatch h)
                            (cells_news (by simp) (by simp)) y7 y3 y4 ?_; intro v2 w7 hown2 hg2))
                      have hown3 : w7.ownsRow w5.heap.size 34 2 v2 (j + 1) (rulesV (l ++ [(more, more)])) := by
                        have h5 := hown2.own
                        rw [show 0 + j + 1 = j + 1 by omega, List.nil_append] at h5
                        rw [rulesV_snoc]
                        exact h5
                      obtain ⟨hl5, A5, c5, rfl, ha5⟩ := own_rules hown3
                      have HB7 := Lib.hid (HB5.out.trans (hown2.below.mono hbs5))
                      have hbs7 := HB7.out.size
                      obtain ⟨mm, hmm⟩ := HM.out
                      clear hown1 hown2 hown3 hg1 hg2
                      refine (apply_ok A5 (j + 1) c5 (l ++ [(more, more)]) s _ hl5 ha5 (fun k hk => by have h6 := HOKW.out.2 k (by omega); have h7 := h6.few; have h8 := h6.few2; unfold maxLen; omega) HOKW.out hs).mono ?_
                      rintro e w8 ⟨o3, hrew3, hol3, rfl, hb8⟩
                      have HB8 := Lib.hid (HB7.out.trans (hb8.mono hbs7))
                      have hm8 : w8.cell? ⟨0, 0, none⟩ = some (.int .i64 mm) := by
                        rw [HB8.out.cell (p := ⟨0, 0, none⟩) (World.block_lt_of_cell? _ _ hmm)]; exact hmm
                      have HCT := Lib.hid (Try.strings_Contains s more mm w8 (by omega) hm8)
                      obtain ⟨cv, hcv⟩ : ∃ cv, cv = Lib.contains s.data.toList more.data.toList := ⟨_, rfl⟩
                      rw [← hcv] at HCT
                      obtain ⟨v3, hv3⟩ : ∃ v3 : ByteArray, v3 = ⟨o3.toArray⟩ := ⟨_, rfl⟩
                      rw [← hv3]
                      have h5 : cv = false → o3 = o := fun e => by
                        have hns : ¬ Stands more.data.toList s.data.toList := fun hst => by
                          rw [← contains_iff, ← hcv, e] at hst; cases hst
                        have h6 := HR1.out.more (f := more.data.toList) (t := more.data.toList) hns
                        rw [← rulesOf_more] at h6
                        exact hrew3.unique HOKW.out.fit h6
                      have h7 : bv = false → o3 = s.data.toList := fun e => same_more hrew3 (by rw [hl]; intro h9; have := HBV.out.mpr h9; rw [e] at this; cases this)
                      obtain ⟨b5, hb5⟩ : ∃ b5, (v3.toList == ot.toList) = b5 := ⟨_, rfl⟩
                      obtain ⟨b6, hb6⟩ : ∃ b6, (v3.toList == s.toList) = b6 := ⟨_, rfl⟩
                      have h5b : cv = true ∨ (cv = false ∧ b5 = true) := by
                        cases cv
                        · exact .inr ⟨rfl, by rw [← hb5]; exact eqB_true (by rw [hv3, HOT.out, h5 rfl])⟩
                        · exact .inl rfl
                      have h7b : bv = true ∨ (bv = false ∧ b6 = true) := by
                        cases bv
                        · exact .inr ⟨rfl, by rw [← hb6]; exact eqB_true (str_ext (by rw [hv3]; simpa using h7 rfl))⟩
                        · exact .inl rfl
                      clear hrew3 hb8 hm8 hcv hv3 h5 h7 ha5 hl5 hmm
                      rcases h5b with rfl | ⟨rfl, rfl⟩ <;> rcases h7b with rfl | ⟨rfl, rfl⟩
                      all_goals
                        go_wp2_with fail
                        refine HCT.out.mono ?_
                        rintro e w' ⟨rfl, rfl⟩
                        go_wp2_with fail
                        go_returns
                        exact ⟨by first | rfl | simp, HB8.out⟩
    · go_wp2_with fail
      refine (apply_long A n c l s w hl H.out.le H.out.arr HZ.out H0.out (by omega)).mono ?_
      rintro e w2 ⟨rfl, hb2⟩
      have HB2 := Lib.hid hb2
      clear hb2
      go_wp2_with fail
      go_returns
      exact ⟨by first | rfl | simp, HB2.out⟩
  · go_wp2_with fail
    refine (apply_no A n c l s w hl H.out.le H.out.arr HZ.out h0).mono ?_
    obtain ⟨x, hx⟩ : ∃ x, x = rightE l := ⟨_, rfl⟩
    rw [← hx] at h0 ⊢
    have hne : (x != 0) = true := by simpa using h0
    rintro e w2 ⟨rfl, hb2⟩
    have HB2 := Lib.hid hb2
    clear hb2
    go_wp2_with fail
    go_returns
    exact ⟨by first | rfl | simp, HB2.out⟩
end Go.Proofs.Ythjnkpoalbddkaa
