/- RuleBehind, with its rules and texts laid open. -/
import Derived.Test.YthjnkpoalbddkaaLGrows
import Derived.Laws.Strings3
namespace Go.Proofs.Ythjnkpoalbddkaa
open Go.RowKit

theorem tail_piece (s : ByteArray) (m : Nat) (h : m ≤ s.size) : ∃ pc : ByteArray, pc.data.toList = s.data.toList.drop (s.size - m) ∧ ∀ W, (Instr.slice 9 (.string s) (some (.int .i64 ((s.size : Int) - (m : Int)))) none none).run Try.prog W = .ok (.string pc) W := by
  refine ⟨s.extract (s.size - m) s.size, ?_, fun W => ?_⟩
  · have := piece_list s (s.size - m) m
    rw [show s.size - m + m = s.size by omega] at this
    rw [this, List.take_of_length_le (by rw [List.length_drop, size_data]; omega)]
  · rw [run_slice_string_from_if W 9 s .i64 _ Try.underlying9, if_pos ⟨by omega, by omega⟩]
    congr 3
    omega

/-- no From begins with one of the text's last so many bytes -/
def ShutTo (l : List SR) (a : ByteArray) (m : Nat) : Prop := ∀ j, 1 ≤ j → j < m → ∀ k, k < l.length → ¬ (a.data.toList.drop (a.size - j)) <+: (l.getD k noRule).1.data.toList
theorem shut_of {l : List SR} {a : ByteArray} (hok : AllOk l) (h : ShutTo l a (min a.size 16 + 1)) : Shut (rulesOf l) a.data.toList := by
  intro t h0 ht r hr hp
  obtain ⟨k, hk, rfl⟩ := mem_rulesOf.mp hr
  have hlp : t.length ≤ (l.getD k noRule).1.size := by have := hp.length_le; rwa [size_data] at this
  have h16 := (hok.2 k hk).few
  have h1 : 0 < t.length := List.length_pos_iff.mpr h0
  have h2 : t.length ≤ a.size := by have := ht.length_le; rwa [size_data] at this
  refine h t.length h1 (by omega) k hk ?_
  have h3 := List.suffix_iff_eq_drop.mp ht
  rw [size_data] at h3
  rw [← h3]
  exact hp

set_option maxRecDepth 100000 in
set_option maxHeartbeats 8000000 in
theorem law_behind (A : Option Addr) (n c : Nat) (l : List SR) (a b : ByteArray) (w : World) (h : RulesIn w A n l) :
    Calls Try.prog 4 #[.slice A n c, .string a, .string b] w fun e w' => e = .returned (.bool true) ∧ Below w.heap.size w w' := by
  have H := Lib.hid h
  have hz := fun k (hk : k < n) => (h.sizes k hk).1
  have hl := h.len
  have HZ := Lib.hid hz
  clear h hz
  go_enter Try.func4, Try.ntmps4
  go_wp2_with fail
  refine (alive_any _).mono ?_
  rintro e w1 ⟨rfl, hb1⟩
  have H1 := Lib.hid (H.out.keep hb1)
  have HB1 := Lib.hid hb1
  have HR := Lib.hid (right_any A n c l w1 hl H.out.le H1.out.arr HZ.out)
  clear hb1
  obtain ⟨x, hx⟩ : ∃ x, x = rightE l := ⟨_, rfl⟩
  rw [← hx] at HR
  have HX := Lib.hid hx
  clear hx
  by_cases hx0 : x = 0
  · subst hx0
    have HOK := Lib.hid (allOk_of HX.out.symm)
    by_cases ha : 1000 < a.size
    · go_wp2_with fail
      refine HR.out.mono ?_
      rintro e w2 ⟨rfl, hb2⟩
      have HB2 := Lib.hid (HB1.out.trans (hb2.mono HB1.out.size))
      clear hb2
      have d1 : decide ((1000 : Int) < (a.size : Int)) = true := by simp; omega
      go_wp2_with fail
      go_returns
      exact ⟨rfl, HB2.out⟩
    · have d1 : decide ((1000 : Int) < (a.size : Int)) = false := by simp; omega
      by_cases hb : 1000 < b.size
      · have d2 : decide ((1000 : Int) < (b.size : Int)) = true := by simp; omega
        go_wp2_with fail
        refine HR.out.mono ?_
        rintro e w2 ⟨rfl, hb2⟩
        have HB2 := Lib.hid (HB1.out.trans (hb2.mono HB1.out.size))
        clear hb2
        go_wp2_with fail
        go_returns
        exact ⟨rfl, HB2.out⟩
      · have d2 : decide ((1000 : Int) < (b.size : Int)) = false := by simp; omega
        go_wp2_with fail
        refine HR.out.mono ?_
        rintro e w2 ⟨rfl, hb2⟩
        have HB2 := Lib.hid (HB1.out.trans (hb2.mono HB1.out.size))
        have H2 := Lib.hid (H1.out.keep hb2)
        have hn64 := HOK.out.1
        obtain ⟨q, hq⟩ : ∃ q, q = min a.size 16 := ⟨_, rfl⟩
        have hmin : min (a.size : Int) 16 = (q : Int) := by omega
        have hqa : q ≤ a.size := by omega
        have HQ := Lib.hid hq
        clear hb2 HR hq
        go_wp2_with fail
        go_loopw [7] (fun y wr => ∃ m : Nat, 1 ≤ m ∧ m ≤ q + 1 ∧ y = .int .i64 m ∧ Below w2.heap.size w2 wr ∧ ShutTo l a m) (fun y _ => q + 1 - (intOf y).toNat)
        case atStart => exact ⟨1, by omega, by omega, rfl, Below.refl _ _, fun j h1 h2 => absurd h2 (by omega)⟩
        case round =>
          obtain ⟨m, hm1, hmq, rfl, hbw, hsh⟩ := hrel
          have HBW := Lib.hid hbw
          have HSH := Lib.hid hsh
          clear hbw hsh
          obtain ⟨w3, rfl⟩ : ∃ w3 : World, w3 = wr := ⟨_, rfl⟩
          by_cases hmle : m ≤ q
          · go_wp2_with fail
            go_loopw [40] (fun y wr => ∃ k : Nat, k ≤ n ∧ y = .int .i64 k ∧ Below w2.heap.size w2 wr ∧ ∀ i, i < k → ¬ (a.data.toList.drop (a.size - m)) <+: (l.getD i noRule).1.data.toList) (fun y _ => n - (intOf y).toNat)
            case atStart => exact ⟨0, by omega, rfl, HBW.out, fun i hi => absurd hi (by omega)⟩
            case round =>
              obtain ⟨k, hk, rfl, hb4, hno⟩ := hrel
              have HB4 := Lib.hid hb4
              have HNO := Lib.hid hno
              have hbs := hb4.size
              clear hb4 hno
              obtain ⟨w4, rfl⟩ : ∃ w4 : World, w4 = wr := ⟨_, rfl⟩
              by_cases hlt : k < n
              · obtain ⟨bb, o, rfl, hbl, hc0, hc1⟩ := ((H2.out.keep HB4.out).arr).two hlt
                simp only [RuleC, if_true, if_neg (show ¬ (1 : Nat) = 0 by omega)] at hc0 hc1
                obtain ⟨pc, hpc, hsl⟩ := tail_piece a m (by omega)
                obtain ⟨f, hf⟩ : ∃ f, f = (l.getD k noRule).1 := ⟨_, rfl⟩
                obtain ⟨t, ht⟩ : ∃ t, t = (l.getD k noRule).2 := ⟨_, rfl⟩
                rw [← hf] at hc0
                rw [← ht] at hc1
                have hHP := fun w => Try.strings_HasPrefix f pc w
                obtain ⟨bv, hbv⟩ : ∃ bv, bv = Lib.hasPrefix f.data.toList pc.data.toList := ⟨_, rfl⟩
                simp only [← hbv] at hHP
                have HHP := Lib.hid hHP
                have hbp : bv = true ↔ (a.data.toList.drop (a.size - m)) <+: (l.getD k noRule).1.data.toList := by
                  rw [hbv, hpc, ← hf, Lib.hasPrefix, List.isPrefixOf_iff_prefix]
                have HBP := Lib.hid hbp
                clear hHP hbv hbp hpc hf ht
                have hms : (0 : Int) ≤ (a.size : Int) - (m : Int) := by omega
                cases bv with
                | true =>
                  go_wp2_with fail
                  go_quiet ((go_at_call 20; exact Calls.quiet_of_same (HHP.out _)))
                  go_wp2_with fail
                  go_returns
                  exact ⟨rfl, HB2.out.trans ((below_drewN (HB4.out.alloc hbs _) _).mono HB2.out.size)⟩
                | false =>
                  go_wp2_with fail
                  go_quiet ((go_at_call 20; exact Calls.quiet_of_same (HHP.out _)))
                  go_wp2_with fail
                  go_roundw
                  case rel => exact ⟨k + 1, by omega, by go_num, below_drewN (HB4.out.alloc hbs _) _, fun i hi => by
                                by_cases e : i = k
                                · rw [e]; exact fun hp => by have := HBP.out.mpr hp; cases this
                                · exact HNO.out i (by omega)⟩
                  case measure => simp [intOf]; omega
              · obtain rfl : k = n := by omega
                go_wp2_with fail
                go_roundw
                case rel => exact ⟨m + 1, by omega, by omega, by go_num, HB4.out, fun j h1 h2 k' hk' => by
                              by_cases e : j = m
                              · rw [e]; exact HNO.out k' (by omega)
                              · exact HSH.out j h1 (by omega) k' hk'⟩
                case measure => simp [intOf]; omega
          · obtain rfl : m = q + 1 := by omega
            have hshut : Shut (rulesOf l) a.data.toList := shut_of HOK.out (by rw [← HQ.out]; exact HSH.out)
            have HSHUT := Lib.hid hshut
            have H3 := Lib.hid (H2.out.keep HBW.out)
            have HB3 := Lib.hid (HB2.out.trans (HBW.out.mono HB2.out.size))
            clear hshut HSH HBW
            go_wp2_with fail
            refine (apply_ok A n c l a w3 hl H3.out.arr H.out.sizes HOK.out (by omega)).mono ?_
            rintro e w5 ⟨o1, hr1, hl1, rfl, hb5⟩
            have H5 := Lib.hid (H3.out.keep hb5)
            have HB5 := Lib.hid (HB3.out.trans (hb5.mono HB3.out.size))
            have HR1 := Lib.hid hr1
            clear hr1 hb5
            go_wp2_with fail
            refine (apply_ok A n c l b w5 hl H5.out.arr H.out.sizes HOK.out (by omega)).mono ?_
            rintro e w6 ⟨o2, hr2, hl2, rfl, hb6⟩
            have H6 := Lib.hid (H5.out.keep hb6)
            have HB6 := Lib.hid (HB5.out.trans (hb6.mono HB5.out.size))
            have HR2 := Lib.hid hr2
            clear hr2 hb6
            have habs : (a ++ b).size = a.size + b.size := by simp
            go_wp2_with fail
            refine (apply_ok A n c l (a ++ b) w6 hl H6.out.arr H.out.sizes HOK.out (by omega)).mono ?_
            rintro e w7 ⟨o3, hr3, hl3, rfl, hb7⟩
            have HB7 := Lib.hid (HB6.out.trans (hb7.mono HB6.out.size))
            have ho3 : o3 = o1 ++ o2 := by
              refine hr3.unique HOK.out.fit ?_
              have := HR1.out.behind HOK.out.fit HR2.out HSHUT.out
              simpa using this
            subst ho3
            clear hr3 hb7
            have he := eqB_true (a := ⟨(o1 ++ o2).toArray⟩) (b := ⟨o1.toArray⟩ ++ ⟨o2.toArray⟩) (by rw [ByteArray.mk_append_mk])
            have s1 : (⟨o1.toArray⟩ : ByteArray).size = o1.length := by simp [ByteArray.size]
            have s2 : (⟨o2.toArray⟩ : ByteArray).size = o2.length := by simp [ByteArray.size]
            go_wp2_with fail
            go_returns
            exact ⟨by simp [ByteArray.toList_eq], HB7.out⟩
  · have hne : (x != 0) = true := by simpa using hx0
    go_wp2_with fail
    refine HR.out.mono ?_
    rintro e w2 ⟨rfl, hb2⟩
    have HB2 := Lib.hid (HB1.out.trans (hb2.mono HB1.out.size))
    clear hb2
    go_wp2_with fail
    go_returns
    exact ⟨rfl, HB2.out⟩
end Go.Proofs.Ythjnkpoalbddkaa
