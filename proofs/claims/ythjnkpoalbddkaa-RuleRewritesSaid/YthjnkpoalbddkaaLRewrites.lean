/- RuleRewrites, with its rules and text laid open. -/
import Derived.Test.YthjnkpoalbddkaaLGrows
import Derived.Test.YthjnkpoalbddkaaRApply
namespace Go.Proofs.Ythjnkpoalbddkaa
open Go.RowKit

set_option maxRecDepth 100000 in
set_option maxHeartbeats 8000000 in
theorem law_rewrites (A : Option Addr) (n c : Nat) (l : List SR) (s : ByteArray) (w : World) (h : RulesIn w A n l) :
    Calls Try.prog 3 #[.slice A n c, .string s] w fun e w' => e = .returned (.bool true) ∧ Below w.heap.size w w' := by
  have H := Lib.hid h
  have hz := fun k (hk : k < n) => (h.sizes k hk).1
  have hl := h.len
  have HZ := Lib.hid hz
  clear h hz
  go_enter Try.func3, Try.ntmps3
  rcases rightE_cases l with h0 | h0 | h0
  · have hok := allOk_of h0
    have hn64 := hok.1
    have H0 := Lib.hid h0
    have HOK := Lib.hid hok
    clear h0 hok
    by_cases hs : s.size ≤ 262144
    · have d1 : decide ((262144 : Int) < (s.size : Int)) = false := by simp; omega
      go_wp2_with fail
      refine (apply_ok A n c l s w hl H.out.arr H.out.sizes HOK.out hs).mono ?_
      rintro e w2 ⟨o, hrew, hol, rfl, hb2⟩
      have H2 := Lib.hid (H.out.keep hb2)
      have HB2 := Lib.hid hb2
      have HR1 := Lib.hid hrew
      have hosz : (⟨o.toArray⟩ : ByteArray).size = o.length := by simp [ByteArray.size]
      clear hrew hb2
      go_wp2_with fail
      refine (grow_ok A n c l w2 hl H2.out.arr HZ.out HOK.out).mono ?_
      rintro e w3 ⟨rfl, hb3⟩
      have H3 := Lib.hid (H2.out.keep hb3)
      have HB3 := Lib.hid (HB2.out.trans (hb3.mono HB2.out.size))
      clear hb3
      go_wp2_with fail
      refine (rright_any A n c l w3 hl H.out.le H3.out.arr).mono ?_
      rw [H0.out]
      rintro e w4 ⟨rfl, hb4⟩
      have H4 := Lib.hid (H3.out.keep hb4)
      have HB4 := Lib.hid (HB3.out.trans (hb4.mono HB3.out.size))
      clear hb4
      go_wp2_with fail
      refine (right_any A n c l w4 hl H.out.le H4.out.arr HZ.out).mono ?_
      rw [H0.out]
      rintro e w5 ⟨rfl, hb5⟩
      have H5 := Lib.hid (H4.out.keep hb5)
      have HB5 := Lib.hid (HB4.out.trans (hb5.mono HB4.out.size))
      clear hb5
      obtain ⟨g, hg⟩ : ∃ g, g = growN l n := ⟨_, rfl⟩
      have HRG := Lib.hid (rgrow_ok A n c l w5 hl H5.out.arr HOK.out)
      rw [← hg] at HRG ⊢
      clear hg
      have hgg : ((g : Int) != (g : Int)) = false := by simp
      go_wp2_with fail
      refine HRG.out.mono ?_
      rintro e w6 ⟨rfl, hb6⟩
      have H6 := Lib.hid (H5.out.keep hb6)
      have HB6 := Lib.hid (HB5.out.trans (hb6.mono HB5.out.size))
      clear hb6
      by_cases hs3 : 3000 < s.size
      · have d2 : decide ((3000 : Int) < (s.size : Int)) = true := by simp; omega
        go_wp2_with fail
        go_returns
        exact ⟨by first | rfl | simp, HB6.out⟩
      · have d2 : decide ((3000 : Int) < (s.size : Int)) = false := by simp; omega
        go_wp2_with fail
        refine (rapply_ok A n c l s w6 hl H6.out.arr HOK.out hs).mono ?_
        rintro e w7 ⟨o2, hrew, rfl, hb7⟩
        have HB7 := Lib.hid (HB6.out.trans (hb7.mono HB6.out.size))
        obtain rfl : o2 = o := hrew.unique HOK.out.fit HR1.out
        clear hrew hb7
        go_wp2_with fail
        go_returns
        exact ⟨by first | rfl | simp, HB7.out⟩
    · have d1 : decide ((262144 : Int) < (s.size : Int)) = true := by simp; omega
      go_wp2_with fail
      refine (apply_long A n c l s w hl H.out.le H.out.arr HZ.out H0.out (by omega)).mono ?_
      rintro e w2 ⟨rfl, hb2⟩
      have H2 := Lib.hid (H.out.keep hb2)
      have HB2 := Lib.hid hb2
      clear hb2
      go_wp2_with fail
      refine (grow_ok A n c l w2 hl H2.out.arr HZ.out HOK.out).mono ?_
      rintro e w3 ⟨rfl, hb3⟩
      have H3 := Lib.hid (H2.out.keep hb3)
      have HB3 := Lib.hid (HB2.out.trans (hb3.mono HB2.out.size))
      clear hb3
      go_wp2_with fail
      refine (rright_any A n c l w3 hl H.out.le H3.out.arr).mono ?_
      rw [H0.out]
      rintro e w4 ⟨rfl, hb4⟩
      have H4 := Lib.hid (H3.out.keep hb4)
      have HB4 := Lib.hid (HB3.out.trans (hb4.mono HB3.out.size))
      clear hb4
      go_wp2_with fail
      refine (right_any A n c l w4 hl H.out.le H4.out.arr HZ.out).mono ?_
      rw [H0.out]
      rintro e w5 ⟨rfl, hb5⟩
      have H5 := Lib.hid (H4.out.keep hb5)
      have HB5 := Lib.hid (HB4.out.trans (hb5.mono HB4.out.size))
      clear hb5
      obtain ⟨g, hg⟩ : ∃ g, g = growN l n := ⟨_, rfl⟩
      have HRG := Lib.hid (rgrow_ok A n c l w5 hl H5.out.arr HOK.out)
      rw [← hg] at HRG ⊢
      clear hg
      have hgg : ((g : Int) != (g : Int)) = false := by simp
      go_wp2_with fail
      refine HRG.out.mono ?_
      rintro e w6 ⟨rfl, hb6⟩
      have HB6 := Lib.hid (HB5.out.trans (hb6.mono HB5.out.size))
      clear hb6
      go_wp2_with fail
      go_returns
      exact ⟨by first | rfl | simp, HB6.out⟩
  all_goals
    have H0 := Lib.hid h0
    have HNE : Hid (rightE l ≠ 0) := by show rightE l ≠ 0; rw [h0]; decide
    clear h0
    go_wp2_with fail
    refine (apply_no A n c l s w hl H.out.le H.out.arr HZ.out HNE.out).mono ?_
    rw [H0.out]
    rintro e w2 ⟨rfl, hb2⟩
    have H2 := Lib.hid (H.out.keep hb2)
    have HB2 := Lib.hid hb2
    clear hb2
    go_wp2_with fail
    refine (grow_no A n c l w2 hl H.out.le H2.out.arr HZ.out HNE.out).mono ?_
    rw [H0.out]
    rintro e w3 ⟨rfl, hb3⟩
    have H3 := Lib.hid (H2.out.keep hb3)
    have HB3 := Lib.hid (HB2.out.trans (hb3.mono HB2.out.size))
    clear hb3
    go_wp2_with fail
    refine (rright_any A n c l w3 hl H.out.le H3.out.arr).mono ?_
    rw [H0.out]
    rintro e w4 ⟨rfl, hb4⟩
    have H4 := Lib.hid (H3.out.keep hb4)
    have HB4 := Lib.hid (HB3.out.trans (hb4.mono HB3.out.size))
    clear hb4
    go_wp2_with fail
    refine (right_any A n c l w4 hl H.out.le H4.out.arr HZ.out).mono ?_
    rw [H0.out]
    rintro e w5 ⟨rfl, hb5⟩
    have HB5 := Lib.hid (HB4.out.trans (hb5.mono HB4.out.size))
    clear hb5
    go_wp2_with fail
    go_returns
    exact ⟨by first | rfl | simp, HB5.out⟩
end Go.Proofs.Ythjnkpoalbddkaa
