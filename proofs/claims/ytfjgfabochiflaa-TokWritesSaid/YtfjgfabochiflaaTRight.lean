/- Which rules may be: the reference's Right. -/
import Derived.Test.YtfjgfabochiflaaChecked
import Derived.Test.YtfjgfabochiflaaBase
import Derived.Handy
namespace Go.Proofs.Ytfjgfabochiflaa.T12
open Go.RowKit

theorem str_ext {a b : ByteArray} (h : a.data.toList = b.data.toList) : a = b := by
  cases a with | mk x => cases b with | mk y => simp at h; rw [h]
theorem eqB_true {a b : ByteArray} (h : a = b) : (a.toList == b.toList) = true := by subst h; simp
theorem eqB_false {a b : ByteArray} (h : a ≠ b) : (a.toList == b.toList) = false := by
  rw [ByteArray.toList_eq, ByteArray.toList_eq]
  simp only [beq_eq_false_iff_ne, ne_eq]
  exact fun e => h (str_ext e)
abbrev SR := ByteArray × ByteArray
def noRule : SR := (⟨#[]⟩, ⟨#[]⟩)
def RuleC (l : List SR) : Nat → Nat → Value := fun k j => if j = 0 then .string (l.getD k noRule).1 else .string (l.getD k noRule).2

/-- may the k-th rule be, behind those ahead of it? -/
structure OkR (l : List SR) (k : Nat) : Prop where
  some : 1 ≤ (l.getD k noRule).1.size
  few : (l.getD k noRule).1.size ≤ 16
  few2 : (l.getD k noRule).2.size ≤ 32
  once : ∀ j, j < k → (l.getD j noRule).1 ≠ (l.getD k noRule).1
open Classical in
noncomputable def rightE (l : List SR) : Int := if 64 < l.length then 2 else if ∀ k, k < l.length → OkR l k then 0 else 110
theorem rightE_long {l : List SR} (h : 64 < l.length) : rightE l = 2 := by unfold rightE; rw [if_pos h]
theorem rightE_ok {l : List SR} (h : ¬ 64 < l.length) (h2 : ∀ k, k < l.length → OkR l k) : rightE l = 0 := by unfold rightE; rw [if_neg h, if_pos h2]
theorem rightE_bad {l : List SR} (h : ¬ 64 < l.length) {k : Nat} (hk : k < l.length) (h2 : ¬ OkR l k) : rightE l = 110 := by unfold rightE; rw [if_neg h, if_neg (fun h3 => h2 (h3 k hk))]

set_option maxRecDepth 100000 in
set_option maxHeartbeats 4000000 in
theorem rright_any (A : Option Addr) (n c : Nat) (l : List SR) (w : World) (hl : l.length = n) (hn : n ≤ 140737488355328) (h : Arr w w.heap.size 2 A n (RuleC l)) :
    Calls Try.prog 36 #[.slice A n c] w fun e w' => e = .returned (.int .i64 (rightE l)) ∧ Below w.heap.size w w' := by
  have H := Lib.hid h
  clear h
  go_enter Try.func36, Try.ntmps36
  by_cases hlong : 64 < n
  · go_wp2_with fail
    go_returns
    exact ⟨ret_int (rightE_long (by omega)).symm, Below.refl _ _⟩
  · have d0 : decide ((64 : Int) < (n : Int)) = false := by simp; omega
    go_wp2_with fail
    go_loopw [11] (fun i wr => ∃ k : Nat, k ≤ n ∧ i = .int .i64 k ∧ Below w.heap.size w wr ∧ ∀ j, j < k → OkR l j) (fun i _ => n - (intOf i).toNat)
    case atStart => exact ⟨0, by omega, rfl, Below.refl _ _, fun j hj => absurd hj (by omega)⟩
    case round =>
      obtain ⟨k, hk, rfl, hb, hok⟩ := hrel
      have HB := Lib.hid hb
      have HOK := Lib.hid hok
      have hbs := hb.size
      clear hb hok
      obtain ⟨w1, rfl⟩ : ∃ w1 : World, w1 = wr := ⟨_, rfl⟩
      by_cases hlt : k < n
      · obtain ⟨b, o, rfl, hbl, hc0, hc1⟩ := (H.out.below HB.out).two hlt
        simp only [RuleC, if_true, if_neg (show ¬ (1 : Nat) = 0 by omega)] at hc0 hc1
        obtain ⟨f, hf⟩ : ∃ f, f = (l.getD k noRule).1 := ⟨_, rfl⟩
        obtain ⟨t, ht⟩ : ∃ t, t = (l.getD k noRule).2 := ⟨_, rfl⟩
        rw [← hf] at hc0
        rw [← ht] at hc1
        have HF := Lib.hid (And.intro hf ht)
        clear hf ht
        by_cases h1 : f.size < 1
        · go_wp2_with fail
          go_returns
          exact ⟨ret_int (rightE_bad (by omega) (k := k) (by omega) (fun ho => by have := ho.some; rw [← HF.out.1] at this; omega)).symm, HB.out.alloc hbs _⟩
        · by_cases h2 : 16 < f.size
          · go_wp2_with fail
            go_returns
            exact ⟨ret_int (rightE_bad (by omega) (k := k) (by omega) (fun ho => by have := ho.few; rw [← HF.out.1] at this; omega)).symm, HB.out.alloc hbs _⟩
          · by_cases h3 : 32 < t.size
            · go_wp2_with fail
              go_returns
              exact ⟨ret_int (rightE_bad (by omega) (k := k) (by omega) (fun ho => by have := ho.few2; rw [← HF.out.2] at this; omega)).symm, HB.out.alloc hbs _⟩
            · have d1 : decide ((f.size : Int) < 1) = false := by simp; omega
              have d2 : decide ((16 : Int) < (f.size : Int)) = false := by simp; omega
              have d3 : decide ((32 : Int) < (t.size : Int)) = false := by simp; omega
              go_wp2_with fail
              have HB2 := Lib.hid (HB.out.alloc hbs (.cells #[.string f, .string t] 114))
              have r0 : (w1.alloc (.cells #[.string f, .string t] 114)).cell? ⟨w1.heap.size, 0, none⟩ = some (.string f) := by simp
              have r1 : (w1.alloc (.cells #[.string f, .string t] 114)).heap.size = w1.heap.size + 1 := by simp
              generalize w1.alloc (.cells #[.string f, .string t] 114) = w2 at HB2 r0 r1 ⊢
              clear d0 d1 d2 d3
              go_loopw [5] (fun i wr => ∃ (j m : Nat), j ≤ k ∧ i = .int .i64 j ∧ wr = w2.drewN m ∧ ∀ a, a < j → (l.getD a noRule).1 ≠ f) (fun i _ => k - (intOf i).toNat)
              case atStart => exact ⟨0, 0, by omega, rfl, rfl, fun j hj => absurd hj (by omega)⟩
              case round =>
                obtain ⟨j, m, hj, rfl, rfl, hno⟩ := hrel
                have HNO := Lib.hid hno
                clear hno
                by_cases hjk : j < k
                · obtain ⟨b', o', e', _, hd0, _⟩ := (H.out.below HB2.out).two (k := j) (by omega)
                  have e2 : b' = b ∧ o' = o := by injection e' with e'; injection e' with e1 e2; exact ⟨e1.symm, e2.symm⟩
                  obtain ⟨rfl, rfl⟩ := e2
                  simp only [RuleC, if_true] at hd0
                  obtain ⟨g, hg⟩ : ∃ g, g = (l.getD j noRule).1 := ⟨_, rfl⟩
                  rw [← hg] at hd0
                  have HG := Lib.hid hg
                  clear hg e'
                  have e1 : (j : Int) < (n : Int) := by omega
                  by_cases hgf : g = f
                  · have hb1 := eqB_true hgf
                    have HGF := Lib.hid hgf
                    clear hgf
                    go_wp2_with fail
                    go_quiet (fail)
                    go_wp2_with fail
                    go_returns
                    exact ⟨ret_int (rightE_bad (by omega) (k := k) (by omega) (fun ho => ho.once j hjk (by rw [← HG.out, HGF.out, ← HF.out.1]))).symm, below_drewN (below_drewN HB2.out _) _⟩
                  · have hb1 := eqB_false hgf
                    have HGF := Lib.hid hgf
                    clear hgf
                    go_wp2_with fail
                    go_quiet (fail)
                    go_wp2_with fail
                    go_roundw
                    case rel => exact ⟨j + 1, _, by omega, by go_num, rfl, fun a ha => by
                                  by_cases h : a < j
                                  · exact HNO.out a h
                                  · obtain rfl : a = j := by omega
                                    rw [← HG.out]; exact HGF.out⟩
                    case measure => simp [intOf]; omega
                · obtain rfl : j = k := by omega
                  go_wp2_with fail
                  go_roundw
                  case rel => exact ⟨j + 1, by omega, by go_num, below_drewN HB2.out m, fun a ha => by
                                by_cases h : a < j
                                · exact HOK.out a h
                                · obtain rfl : a = j := by omega
                                  exact ⟨by rw [← HF.out.1]; omega, by rw [← HF.out.1]; omega, by rw [← HF.out.2]; omega, fun i hi => by rw [← HF.out.1]; exact HNO.out i hi⟩⟩
                  case measure => simp [intOf]; omega
      · go_wp2_with fail
        go_returns
        exact ⟨ret_int (rightE_ok (by omega) (fun j hj => HOK.out j (by omega))).symm, HB.out⟩
end Go.Proofs.Ytfjgfabochiflaa.T12
