/- regex.deep. -/
import Derived.Test.YtfjgfabochiflaaTr
import Derived.OwnWalk
namespace Go.Proofs.Ytfjgfabochiflaa
open Go.RowKit

/-- what deep says of a tree, in every world -/
def DeepAt (t : Tr) : Prop := ∀ (m : Nat) (A : Option Addr) (n c : Nat) (w : World), m ≤ 1000 → TrIn w t A n →
  Calls Try.prog 100 #[.agg #[.int .i64 t.kind, .int .u64 t.s0, .int .u64 t.s1, .int .u64 t.s2, .int .u64 t.s3, .int .i64 t.lo, .int .i64 t.hi, .slice A n c], .int .i64 (m : Int)] w fun e w' =>
    e = .returned (.bool (decide (m < t.height))) ∧ Below w.heap.size w w'

theorem clo37 (k : Tr) (ih : DeepAt k) (m : Nat) (hm : m + 1 ≤ 1000) (A : Option Addr) (n c p : Nat) (w : World) (h : TrIn w k A n) (hp : w.cell? ⟨p, 0, none⟩ = some (.int .i64 ((m : Int) + 1))) (hpl : p < w.heap.size) :
    Calls Try.prog 130 #[.agg #[.int .i64 k.kind, .int .u64 k.s0, .int .u64 k.s1, .int .u64 k.s2, .int .u64 k.s3, .int .i64 k.lo, .int .i64 k.hi, .slice A n c], .pointer (some ⟨p, 0, none⟩)] w fun e w' =>
      e = .returned (.bool (decide (m < k.height))) ∧ Below w.heap.size w w' := by
  obtain ⟨q, hq⟩ : ∃ q, q = decide (m < k.height) := ⟨_, rfl⟩
  rw [← hq]
  have HQ := Lib.hid hq
  clear hq
  have e1 : ((m : Int) + 1 - 1) = (m : Int) := by omega
  have hp2 : (w.alloc (.cells #[.int .i64 k.kind, .int .u64 k.s0, .int .u64 k.s1, .int .u64 k.s2, .int .u64 k.s3, .int .i64 k.lo, .int .i64 k.hi, .slice A n c] 29)).cell? ⟨p, 0, none⟩ = some (.int .i64 ((m : Int) + 1)) := (World.cell?_alloc_lt _ _ _ hpl).trans hp
  go_enter Try.func130, Try.ntmps130
  have hb0 : Below w.heap.size w (w.alloc (.cells #[.int .i64 k.kind, .int .u64 k.s0, .int .u64 k.s1, .int .u64 k.s2, .int .u64 k.s3, .int .i64 k.lo, .int .i64 k.hi, .slice A n c] 29)) := (Below.refl _ _).alloc (Nat.le_refl _) _
  have HT := Lib.hid (h.keep hb0)
  have HB := Lib.hid hb0
  clear h hb0
  go_wp2_with (go_at_call 100; (first | rw [e1] | skip); refine (ih m A n c _ (by omega) HT.out).mono ?_; rintro e w2 ⟨rfl, hb2⟩; rw [← HQ.out]; have HB2 := Lib.hid hb2; clear hb2)
  go_returns
  exact ⟨by first | rfl | simp, HB.out.trans (HB2.out.mono (by simp))⟩

/-- does any of the first so many meet it? -/
def AnyK (f : Tr → Bool) (l : List Tr) (k : Nat) : Prop := ∃ j, j < k ∧ f (l.getD j noTr) = true
open Classical in
noncomputable def anyK (f : Tr → Bool) (l : List Tr) (k : Nat) : Bool := decide (AnyK f l k)
theorem anyK_yes {f : Tr → Bool} {l : List Tr} {k : Nat} (h : AnyK f l k) : anyK f l k = true := by unfold anyK; simpa using h
theorem anyK_no {f : Tr → Bool} {l : List Tr} {k : Nat} (h : ¬ AnyK f l k) : anyK f l k = false := by unfold anyK; simpa using h

set_option maxRecDepth 100000 in
set_option maxHeartbeats 4000000 in
theorem idx37 (t : Tr) (ih : ∀ k, k ∈ t.kids → DeepAt k) (m : Nat) (hm : m + 1 ≤ 1000) (A : Option Addr) (n c p : Nat) (w : World) (h : TrIn w t A n) (hp : w.cell? ⟨p, 0, none⟩ = some (.int .i64 ((m : Int) + 1))) (hpl : p < w.heap.size) :
    Calls Try.prog 140 #[.slice A n c, .func (.func 130) #[] #[.pointer (some ⟨p, 0, none⟩)]] w fun e w' =>
      (∃ r : Int, e = .returned (.int .i64 r) ∧ decide (0 ≤ r) = anyK (fun k => decide (m < k.height)) t.kids n) ∧ Below w.heap.size w w' := by
  obtain ⟨KA, KN, KC, hk⟩ := h.out
  have hle := hk.le
  have hlen := hk.len
  have HK := Lib.hid hk
  clear h hk
  obtain ⟨f, hf⟩ : ∃ f : Tr → Bool, f = fun k => decide (m < k.height) := ⟨_, rfl⟩
  rw [← hf]
  have HF := Lib.hid hf
  clear hf
  go_enter Try.func140, Try.ntmps140
  go_wp2_with fail
  go_loopw [8] (fun i wr => ∃ k : Nat, k ≤ n ∧ i = .int .i64 k ∧ Below w.heap.size w wr ∧ ¬ AnyK f t.kids k) (fun i _ => n - (intOf i).toNat)
  case atStart => exact ⟨0, by omega, rfl, Below.refl _ _, fun ⟨j, hj, _⟩ => absurd hj (by omega)⟩
  case round =>
    obtain ⟨k, hkn, rfl, hb, hno⟩ := hrel
    obtain ⟨w3, rfl⟩ : ∃ w3 : World, w3 = wr := ⟨_, rfl⟩
    have HB := Lib.hid hb
    have HNO := Lib.hid hno
    have hp3 : w3.cell? ⟨p, 0, none⟩ = some (.int .i64 ((m : Int) + 1)) := (hb.cell hpl).trans hp
    have hpl3 : p < w3.heap.size := Nat.lt_of_lt_of_le hpl hb.size
    clear hb hno
    by_cases hlt : k < n
    · obtain ⟨b, o, rfl, hbl, p0, p1, p2, p3, p4, p5, p6, p7⟩ := (HK.out.keep HB.out).eight hlt
      have hkid := (HK.out.keep HB.out).kid k hlt
      have hmem : t.kids.getD k noTr ∈ t.kids := getD_mem (by omega)
      have IH := ih _ hmem
      obtain ⟨kid, hkid'⟩ : ∃ kid, kid = t.kids.getD k noTr := ⟨_, rfl⟩
      rw [← hkid'] at p0 p1 p2 p3 p4 p5 p6 hkid IH
      have HKE := Lib.hid hkid'
      have HKI := Lib.hid hkid
      have HIH := Lib.hid IH
      clear hkid' hmem hkid IH
      have hval : decide (m < kid.height) = f kid := by rw [HF.out]
      obtain ⟨q, hq⟩ : ∃ q, q = f kid := ⟨_, rfl⟩
      have HQ := Lib.hid hq
      have HV := Lib.hid hval
      clear hq hval
      cases q with
      | true =>
        go_wp2_with (go_at_call 130; refine (clo37 kid HIH.out m hm _ _ _ p _ HKI.out hp3 hpl3).mono ?_; rintro e w4 ⟨rfl, hb4⟩; rw [HV.out, ← HQ.out]; have HB4 := Lib.hid hb4; clear hb4)
        go_returns
        refine ⟨⟨_, rfl, ?_⟩, HB.out.trans (HB4.out.mono HB.out.size)⟩
        rw [anyK_yes ⟨k, hlt, by rw [← HKE.out]; exact HQ.out.symm⟩]
        simp
      | false =>
        go_wp2_with (go_at_call 130; refine (clo37 kid HIH.out m hm _ _ _ p _ HKI.out hp3 hpl3).mono ?_; rintro e w4 ⟨rfl, hb4⟩; rw [HV.out, ← HQ.out]; have HB4 := Lib.hid hb4; clear hb4)
        go_roundw
        case rel => exact ⟨k + 1, by omega, by go_num, HB.out.trans (HB4.out.mono HB.out.size), fun ⟨j, hj, h9⟩ => by
                      by_cases e9 : j = k
                      · rw [e9, ← HKE.out, ← HQ.out] at h9; cases h9
                      · exact HNO.out ⟨j, by omega, h9⟩⟩
        case measure => simp [intOf]; omega
    · obtain rfl : k = n := by omega
      go_wp2_with fail
      go_returns
      exact ⟨⟨_, rfl, by rw [anyK_no HNO.out]; simp⟩, HB.out⟩

set_option maxRecDepth 100000 in
theorem cf37 (t : Tr) (ih : ∀ k, k ∈ t.kids → DeepAt k) (m : Nat) (hm : m + 1 ≤ 1000) (A : Option Addr) (n c p : Nat) (w : World) (h : TrIn w t A n) (hp : w.cell? ⟨p, 0, none⟩ = some (.int .i64 ((m : Int) + 1))) (hpl : p < w.heap.size) :
    Calls Try.prog 129 #[.slice A n c, .func (.func 130) #[] #[.pointer (some ⟨p, 0, none⟩)]] w fun e w' =>
      e = .returned (.bool (anyK (fun k => decide (m < k.height)) t.kids n)) ∧ Below w.heap.size w w' := by
  have HC := Lib.hid (idx37 t ih m hm A n c p w h hp hpl)
  clear h ih
  go_enter Try.func129, Try.ntmps129
  go_wp2_with (go_at_call 140; refine HC.out.mono ?_; rintro e w4 ⟨⟨r, rfl, hr⟩, hb4⟩; have HB4 := Lib.hid hb4; have HR := Lib.hid hr; clear hb4 hr)
  go_returns
  exact ⟨by first | rfl | rw [← HR.out]; simp, HB4.out⟩

theorem anyK_height (l : List Tr) (m n : Nat) (hn : l.length = n) : anyK (fun k => decide (m < k.height)) l n = decide (m < heightL l) := by
  have key : ∀ n, n ≤ l.length → (AnyK (fun k => decide (m < k.height)) l n ↔ m < heightL (l.take n)) := fun n => by
    induction n with
    | zero => intro _; simp [AnyK, heightL]
    | succ n ih =>
      intro hn
      rw [take_next l n noTr (by omega), heightL_snoc]
      have ih := ih (by omega)
      constructor
      · rintro ⟨j, hj, h9⟩
        by_cases e9 : j = n
        · subst e9
          have : m < (l.getD j noTr).height := by simpa using h9
          omega
        · have := ih.1 ⟨j, by omega, h9⟩
          omega
      · intro h9
        by_cases e9 : m < (l.getD n noTr).height
        · exact ⟨n, by omega, by simpa using e9⟩
        · obtain ⟨j, hj, h8⟩ := ih.2 (by omega)
          exact ⟨j, by omega, h8⟩
  have h9 := key n (by omega)
  rw [List.take_of_length_le (by omega)] at h9
  by_cases hx : m < heightL l
  · rw [anyK_yes (h9.2 hx)]; simp [hx]
  · rw [anyK_no (fun h => hx (h9.1 h))]; simp [hx]

set_option maxRecDepth 100000 in
theorem deep_any (t : Tr) : DeepAt t := by
  induction t using Tr.ind with
  | h t ih =>
    intro m A n c w hm h
    have hb0 : Below w.heap.size w ((w.alloc (.cells #[.int .i64 t.kind, .int .u64 t.s0, .int .u64 t.s1, .int .u64 t.s2, .int .u64 t.s3, .int .i64 t.lo, .int .i64 t.hi, .slice A n c] 29)).alloc (.cells #[.int .i64 (m : Int)] 3)) :=
      ((Below.refl _ _).alloc (Nat.le_refl _) _).alloc (by simp) _
    have HT := Lib.hid (h.keep hb0)
    obtain ⟨_, _, _, hk⟩ := h.out
    have hlen := hk.len
    have hh : t.height = heightL t.kids + 1 := Tr.height_eq t
    have HH := Lib.hid hh
    have HB := Lib.hid hb0
    clear hk hh h hb0
    cases m with
    | zero =>
      go_enter Try.func100, Try.ntmps100
      have d0 : decide ((0 : Int) = 0) = true := rfl
      go_wp2_with fail
      go_returns
      exact ⟨by rw [HH.out]; simp, HB.out⟩
    | succ m =>
      have hany := anyK_height t.kids m n hlen
      have HANY := Lib.hid hany
      clear hany
      have e1 : (((m + 1 : Nat) : Int) == 0) = false := by simp; omega
      have ec : ((m + 1 : Nat) : Int) = (m : Int) + 1 := by omega
      rw [ec] at e1 HT HB ⊢
      clear ec
      have hcl := cf37 t ih m (by omega) A n c
      have HCL := Lib.hid hcl
      clear hcl ih
      go_enter Try.func100, Try.ntmps100
      go_wp2_with (go_at_call 129; refine (HCL.out (w.heap.size + 1) _ HT.out (by simp) (by simp)).mono ?_; rintro e w4 ⟨rfl, hb4⟩; rw [HANY.out]; have HB4 := Lib.hid hb4; clear hb4)
      go_returns
      exact ⟨by first | rfl | (rw [HH.out]; simp), HB.out.trans (HB4.out.mono HB.out.size)⟩
end Go.Proofs.Ytfjgfabochiflaa
