/- TRight, TIdx, TBld of this seat, in one text. -/
import Derived.Test.YtfjgfabochiflaaChecked
import Derived.Test.YtfjgfabochiflaaBase
import Derived.Handy
import Derived.Lib.Builder
import Derived.Lib.AppendStr
import Derived.Laws.Externs
/- Which rules may be: the reference's Right. -/
namespace Go.Proofs.Ytfjgfabochiflaa.T12
open Go.RowKit

theorem str_ext {a b : ByteArray} (h : a.data.toList = b.data.toList) : a = b := by
  cases a with | mk x => cases b with | mk y => simp at h; rw [h]
theorem eqB_true {a b : ByteArray} (h : a = b) : (a.toList == b.toList) = true := by subst h; simp
theorem eqB_false {a b : ByteArray} (h : a ≠ b) : (a.toList == b.toList) = false := by
  rw [ByteArray.toList_eq, ByteArray.toList_eq]
  simp only [beq_eq_false_iff_ne, ne_eq]
  exact fun e => h (str_ext e)
abbrev SR := ByteArray × ByteArray
def noRule : SR := (⟨#[]⟩, ⟨#[]⟩)
def RuleC (l : List SR) : Nat → Nat → Value := fun k j => if j = 0 then .string (l.getD k noRule).1 else .string (l.getD k noRule).2

/-- may the k-th rule be, behind those ahead of it? -/
structure OkR (l : List SR) (k : Nat) : Prop where
  some : 1 ≤ (l.getD k noRule).1.size
  few : (l.getD k noRule).1.size ≤ 16
  few2 : (l.getD k noRule).2.size ≤ 32
  once : ∀ j, j < k → (l.getD j noRule).1 ≠ (l.getD k noRule).1
open Classical in
noncomputable def rightE (l : List SR) : Int := if 64 < l.length then 2 else if ∀ k, k < l.length → OkR l k then 0 else 110
theorem rightE_long {l : List SR} (h : 64 < l.length) : rightE l = 2 := by unfold rightE; rw [if_pos h]
theorem rightE_ok {l : List SR} (h : ¬ 64 < l.length) (h2 : ∀ k, k < l.length → OkR l k) : rightE l = 0 := by unfold rightE; rw [if_neg h, if_pos h2]
theorem rightE_bad {l : List SR} (h : ¬ 64 < l.length) {k : Nat} (hk : k < l.length) (h2 : ¬ OkR l k) : rightE l = 110 := by unfold rightE; rw [if_neg h, if_neg (fun h3 => h2 (h3 k hk))]

set_option maxRecDepth 100000 in
set_option maxHeartbeats 4000000 in
theorem rright_any (A : Option Addr) (n c : Nat) (l : List SR) (w : World) (hl : l.length = n) (hn : n ≤ 140737488355328) (h : Arr w w.heap.size 2 A n (RuleC l)) :
    Calls Try.prog 36 #[.slice A n c] w fun e w' => e = .returned (.int .i64 (rightE l)) ∧ Below w.heap.size w w' := by
  have H := Lib.hid h
  clear h
  go_enter Try.func36, Try.ntmps36
  by_cases hlong : 64 < n
  · go_wp2_with fail
    go_returns
    exact ⟨ret_int (rightE_long (by omega)).symm, Below.refl _ _⟩
  · have d0 : decide ((64 : Int) < (n : Int)) = false := by simp; omega
    go_wp2_with fail
    go_loopw [11] (fun i wr => ∃ k : Nat, k ≤ n ∧ i = .int .i64 k ∧ Below w.heap.size w wr ∧ ∀ j, j < k → OkR l j) (fun i _ => n - (intOf i).toNat)
    case atStart => exact ⟨0, by omega, rfl, Below.refl _ _, fun j hj => absurd hj (by omega)⟩
    case round =>
      obtain ⟨k, hk, rfl, hb, hok⟩ := hrel
      have HB := Lib.hid hb
      have HOK := Lib.hid hok
      have hbs := hb.size
      clear hb hok
      obtain ⟨w1, rfl⟩ : ∃ w1 : World, w1 = wr := ⟨_, rfl⟩
      by_cases hlt : k < n
      · obtain ⟨b, o, rfl, hbl, hc0, hc1⟩ := (H.out.below HB.out).two hlt
        simp only [RuleC, if_true, if_neg (show ¬ (1 : Nat) = 0 by omega)] at hc0 hc1
        obtain ⟨f, hf⟩ : ∃ f, f = (l.getD k noRule).1 := ⟨_, rfl⟩
        obtain ⟨t, ht⟩ : ∃ t, t = (l.getD k noRule).2 := ⟨_, rfl⟩
        rw [← hf] at hc0
        rw [← ht] at hc1
        have HF := Lib.hid (And.intro hf ht)
        clear hf ht
        by_cases h1 : f.size < 1
        · go_wp2_with fail
          go_returns
          exact ⟨ret_int (rightE_bad (by omega) (k := k) (by omega) (fun ho => by have := ho.some; rw [← HF.out.1] at this; omega)).symm, HB.out.alloc hbs _⟩
        · by_cases h2 : 16 < f.size
          · go_wp2_with fail
            go_returns
            exact ⟨ret_int (rightE_bad (by omega) (k := k) (by omega) (fun ho => by have := ho.few; rw [← HF.out.1] at this; omega)).symm, HB.out.alloc hbs _⟩
          · by_cases h3 : 32 < t.size
            · go_wp2_with fail
              go_returns
              exact ⟨ret_int (rightE_bad (by omega) (k := k) (by omega) (fun ho => by have := ho.few2; rw [← HF.out.2] at this; omega)).symm, HB.out.alloc hbs _⟩
            · have d1 : decide ((f.size : Int) < 1) = false := by simp; omega
              have d2 : decide ((16 : Int) < (f.size : Int)) = false := by simp; omega
              have d3 : decide ((32 : Int) < (t.size : Int)) = false := by simp; omega
              go_wp2_with fail
              have HB2 := Lib.hid (HB.out.alloc hbs (.cells #[.string f, .string t] 114))
              have r0 : (w1.alloc (.cells #[.string f, .string t] 114)).cell? ⟨w1.heap.size, 0, none⟩ = some (.string f) := by simp
              have r1 : (w1.alloc (.cells #[.string f, .string t] 114)).heap.size = w1.heap.size + 1 := by simp
              generalize w1.alloc (.cells #[.string f, .string t] 114) = w2 at HB2 r0 r1 ⊢
              clear d0 d1 d2 d3
              go_loopw [5] (fun i wr => ∃ (j m : Nat), j ≤ k ∧ i = .int .i64 j ∧ wr = w2.drewN m ∧ ∀ a, a < j → (l.getD a noRule).1 ≠ f) (fun i _ => k - (intOf i).toNat)
              case atStart => exact ⟨0, 0, by omega, rfl, rfl, fun j hj => absurd hj (by omega)⟩
              case round =>
                obtain ⟨j, m, hj, rfl, rfl, hno⟩ := hrel
                have HNO := Lib.hid hno
                clear hno
                by_cases hjk : j < k
                · obtain ⟨b', o', e', _, hd0, _⟩ := (H.out.below HB2.out).two (k := j) (by omega)
                  have e2 : b' = b ∧ o' = o := by injection e' with e'; injection e' with e1 e2; exact ⟨e1.symm, e2.symm⟩
                  obtain ⟨rfl, rfl⟩ := e2
                  simp only [RuleC, if_true] at hd0
                  obtain ⟨g, hg⟩ : ∃ g, g = (l.getD j noRule).1 := ⟨_, rfl⟩
                  rw [← hg] at hd0
                  have HG := Lib.hid hg
                  clear hg e'
                  have e1 : (j : Int) < (n : Int) := by omega
                  by_cases hgf : g = f
                  · have hb1 := eqB_true hgf
                    have HGF := Lib.hid hgf
                    clear hgf
                    go_wp2_with fail
                    go_quiet (fail)
                    go_wp2_with fail
                    go_returns
                    exact ⟨ret_int (rightE_bad (by omega) (k := k) (by omega) (fun ho => ho.once j hjk (by rw [← HG.out, HGF.out, ← HF.out.1]))).symm, below_drewN (below_drewN HB2.out _) _⟩
                  · have hb1 := eqB_false hgf
                    have HGF := Lib.hid hgf
                    clear hgf
                    go_wp2_with fail
                    go_quiet (fail)
                    go_wp2_with fail
                    go_roundw
                    case rel => exact ⟨j + 1, _, by omega, by go_num, rfl, fun a ha => by
                                  by_cases h : a < j
                                  · exact HNO.out a h
                                  · obtain rfl : a = j := by omega
                                    rw [← HG.out]; exact HGF.out⟩
                    case measure => simp [intOf]; omega
                · obtain rfl : j = k := by omega
                  go_wp2_with fail
                  go_roundw
                  case rel => exact ⟨j + 1, by omega, by go_num, below_drewN HB2.out m, fun a ha => by
                                by_cases h : a < j
                                · exact HOK.out a h
                                · obtain rfl : a = j := by omega
                                  exact ⟨by rw [← HF.out.1]; omega, by rw [← HF.out.1]; omega, by rw [← HF.out.2]; omega, fun i hi => by rw [← HF.out.1]; exact HNO.out i hi⟩⟩
                  case measure => simp [intOf]; omega
      · go_wp2_with fail
        go_returns
        exact ⟨ret_int (rightE_ok (by omega) (fun j hj => HOK.out j (by omega))).symm, HB.out⟩
end Go.Proofs.Ytfjgfabochiflaa.T12
/- slices.ContainsFunc at the closures of trans.Right. -/
namespace Go.Proofs.Ytfjgfabochiflaa.T12
open Go.RowKit

def NumC (q : IntKind) (xs : List Int) : Nat → Nat → Value := fun k _ => .int q (xs.getD k 0)
def StrC (xs : List ByteArray) : Nat → Nat → Value := fun k _ => .string (xs.getD k ⟨#[]⟩)
/-- is any number out of the range from 0 to N? -/
def AnyOut (xs : List Int) (N : Int) (k : Nat) : Prop := ∃ j, j < k ∧ (xs.getD j 0 < 0 ∨ N ≤ xs.getD j 0)

open Classical in
noncomputable def anyB (xs : List Int) (N : Int) (k : Nat) : Bool := if AnyOut xs N k then true else false
theorem anyB_yes {xs : List Int} {N : Int} {k : Nat} (h : AnyOut xs N k) : anyB xs N k = true := by unfold anyB; rw [if_pos h]
theorem anyB_no {xs : List Int} {N : Int} {k : Nat} (h : ¬ AnyOut xs N k) : anyB xs N k = false := by unfold anyB; rw [if_neg h]
/-- is any text too long? -/
def AnyLong (xs : List ByteArray) (k : Nat) : Prop := ∃ j, j < k ∧ 4096 < (xs.getD j ⟨#[]⟩).size
open Classical in
noncomputable def longB (xs : List ByteArray) (k : Nat) : Bool := if AnyLong xs k then true else false
theorem longB_yes {xs : List ByteArray} {k : Nat} (h : AnyLong xs k) : longB xs k = true := by unfold longB; rw [if_pos h]
theorem longB_no {xs : List ByteArray} {k : Nat} (h : ¬ AnyLong xs k) : longB xs k = false := by unfold longB; rw [if_neg h]

set_option maxHeartbeats 4000000 in
theorem idx44 (A : Option Addr) (n c p : Nat) (xs : List Int) (N : Int) (w : World) (hn : n ≤ 140737488355328) (h : Arr w w.heap.size 1 A n (NumC .i64 xs)) (hp : w.cell? ⟨p, 0, none⟩ = some (.int .i64 N)) :
    Calls Try.prog 69 #[.slice A n c, .func (.func 110) #[] #[.pointer (some ⟨p, 0, none⟩)]] w fun e w' => e = .returned (.bool (anyB xs N n)) ∧ w' = w := by
  have H := Lib.hid h
  clear h
  obtain ⟨bq, hbq⟩ : ∃ bq, bq = anyB xs N n := ⟨_, rfl⟩
  rw [← hbq]
  have HBQ := Lib.hid hbq
  clear hbq
  go_enter Try.func69, Try.ntmps69
  go_wp2
  go_loop [8] (fun i => ∃ k : Nat, k ≤ n ∧ i = .int .i64 k ∧ ¬ AnyOut xs N k) (fun i => n - (intOf i).toNat)
  case atStart => exact ⟨0, by omega, rfl, fun ⟨j, hj, _⟩ => absurd hj (by omega)⟩
  case round =>
    obtain ⟨k, hk, rfl, hno⟩ := hrel
    have HNO := Lib.hid hno
    clear hno
    by_cases hlt : k < n
    · obtain ⟨b, o, rfl, _, hc⟩ := H.out.one hlt
      unfold NumC at hc
      obtain ⟨x, hx⟩ : ∃ x, x = xs.getD k 0 := ⟨_, rfl⟩
      rw [← hx] at hc
      have HX := Lib.hid hx
      clear hx
      by_cases h1 : x < 0
      · have d1 : decide (x < 0) = true := by simpa using h1
        have hb : bq = true := by rw [HBQ.out]; exact anyB_yes ⟨k, by omega, .inl (by rw [← HX.out]; omega)⟩
        subst hb
        go_wp2
        go_returns
        exact ⟨by first | rfl | (simp; done) | (simp; omega), rfl⟩
      · have d1 : decide (x < 0) = false := by simpa using h1
        by_cases h2 : N ≤ x
        · have d2 : decide (N ≤ x) = true := by simpa using h2
          have hb : bq = true := by rw [HBQ.out]; exact anyB_yes ⟨k, by omega, .inr (by rw [← HX.out]; omega)⟩
          subst hb
          go_wp2
          go_returns
          exact ⟨by first | rfl | (simp; done) | (simp; omega), rfl⟩
        · have d2 : decide (N ≤ x) = false := by simpa using h2
          go_wp2
          go_round
          case rel => exact ⟨k + 1, by omega, by go_num, fun ⟨j, hj, h5⟩ => by
                        by_cases e : j = k
                        · rw [e, ← HX.out] at h5; omega
                        · exact HNO.out ⟨j, by omega, h5⟩⟩
          case measure => simp [intOf]; omega
    · obtain rfl : k = n := by omega
      have hb : bq = false := by rw [HBQ.out]; exact anyB_no HNO.out
      subst hb
      go_wp2
      go_returns
      exact ⟨by first | rfl | simp, rfl⟩

set_option maxHeartbeats 4000000 in
theorem idx45 (A : Option Addr) (n c p : Nat) (xs : List Int) (A3 : Option Addr) (n3 c3 : Nat) (w : World) (hn : n ≤ 140737488355328) (h : Arr w w.heap.size 1 A n (NumC .i64 xs)) (hp : w.cell? ⟨p, 3, none⟩ = some (.slice A3 n3 c3)) (hn3 : n3 ≤ 4096) :
    Calls Try.prog 69 #[.slice A n c, .func (.func 111) #[] #[.pointer (some ⟨p, 0, none⟩)]] w fun e w' => e = .returned (.bool (anyB xs (2 * (n3 : Int)) n)) ∧ w' = w := by
  have H := Lib.hid h
  clear h
  obtain ⟨bq, hbq⟩ : ∃ bq, bq = anyB xs (2 * (n3 : Int)) n := ⟨_, rfl⟩
  rw [← hbq]
  have HBQ := Lib.hid hbq
  clear hbq
  have hwr : IntKind.i64.wrap (2 * (n3 : Int)) = 2 * (n3 : Int) := IntWalk.i64_in _ (by omega)
  go_enter Try.func69, Try.ntmps69
  go_wp2
  go_loop [8] (fun i => ∃ k : Nat, k ≤ n ∧ i = .int .i64 k ∧ ¬ AnyOut xs (2 * (n3 : Int)) k) (fun i => n - (intOf i).toNat)
  case atStart => exact ⟨0, by omega, rfl, fun ⟨j, hj, _⟩ => absurd hj (by omega)⟩
  case round =>
    obtain ⟨k, hk, rfl, hno⟩ := hrel
    have HNO := Lib.hid hno
    clear hno
    by_cases hlt : k < n
    · obtain ⟨b, o, rfl, _, hc⟩ := H.out.one hlt
      unfold NumC at hc
      obtain ⟨x, hx⟩ : ∃ x, x = xs.getD k 0 := ⟨_, rfl⟩
      rw [← hx] at hc
      have HX := Lib.hid hx
      clear hx
      by_cases h1 : x < 0
      · have d1 : decide (x < 0) = true := by simpa using h1
        have hb : bq = true := by rw [HBQ.out]; exact anyB_yes ⟨k, by omega, .inl (by rw [← HX.out]; omega)⟩
        subst hb
        go_wp2
        go_returns
        exact ⟨by first | rfl | (simp; done) | (simp; omega), rfl⟩
      · have d1 : decide (x < 0) = false := by simpa using h1
        by_cases h2 : (2 * (n3 : Int)) ≤ x
        · have d2 : decide ((2 * (n3 : Int)) ≤ x) = true := by simpa using h2
          have hb : bq = true := by rw [HBQ.out]; exact anyB_yes ⟨k, by omega, .inr (by rw [← HX.out]; omega)⟩
          subst hb
          go_wp2
          go_returns
          exact ⟨by first | rfl | (simp; done) | (simp; omega), rfl⟩
        · have d2 : decide ((2 * (n3 : Int)) ≤ x) = false := by simpa using h2
          go_wp2
          go_round
          case rel => exact ⟨k + 1, by omega, by go_num, fun ⟨j, hj, h5⟩ => by
                        by_cases e : j = k
                        · rw [e, ← HX.out] at h5; omega
                        · exact HNO.out ⟨j, by omega, h5⟩⟩
          case measure => simp [intOf]; omega
    · obtain rfl : k = n := by omega
      have hb : bq = false := by rw [HBQ.out]; exact anyB_no HNO.out
      subst hb
      go_wp2
      go_returns
      exact ⟨by first | rfl | simp, rfl⟩

set_option maxHeartbeats 4000000 in
theorem idx47 (A : Option Addr) (n c : Nat) (xs : List ByteArray) (w : World) (hn : n ≤ 140737488355328) (h : Arr w w.heap.size 1 A n (StrC xs)) :
    Calls Try.prog 112 #[.slice A n c, .func (.func 113) #[] #[]] w fun e w' => e = .returned (.bool (longB xs n)) ∧ w' = w := by
  have H := Lib.hid h
  clear h
  obtain ⟨bq, hbq⟩ : ∃ bq, bq = longB xs n := ⟨_, rfl⟩
  rw [← hbq]
  have HBQ := Lib.hid hbq
  clear hbq
  go_enter Try.func112, Try.ntmps112
  go_wp2
  go_loop [8] (fun i => ∃ k : Nat, k ≤ n ∧ i = .int .i64 k ∧ ¬ AnyLong xs k) (fun i => n - (intOf i).toNat)
  case atStart => exact ⟨0, by omega, rfl, fun ⟨j, hj, _⟩ => absurd hj (by omega)⟩
  case round =>
    obtain ⟨k, hk, rfl, hno⟩ := hrel
    have HNO := Lib.hid hno
    clear hno
    by_cases hlt : k < n
    · obtain ⟨b, o, rfl, _, hc⟩ := H.out.one hlt
      unfold StrC at hc
      obtain ⟨x, hx⟩ : ∃ x, x = xs.getD k ⟨#[]⟩ := ⟨_, rfl⟩
      rw [← hx] at hc
      have HX := Lib.hid hx
      clear hx
      by_cases h1 : 4096 < x.size
      · have d1 : decide ((4096 : Int) < (x.size : Int)) = true := by simp; omega
        have hb : bq = true := by rw [HBQ.out]; exact longB_yes ⟨k, by omega, by rw [← HX.out]; omega⟩
        subst hb
        go_wp2
        go_returns
        exact ⟨by first | rfl | (simp; done) | (simp; omega), rfl⟩
      · have d1 : decide ((4096 : Int) < (x.size : Int)) = false := by simp; omega
        go_wp2
        go_round
        case rel => exact ⟨k + 1, by omega, by go_num, fun ⟨j, hj, h5⟩ => by
                      by_cases e : j = k
                      · rw [e, ← HX.out] at h5; omega
                      · exact HNO.out ⟨j, by omega, h5⟩⟩
        case measure => simp [intOf]; omega
    · obtain rfl : k = n := by omega
      have hb : bq = false := by rw [HBQ.out]; exact longB_no HNO.out
      subst hb
      go_wp2
      go_returns
      exact ⟨by first | rfl | simp, rfl⟩
end Go.Proofs.Ytfjgfabochiflaa.T12
/- strings.Builder: copyCheck, WriteString, WriteByte at a builder that the call has made itself. -/
namespace Go.Proofs.Ytfjgfabochiflaa.T12
open Go.RowKit

theorem info5 : (Try.prog.info? 5).map (fun i => (i.zero, i.size, i.bytes)) = some (some (.int .u8 0), 1, 1) := by kernel_rfl
theorem info63 : (Try.prog.info? 75).map (fun i => (i.zero.isSome, i.size, i.bytes)) = some (true, 2, 32) := by kernel_rfl
theorem neB5 : (75 : TypeId) ≠ 5 := by decide
theorem lies63 : liesAt Try.prog Try.prog.depth 75 (2 / Try.prog.cellsOf 75) 0 75 1 = true := by kernel_rfl

set_option maxHeartbeats 1000000 in
set_option maxRecDepth 100000 in
theorem copyCheck_used (b : Nat) (w : World) (h0 : w.cell? ⟨b, 0, none⟩ = some (.pointer (some ⟨b, 0, none⟩))) :
    Calls Try.prog 71 #[.pointer (some ⟨b, 0, none⟩)] w fun e w' => e = .returned (.tuple #[]) ∧ w' = w := by
  obtain ⟨j, hj, hjs⟩ := Option.map_eq_some_iff.1 info63
  have hne := fun w => Lib.run_neq_ptr_same (P := Try.prog) w ⟨b, 0, none⟩ Try.underlying73 hj
  go_enter Try.func71, Try.ntmps71
  go_wp2
  go_returns
  exact ⟨rfl, rfl⟩

set_option maxHeartbeats 1000000 in
set_option maxRecDepth 100000 in
theorem copyCheck_fresh (b : Nat) (w : World) (h0 : w.cell? ⟨b, 0, none⟩ = some (.pointer none)) (hsh : w.shape? b = some (75, 2)) (hfz : w.frozen? ⟨b, 0, none⟩ = false) :
    Calls Try.prog 71 #[.pointer (some ⟨b, 0, none⟩)] w fun e w' => e = .returned (.tuple #[]) ∧ w' = w.setCell ⟨b, 0, none⟩ (.pointer (some ⟨b, 0, none⟩)) := by
  obtain ⟨j, hj, hjs⟩ := Option.map_eq_some_iff.1 info63
  have hj2 : j.size ≠ 0 := by
    intro h
    rw [h] at hjs
    simp at hjs
  go_enter Try.func71, Try.ntmps71
  go_wp2
  rw [Lib.run_to_unsafe w ⟨b, 0, none⟩ Try.underlying73 Try.underlying193 hj hj2 hsh (Nat.zero_lt_succ 1)]
  simp only [Result.andThen]
  rw [Oper.upon_value]
  go_wp2
  rw [run_callFunc_extern Try.func105 (by kernel_rfl) (by kernel_rfl) (by kernel_rfl) (e := Extern.AbiNoEscape.same) (by kernel_rfl)]
  rw [Lib.run_noEscape]
  simp only [Result.andThen]
  rw [Oper.upon_value]
  go_wp2
  rw [Lib.run_from_unsafe w ⟨b, 0, none⟩ Try.underlying193 Try.underlying73 hj hsh lies63]
  simp only [Result.andThen]
  rw [Oper.upon_value]
  go_wp2
  go_returns
  exact ⟨rfl, rfl⟩

theorem copyCheck_any (B b : Nat) (bs : List Value) (w : World) (h : Lib.IsBuilder 75 5 B b bs w) :
    Calls Try.prog 71 #[.pointer (some ⟨b, 0, none⟩)] w fun e w' => e = .returned (.tuple #[]) ∧ Lib.BuilderAt 75 5 B b (.pointer (some ⟨b, 0, none⟩)) bs w' ∧ Below B w w' := by
  rcases h with h | h
  · refine (copyCheck_fresh b w h.cell0 h.shape h.frozen0).mono ?_
    rintro e w' ⟨rfl, rfl⟩
    exact ⟨rfl, h.used _, (Below.refl B w).setCell (p := ⟨b, 0, none⟩) h.1 _⟩
  · refine (copyCheck_used b w h.cell0).mono ?_
    rintro e w' ⟨rfl, rfl⟩
    exact ⟨rfl, h, Below.refl B _⟩

set_option maxHeartbeats 2000000 in
set_option maxRecDepth 100000 in
theorem writeByte_any (B b : Nat) (bs : List Value) (c : Int) (w : World) (h : Lib.IsBuilder 75 5 B b bs w) (hlen : bs.length + 1 ≤ 140737488355328) (hBw : B ≤ w.heap.size) :
    Calls Try.prog 58 #[.pointer (some ⟨b, 0, none⟩), .int .u8 c] w fun e w' => e = .returned .nilIface ∧ Lib.IsBuilder 75 5 B b (bs ++ [.int .u8 c]) w' ∧ Below B w w' := by
  obtain ⟨i0, hi, hz0, hz1, hz2⟩ := info_parts info5
  go_enter Try.func58, Try.ntmps58
  go_wp2_with (go_at_call 71; refine (copyCheck_any B b bs _ h).mono ?_)
  rintro e w1 ⟨rfl, h1, hb1⟩
  obtain ⟨hB, v, hbk, hown, hne⟩ := h1
  have c0 : w1.cell? ⟨b, 0, none⟩ = some (.pointer (some ⟨b, 0, none⟩)) := by rw [Lib.cell_of_heap hbk]; rfl
  have c1 : w1.cell? ⟨b, 1, none⟩ = some v := by rw [Lib.cell_of_heap hbk]; rfl
  go_wp2_with (at_builtin; refine wpList_append_own _ rfl _ _ 65 rfl B 5 i0 (.int .u8 0) 1 1 Try.underlying65 hi hz0 hz1 hz2 rfl (by decide) _ _ _ rfl (hown.alloc _) ⟨w1.heap.size, 0, none⟩ 1 1 [.int .u8 c] rfl rfl ?c1 ?c2 ?c3 ?c4 ?c5 ?_)
  case c1 =>
    intro j u hj
    match j, hj with
    | 0, hj => simp at hj; subst hj; simp [Addr.add]
  case c2 => intro u hu; simp at hu; subst hu; rfl
  case c3 => unfold maxLen; omega
  case c4 => omega
  case c5 => have := hb1.size; simp; omega
  intro v' w2 hown' hgrow _
  have hlt : b < w1.heap.size := by
    rcases Nat.lt_or_ge b w1.heap.size with h' | h'
    · exact h'
    · simp [Array.getElem?_eq_none h'] at hbk
  have hb2 : w2.heap[b]? = some (.cells #[.pointer (some ⟨b, 0, none⟩), v] 75 (0, 0)) := by
    rw [hgrow.block b (by simp; omega) (fun e => hne e.symm)]
    exact ((World.grownBy_alloc w1 _ none).block b hlt (by simp)).trans hbk
  have d0 : w2.cell? ⟨b, 0, none⟩ = some (.pointer (some ⟨b, 0, none⟩)) := by rw [Lib.cell_of_heap hb2]; rfl
  have d1 : w2.cell? ⟨b, 1, none⟩ = some v := by rw [Lib.cell_of_heap hb2]; rfl
  have f1 : w2.frozen? ⟨b, 1, none⟩ = false := Lib.frozen_of_heap hb2 1
  obtain ⟨g, cap, rfl⟩ : ∃ g cap, v' = .slice (some ⟨g, 0, none⟩) (bs.length + 1) cap := by
    rcases hown'.2 with ⟨_, h0⟩ | ⟨g, cap, cur, hv, _⟩
    · omega
    · exact ⟨g, cap, hv⟩
  go_wp2
  go_ret
  refine ⟨rfl, .inr ?_, ?_⟩
  · exact Lib.BuilderAt.put (T := 75) (e := 5) hB hb2 (bs' := bs ++ [.int .u8 c]) (by simpa using hown') neB5
  · exact ((hb1.alloc (by have := hb1.size; omega) _).grown hgrow (by have := hb1.size; simp; omega) (fun k hk => (hown.lt k hk).1)).setCell (p := ⟨b, 1, none⟩) hB _

set_option maxHeartbeats 2000000 in
set_option maxRecDepth 100000 in
theorem writeString_any (B b : Nat) (bs : List Value) (s : ByteArray) (w : World) (h : Lib.IsBuilder 75 5 B b bs w) (hlen : bs.length + s.size ≤ 140737488355328) (hBw : B ≤ w.heap.size) :
    Calls Try.prog 33 #[.pointer (some ⟨b, 0, none⟩), .string s] w fun e w' => e = .returned (.tuple #[.int .i64 s.size, .nilIface]) ∧ Lib.IsBuilder 75 5 B b (bs ++ Lib.strCells s) w' ∧ Below B w w' := by
  obtain ⟨i0, hi, hz0, hz1, hz2⟩ := info_parts info5
  go_enter Try.func33, Try.ntmps33
  go_wp2_with (go_at_call 71; refine (copyCheck_any B b bs _ h).mono ?_)
  rintro e w1 ⟨rfl, h1, hb1⟩
  obtain ⟨hB, v, hbk, hown, hne⟩ := h1
  have c0 : w1.cell? ⟨b, 0, none⟩ = some (.pointer (some ⟨b, 0, none⟩)) := by rw [Lib.cell_of_heap hbk]; rfl
  have c1 : w1.cell? ⟨b, 1, none⟩ = some v := by rw [Lib.cell_of_heap hbk]; rfl
  go_wp2_with (at_builtin; refine Lib.wpList_append_own_string _ rfl _ _ 65 9 rfl B 5 i0 Try.underlying65 Try.underlying9 hi hz0 hz1 hz2 _ _ _ rfl hown s rfl ?c3 ?c4 ?c5 ?_)
  case c3 => unfold maxLen; omega
  case c4 => exact hlen
  case c5 => have := hb1.size; omega
  intro v' w2 hown' hgrow _
  have hlt : b < w1.heap.size := by
    rcases Nat.lt_or_ge b w1.heap.size with h' | h'
    · exact h'
    · simp [Array.getElem?_eq_none h'] at hbk
  have hb2 : w2.heap[b]? = some (.cells #[.pointer (some ⟨b, 0, none⟩), v] 75 (0, 0)) := by
    rw [hgrow.block b hlt (fun e => hne e.symm)]
    exact hbk
  have d0 : w2.cell? ⟨b, 0, none⟩ = some (.pointer (some ⟨b, 0, none⟩)) := by rw [Lib.cell_of_heap hb2]; rfl
  have d1 : w2.cell? ⟨b, 1, none⟩ = some v := by rw [Lib.cell_of_heap hb2]; rfl
  have f1 : w2.frozen? ⟨b, 1, none⟩ = false := Lib.frozen_of_heap hb2 1
  obtain ⟨ao, n', cap, rfl⟩ : ∃ ao n' cap, v' = .slice ao n' cap := by
    rcases hown'.2 with ⟨hv, _⟩ | ⟨g, cap, cur, hv, _⟩
    · exact ⟨_, _, _, hv⟩
    · exact ⟨_, _, _, hv⟩
  go_wp2
  go_ret2
  refine ⟨rfl, .inr ?_, ?_⟩
  · exact Lib.BuilderAt.put (T := 75) (e := 5) hB hb2 (bs' := bs ++ Lib.strCells s) (by simpa [Lib.strCells_length] using hown') neB5
  · exact (hb1.grown hgrow (by have := hb1.size; omega) (fun k hk => (hown.lt k hk).1)).setCell (p := ⟨b, 1, none⟩) hB _
end Go.Proofs.Ytfjgfabochiflaa.T12
