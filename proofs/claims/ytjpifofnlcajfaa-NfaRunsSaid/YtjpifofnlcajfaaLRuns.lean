/- NfaRuns and NfaEmpty, with the automaton, the text and the place laid open. -/
import Derived.Test.YtjpifofnlcajfaaRRuns
import Derived.Test.YtjpifofnlcajfaaLFree
namespace Go.Proofs.Ytjpifofnlcajfaa
open Go.RowKit

/-- a text's first so many bytes -/
def cutS (s : ByteArray) (k : Nat) : ByteArray := if k < s.size then s.extract 0 k else s
theorem cutS_le (s : ByteArray) (k : Nat) : (cutS s k).size ≤ k := by
  unfold cutS
  split
  · rw [ByteArray.size_extract]; omega
  · omega
set_option maxRecDepth 100000 in
theorem short_any (s : ByteArray) (k : Nat) (hk : k < 1000000) (w : World) :
    Calls Try.prog 12 #[.string s, .int .i64 k] w fun e w' => e = .returned (.string (cutS s k)) ∧ w' = w := by
  have hsl : k < s.size → ∀ W, (Instr.slice 9 (.string s) none (some (.int .i64 (k : Int))) none).run Try.prog W = .ok (.string (s.extract 0 k)) W := fun h W => by
    rw [run_slice_string_to_if W 9 s .i64 _ Try.underlying9, if_pos ⟨by omega, by omega⟩]
    rfl
  have HSL := Lib.hid hsl
  clear hsl
  go_enter Try.func12, Try.ntmps12
  by_cases h : k < s.size
  · have e1 : decide ((k : Int) < (s.size : Int)) = true := by simp; omega
    have h1 := HSL.out h
    go_wp2_with fail
    go_returns
    exact ⟨by unfold cutS; rw [if_pos h]; rfl, rfl⟩
  · have e1 : decide ((k : Int) < (s.size : Int)) = false := by simp; omega
    go_wp2_with fail
    go_returns
    exact ⟨by unfold cutS; rw [if_neg h]; rfl, rfl⟩

set_option maxRecDepth 100000 in
set_option maxHeartbeats 8000000 in
theorem ends_no (A : Option Addr) (n c : Nat) (S a z : Int) (E : List Ed) (s : ByteArray) (x : Int) (w : World) (h : NfaIn w A n ⟨S, a, z, E⟩) (hno : ¬ (RightN ⟨S, a, z, E⟩ ∧ 0 ≤ x ∧ x ≤ (s.size : Int))) :
    Calls Try.prog 13 #[.agg #[.int .i64 S, .int .i64 a, .int .i64 z, .slice A n c], .string s, .int .i64 x] w fun e w' => e = .returned (.slice none 0 0) ∧ Below w.heap.size w w' := by
  obtain ⟨W1, hW1⟩ : ∃ W1, W1 = ((w.alloc (.cells #[.int .i64 S, .int .i64 a, .int .i64 z, .slice A n c] 24)).alloc (.cells #[.string s] 9)).alloc (.cells #[.int .i64 x] 3) := ⟨_, rfl⟩
  have hs1 : W1.heap.size = w.heap.size + 3 := by rw [hW1]; simp
  have hb1 : Below w.heap.size w W1 := by rw [hW1]; exact (((Below.refl _ _).alloc (Nat.le_refl _) _).alloc (by simp) _).alloc (by simp; omega) _
  have hsb1 : Boxed W1 (w.heap.size + 1) 9 (.string s) := by
    have := (Boxed.new (w.alloc (.cells #[.int .i64 S, .int .i64 a, .int .i64 z, .slice A n c] 24)) 9 (.string s)).alloc (.cells #[.int .i64 x] 3)
    rw [World.size_alloc] at this
    rw [hW1]; exact this
  have hab1 : Boxed W1 (w.heap.size + 2) 3 (.int .i64 x) := by
    have := Boxed.new ((w.alloc (.cells #[.int .i64 S, .int .i64 a, .int .i64 z, .slice A n c] 24)).alloc (.cells #[.string s] 9)) 3 (.int .i64 x)
    rw [World.size_alloc, World.size_alloc] at this
    rw [hW1]; exact this
  have HRT := Lib.hid (nright_any A n c S a z E W1 (h.keep hb1))
  obtain ⟨bq, hbq⟩ : ∃ bq, bq = rightN ⟨S, a, z, E⟩ := ⟨_, rfl⟩
  rw [← hbq] at HRT
  have hcase : bq = false ∨ (bq = true ∧ x < 0) ∨ (bq = true ∧ 0 ≤ x ∧ (s.size : Int) < x) := by
    by_cases hr : RightN ⟨S, a, z, E⟩
    · rw [rightN_yes hr] at hbq
      have : ¬ (0 ≤ x ∧ x ≤ (s.size : Int)) := fun h9 => hno ⟨hr, h9⟩
      rcases (by omega : x < 0 ∨ (0 ≤ x ∧ (s.size : Int) < x)) with h9 | h9
      · exact .inr (.inl ⟨hbq, h9⟩)
      · exact .inr (.inr ⟨hbq, h9⟩)
    · rw [rightN_no hr] at hbq; exact .inl hbq
  have HB1 := Lib.hid hb1
  have HNB1 := Lib.hid (And.intro hsb1 hab1)
  clear h hb1 hsb1 hab1 hno hbq
  go_enter Try.func13, Try.ntmps13
  go_wp2_with fail
  rw [← hW1]
  refine HRT.out.mono ?_
  rintro e w2 ⟨rfl, hb2⟩
  have hs2 := hb2.size
  have hm4 : Boxed w2 (w.heap.size + 1) 9 (.string s) := (hb2.block _ HNB1.out.1.lt).trans HNB1.out.1
  have hm5 : Boxed w2 (w.heap.size + 2) 3 (.int .i64 x) := (hb2.block _ HNB1.out.2.lt).trans HNB1.out.2
  have m4 := hm4.cell
  have m5 := hm5.cell
  clear hm4 hm5
  have HB2 := Lib.hid (HB1.out.trans (hb2.mono (by omega)))
  clear hb2
  rcases hcase with rfl | ⟨rfl, hx⟩ | ⟨rfl, hx, hy⟩
  · go_wp2_with fail
    go_returns
    exact ⟨by first | rfl | simp, HB2.out⟩
  · have d1 : decide (x < 0) = true := by simpa using hx
    go_wp2_with fail
    go_returns
    exact ⟨by first | rfl | simp, HB2.out⟩
  · have d1 : decide (x < 0) = false := by simp; omega
    have d2 : decide ((s.size : Int) < x) = true := by simpa using hy
    go_wp2_with fail
    go_returns
    exact ⟨by first | rfl | simp, HB2.out⟩

theorem u64w_of {x : Int} (h : (Lit.int .u64 x).wf = true) : U64w x := by
  have h1 : IntKind.u64.min = 0 := by decide
  have h2 : IntKind.u64.max = 18446744073709551615 := by decide
  simp only [Lit.wf, Bool.and_eq_true, decide_eq_true_eq, h1, h2] at h
  unfold U64w
  omega
theorem endsN_len (E : List Ed) (S : Nat) (a z : Int) (s : ByteArray) (p0 : Nat) : (endsN E S a z s p0).length ≤ s.size + 1 := by
  unfold endsN
  exact Nat.le_trans (outsTo_len _ _ _) (by omega)

set_option maxRecDepth 100000 in
set_option maxHeartbeats 8000000 in
theorem law_nruns (A : Option Addr) (n c : Nat) (S a z : Int) (E : List Ed) (s : ByteArray) (x : Int) (w : World) (h : NfaIn w A n ⟨S, a, z, E⟩)
    (hu : ∀ e ∈ E, U64w e.s0 ∧ U64w e.s1 ∧ U64w e.s2 ∧ U64w e.s3) :
    Calls Try.prog 4 #[.agg #[.int .i64 S, .int .i64 a, .int .i64 z, .slice A n c], .string s, .int .i64 x] w fun e w' => e = .returned (.bool true) ∧ Below w.heap.size w w' := by
  have L1 := Lib.hid (NL.start (c := c) (A2 := none) (n2 := 0) (L := []) h (fun h9 => by omega))
  have HR1 := Lib.hid (fun W (hW : NL w A n c S a z E none 0 [] W) => nright_any A n c S a z E W hW.nfa)
  have HR2 := Lib.hid (fun W (hW : NL w A n c S a z E none 0 [] W) => nrright_any A n c S a z E W hW.nfa)
  have HFW := Lib.hid (fun W => few_any A n c S a z W (by have := h.le; exact this))
  have HQ := Lib.hid (fun W (hW : NL w A n c S a z E none 0 [] W) => And.intro hW.b0 (And.intro hW.b1 (And.intro hW.b2 hW.b3)))
  have hcs := cutS_le s 60
  have HSH := Lib.hid (fun W => short_any s 60 (by omega) W)
  obtain ⟨s', hs'⟩ : ∃ s', s' = cutS s 60 := ⟨_, rfl⟩
  rw [← hs'] at hcs HSH
  obtain ⟨bq, hbq⟩ : ∃ bq, bq = rightN ⟨S, a, z, E⟩ := ⟨_, rfl⟩
  rw [← hbq] at HR1 HR2
  have HBQ := Lib.hid hbq
  have HU := Lib.hid hu
  have bb : (bq != bq) = false := by simp
  have b0 := L1.out.b0
  have b1 := L1.out.b1
  have b2 := L1.out.b2
  have b3 := L1.out.b3
  clear h hu hs' hbq
  go_enter Try.func4, Try.ntmps4
  go_wp2_with fail
  generalize w.alloc (.cells #[.int .i64 S, .int .i64 a, .int .i64 z, .slice A n c] 24) = w1 at L1 b0 b1 b2 b3 ⊢
  go_region_held3 (fun w' => NL w A n c S a z E none 0 [] w' ∧ w'.cell? ⟨w.heap.size, 0, none⟩ = some (.int .i64 S) ∧ w'.cell? ⟨w.heap.size, 1, none⟩ = some (.int .i64 a) ∧ w'.cell? ⟨w.heap.size, 2, none⟩ = some (.int .i64 z) ∧ w'.cell? ⟨w.heap.size, 3, none⟩ = some (.slice A n c))
    (first
      | assumption
      | exact ⟨L9, HQ.out _ L9⟩
      | exact ⟨L1.out.go (Below.refl _ _).drew, b0, b1, b2, b3⟩)
    (first
      | (go_at_call 11; go_split_ands; refine (HR1.out _ (by assumption)).mono ?_; rintro e w9 ⟨rfl, hb9⟩; have L9 : NL w A n c S a z E none 0 [] w9 := NL.go (by assumption) hb9)
      | (go_at_call 7; go_split_ands; refine (HR2.out _ (by assumption)).mono ?_; rintro e w9 ⟨rfl, hb9⟩; have L9 : NL w A n c S a z E none 0 [] w9 := NL.go (by assumption) hb9))
  have hL9 := L9
  clear hb9
  have M := Lib.hid hL9
  have q0 := hL9.b0
  have q1 := hL9.b1
  have q2 := hL9.b2
  have q3 := hL9.b3
  clear hL9
  generalize w9 = w2 at M q0 q1 q2 q3 ⊢
  clear L9 L1 b0 b1 b2 b3
  go_wp2_with fail
  refine (HSH.out _).mono ?_
  rintro e w3 ⟨rfl, rfl⟩
  by_cases hok : RightN ⟨S, a, z, E⟩ ∧ 0 ≤ x ∧ x ≤ (s'.size : Int)
  · obtain ⟨hr, h0, h1⟩ := hok
    obtain ⟨p, rfl⟩ := Int.eq_ofNat_of_zero_le h0
    obtain ⟨S, rfl⟩ := Int.eq_ofNat_of_zero_le (show 0 ≤ S by have : (1 : Int) ≤ S := hr.lo; omega)
    have hp : p ≤ s'.size := by omega
    obtain rfl : bq = true := by rw [HBQ.out]; exact rightN_yes hr
    have HE := Lib.hid (fun W (hW : NL w A n c (S : Int) a z E none 0 [] W) => ends_ok A n c S a z E s' p W hW.nfa hr HU.out hp (by omega))
    have HRR := Lib.hid (fun W (hW : NL w A n c (S : Int) a z E none 0 [] W) => rruns_ok A n c S a z E s' p W hW.nfa hr HU.out hp (by omega))
    have hen := endsN_len E S a z s' p
    obtain ⟨L, hL⟩ : ∃ L, L = endsN E S a z s' p := ⟨_, rfl⟩
    rw [← hL] at HE HRR hen
    obtain ⟨m, hm⟩ : ∃ m, m = L.length := ⟨_, rfl⟩
    rw [← hm] at HE HRR hen
    have d1 : decide ((p : Int) < 0) = false := by simp
    have d2 : decide ((s'.size : Int) < (p : Int)) = false := by simp; omega
    have d3 : decide (s'.size < p) = false := by simp; omega
    clear hL hm hr
    go_wp2_with fail
    refine (HE.out _ M.out).mono ?_
    rintro e w3 ⟨A9, c9, rfl, harr, hb3⟩
    have M3 := Lib.hid (M.out.go hb3)
    have HA3 := Lib.hid harr
    clear hb3 harr q0 q1 q2 q3
    have q0 := M3.out.b0
    have q1 := M3.out.b1
    have q2 := M3.out.b2
    have q3 := M3.out.b3
    go_wp2_with fail
    refine (HR2.out _ M3.out).mono ?_
    rintro e w4 ⟨rfl, hb4⟩
    have M4 := Lib.hid (M3.out.go hb4)
    have HA4 := Lib.hid ((HA3.out.below hb4).more hb4.size)
    clear hb4 q0 q1 q2 q3 HA3
    have q0 := M4.out.b0
    have q1 := M4.out.b1
    have q2 := M4.out.b2
    have q3 := M4.out.b3
    go_wp2_with fail
    refine (HFW.out w4).mono ?_
    rintro e w5 ⟨rfl, hb5⟩
    have M5 := Lib.hid (M4.out.go hb5)
    have HA5 := Lib.hid ((HA4.out.below hb5).more hb5.size)
    clear hb5 q0 q1 q2 q3 HA4
    have q0 := M5.out.b0
    have q1 := M5.out.b1
    have q2 := M5.out.b2
    have q3 := M5.out.b3
    obtain ⟨fw, hfw⟩ : ∃ fw, fw = (decide ((S : Int) ≤ 60) && decide (n ≤ 200)) := ⟨_, rfl⟩
    rw [← hfw]
    clear hfw
    cases fw with
    | false =>
      go_wp2_with fail
      go_returns
      exact ⟨by first | rfl | simp, M5.out.bel⟩
    | true =>
      go_wp2_with fail
      refine (HRR.out _ M5.out).mono ?_
      rintro e w6 ⟨A8, c8, rfl, harr8, hb6⟩
      have M6 := Lib.hid (M5.out.go hb6)
      have HA6 := Lib.hid ((HA5.out.below hb6).more hb6.size)
      have HA8 := Lib.hid harr8
      clear hb6 q0 q1 q2 q3 HA5 harr8
      go_wp2_with fail
      refine (ints_same A9 A8 m c9 c8 L w6 (by omega) HA6.out HA8.out).mono ?_
      rintro e w7 ⟨rfl, mq, rfl⟩
      go_wp2_with fail
      go_returns
      exact ⟨by first | rfl | simp, (M6.out.go (below_drewN (Below.refl _ _) mq)).bel⟩
  · have HE := Lib.hid (fun W (hW : NL w A n c S a z E none 0 [] W) => ends_no A n c S a z E s' x W hW.nfa hok)
    have hcase : bq = false ∨ (bq = true ∧ x < 0) ∨ (bq = true ∧ 0 ≤ x ∧ (s'.size : Int) < x) := by
      by_cases hr : RightN ⟨S, a, z, E⟩
      · have hb : bq = true := by rw [HBQ.out]; exact rightN_yes hr
        have : ¬ (0 ≤ x ∧ x ≤ (s'.size : Int)) := fun h9 => hok ⟨hr, h9⟩
        rcases (by omega : x < 0 ∨ (0 ≤ x ∧ (s'.size : Int) < x)) with h9 | h9
        · exact .inr (.inl ⟨hb, h9⟩)
        · exact .inr (.inr ⟨hb, h9⟩)
      · exact .inl (by rw [HBQ.out]; exact rightN_no hr)
    clear hok
    go_wp2_with fail
    refine (HE.out _ M.out).mono ?_
    rintro e w3 ⟨rfl, hb3⟩
    have M3 := Lib.hid (M.out.go hb3)
    clear hb3 q0 q1 q2 q3
    have q0 := M3.out.b0
    have q1 := M3.out.b1
    have q2 := M3.out.b2
    have q3 := M3.out.b3
    go_wp2_with fail
    refine (HR2.out _ M3.out).mono ?_
    rintro e w4 ⟨rfl, hb4⟩
    have M4 := Lib.hid (M3.out.go hb4)
    clear hb4 q0 q1 q2 q3
    rcases hcase with rfl | ⟨rfl, hx⟩ | ⟨rfl, hx, hy⟩
    · go_wp2_with fail
      go_returns
      exact ⟨by first | rfl | simp, M4.out.bel⟩
    · have d1 : decide (x < 0) = true := by simpa using hx
      go_wp2_with fail
      go_returns
      exact ⟨by first | rfl | simp, M4.out.bel⟩
    · have d1 : decide (x < 0) = false := by simp; omega
      have d2 : decide ((s'.size : Int) < x) = true := by simpa using hy
      go_wp2_with fail
      go_returns
      exact ⟨by first | rfl | simp, M4.out.bel⟩

theorem mem_freeL {E : List Ed} {S : Nat} {L : List Int} (hE : OkE E S) (i : Int) : i ∈ freeL E S L ↔ Rch E S L i := by
  unfold freeL
  simp only [List.mem_map, List.mem_filter, List.mem_range, decide_eq_true_eq]
  constructor
  · rintro ⟨j', ⟨h8, h9⟩, rfl⟩; exact h9
  · intro h9
    obtain ⟨h7, h8⟩ := h9.range hE
    exact ⟨i.toNat, ⟨by omega, by rw [Int.toNat_of_nonneg h7]; exact h9⟩, Int.toNat_of_nonneg h7⟩

set_option maxRecDepth 100000 in
set_option maxHeartbeats 8000000 in
theorem law_nempty (A : Option Addr) (n c : Nat) (S a z : Int) (E : List Ed) (w : World) (h : NfaIn w A n ⟨S, a, z, E⟩)
    (hu : ∀ e ∈ E, U64w e.s0 ∧ U64w e.s1 ∧ U64w e.s2 ∧ U64w e.s3) :
    Calls Try.prog 5 #[.agg #[.int .i64 S, .int .i64 a, .int .i64 z, .slice A n c]] w fun e w' => e = .returned (.bool true) ∧ Below w.heap.size w w' := by
  have L1 := Lib.hid (NL.start (c := c) (A2 := none) (n2 := 0) (L := []) h (fun h9 => by omega))
  have HR1 := Lib.hid (fun W (hW : NL w A n c S a z E none 0 [] W) => nright_any A n c S a z E W hW.nfa)
  have HR2 := Lib.hid (fun W (hW : NL w A n c S a z E none 0 [] W) => nrright_any A n c S a z E W hW.nfa)
  have HU := Lib.hid hu
  have b0 := L1.out.b0
  have b1 := L1.out.b1
  have b2 := L1.out.b2
  have b3 := L1.out.b3
  clear h hu
  by_cases hr : RightN ⟨S, a, z, E⟩
  · obtain ⟨S, rfl⟩ := Int.eq_ofNat_of_zero_le (show 0 ≤ S by have : (1 : Int) ≤ S := hr.lo; omega)
    have hz0 : 0 ≤ z := hr.zlo
    have hzS : z < (S : Int) := hr.zhi
    have ha0 : 0 ≤ a := hr.alo
    have haS : a < (S : Int) := hr.ahi
    rw [rightN_yes hr] at HR1 HR2
    have HR := Lib.hid hr
    have hes : (⟨#[]⟩ : ByteArray).size = 0 := rfl
    have HE := Lib.hid (fun W (hW : NL w A n c (S : Int) a z E none 0 [] W) => ends_ok A n c S a z E ⟨#[]⟩ 0 W hW.nfa hr HU.out (by omega) (by rw [hes]; omega))
    have HF := Lib.hid (fun A2 W (hW : NL w A n c (S : Int) a z E none 0 [] W) (h1 : Arr W W.heap.size 1 A2 1 (NumC .i64 [a])) => free_ok A n c S a z E A2 1 1 [a] W hW.nfa hr rfl (by omega) h1)
    obtain ⟨fl, hfl⟩ : ∃ fl, fl = freeL E S [a] := ⟨_, rfl⟩
    rw [← hfl] at HF
    obtain ⟨bz, hbz⟩ : ∃ bz, bz = onB E S a z ⟨#[]⟩ 0 0 := ⟨_, rfl⟩
    have hmem : z ∈ fl ↔ bz = true := by
      rw [hfl, hbz, mem_freeL (okE_of hr), onB_iff]
      exact on_start (by simp) ⟨ha0, haS⟩ z
    have hflen : fl.length ≤ S := by rw [hfl]; unfold freeL; exact filter_few _ S
    have hS : S ≤ 2000 := by have : (S : Int) ≤ 2000 := hr.hi; omega
    obtain ⟨L, hL⟩ : ∃ L, L = endsN E S a z ⟨#[]⟩ 0 := ⟨_, rfl⟩
    have hLn : L.length = if bz = true then 1 else 0 := by
      rw [hL]
      unfold endsN
      rw [show (⟨#[]⟩ : ByteArray).size + 1 - 0 = 0 + 1 from rfl, outsTo_next, ← hbz]
      by_cases h9 : bz = true
      · rw [if_pos h9, if_pos h9]; simp [outsTo]
      · rw [if_neg h9, if_neg h9]; simp [outsTo]
    rw [← hL] at HE
    obtain ⟨ln, hl2⟩ : ∃ ln, ln = L.length := ⟨_, rfl⟩
    rw [← hl2] at HE hLn
    have HLN := Lib.hid hLn
    clear hl2
    have HM := Lib.hid hmem
    clear hL hLn hbz hfl hmem hr hes
    obtain ⟨m, hm⟩ : ∃ m, m = fl.length := ⟨_, rfl⟩
    rw [← hm] at HF hflen
    have HMM := Lib.hid hm
    clear hm
    go_enter Try.func5, Try.ntmps5
    go_wp2_with fail
    generalize w.alloc (.cells #[.int .i64 (S : Int), .int .i64 a, .int .i64 z, .slice A n c] 24) = w1 at L1 b0 b1 b2 b3 ⊢
    refine (HE.out _ L1.out).mono ?_
    rintro e w2 ⟨A9, c9, rfl, harr, hb2⟩
    have L2 := Lib.hid (L1.out.go hb2)
    clear hb2 b0 b1 b2 b3 harr
    have b0 := L2.out.b0
    have b1 := L2.out.b1
    have b2 := L2.out.b2
    have b3 := L2.out.b3
    go_wp2_with fail
    refine (HR2.out _ L2.out).mono ?_
    rintro e w3 ⟨rfl, hb3⟩
    have L3 := Lib.hid (L2.out.go hb3)
    clear hb3 b0 b1 b2 b3
    have b0 := L3.out.b0
    have b1 := L3.out.b1
    have b2 := L3.out.b2
    have b3 := L3.out.b3
    go_wp2_with fail
    have L4 := Lib.hid (L3.out.go ((Below.refl w3.heap.size w3).alloc (Nat.le_refl _) (.cells #[.int .i64 a] 3)))
    have har : Arr (w3.alloc (.cells #[.int .i64 a] 3)) (w3.alloc (.cells #[.int .i64 a] 3)).heap.size 1 (some ⟨w3.heap.size, 0, none⟩) 1 (NumC .i64 [a]) := fun _ => by
      refine ⟨w3.heap.size, 0, rfl, by simp, fun k j hk hj => ?_⟩
      obtain rfl : k = 0 := by omega
      obtain rfl : j = 0 := by omega
      simp [NumC]
    refine (HF.out _ _ L4.out har).mono ?_
    rintro e w5 ⟨A8, c8, rfl, harr, hb5⟩
    have L5 := Lib.hid (L4.out.go hb5)
    have HA8 := Lib.hid harr
    clear hb5 b0 b1 b2 b3 harr har L4
    go_wp2_with fail
    go_loopw [4, 26] (fun rv i wr => ∃ (k mq : Nat) (rb : Bool), k ≤ m ∧ i = .int .i64 k ∧ rv = .bool rb ∧ (rb = true ↔ z ∈ fl.take k) ∧ wr = w5.drewN mq) (fun _ i _ => m - (intOf i).toNat)
    case atStart => exact ⟨0, 0, false, by omega, rfl, rfl, by simp, rfl⟩
    case round =>
      obtain ⟨k, mq, rb, hk, rfl, rfl, hrb, rfl⟩ := hrel
      have HRB := Lib.hid hrb
      have b2 : (w5.drewN mq).cell? ⟨w.heap.size, 2, none⟩ = some (.int .i64 z) := L5.out.b2
      have b1 : (w5.drewN mq).cell? ⟨w.heap.size, 1, none⟩ = some (.int .i64 a) := L5.out.b1
      have b0 : (w5.drewN mq).cell? ⟨w.heap.size, 0, none⟩ = some (.int .i64 S) := L5.out.b0
      have b3 : (w5.drewN mq).cell? ⟨w.heap.size, 3, none⟩ = some (.slice A n c) := L5.out.b3
      clear hrb
      by_cases hlt : k < m
      · obtain ⟨b, o, rfl, _, hc⟩ := HA8.out.one hlt
        have hc' : (w5.drewN mq).cell? ⟨b, o + k, none⟩ = some (.int .i64 (fl.getD k 0)) := hc
        have htk : fl.take (k + 1) = fl.take k ++ [fl.getD k 0] := by
          have : k < fl.length := by rw [← HMM.out]; exact hlt
          rw [List.take_succ_eq_append_getElem this]
          simp [this]
        obtain ⟨y, hy⟩ : ∃ y, y = fl.getD k 0 := ⟨_, rfl⟩
        rw [← hy] at hc' htk
        have HTK := Lib.hid htk
        clear hc htk hy
        have hkm : (k : Int) < (m : Int) := by omega
        cases rb with
        | true =>
          go_wp2_with fail
          go_roundw
          case rel => exact ⟨k + 1, mq, true, by omega, by go_num, rfl, by rw [HTK.out]; simp [HRB.out.1 rfl], rfl⟩
          case measure => simp [intOf]; omega
        | false =>
          have hno : ¬ z ∈ fl.take k := fun h9 => by have := HRB.out.2 h9; cases this
          have HNO := Lib.hid hno
          obtain ⟨eb, heb⟩ : ∃ eb, eb = (y == z) := ⟨_, rfl⟩
          have heb' : eb = true ↔ y = z := by rw [heb]; simp
          have HEB := Lib.hid heb'
          have hey : (y == z) = eb := heb.symm
          clear heb heb' hno
          go_wp2_with fail
          go_roundw
          case rel => exact ⟨k + 1, mq, eb, by omega, by go_num, rfl, by rw [HTK.out, HEB.out]; simp [HNO.out, eq_comm], rfl⟩
          case measure => simp [intOf]; omega
      · obtain rfl : k = m := by omega
        have hrz : rb = bz := by
          have := HRB.out
          rw [List.take_of_length_le (by rw [← HMM.out]; omega), HM.out] at this
          exact Bool.eq_iff_iff.2 this
        subst hrz
        clear HRB
        go_wp2_with fail
        refine (HR1.out _ (L5.out.go (below_drewN (Below.refl _ _) mq))).mono ?_
        rintro e w6 ⟨rfl, hb6⟩
        have L6 := Lib.hid ((L5.out.go (below_drewN (Below.refl _ _) mq)).go hb6)
        clear hb6 b0 b1 b2 b3
        cases rb with
        | true =>
          obtain rfl : ln = 1 := by simpa using HLN.out
          go_wp2_with fail
          go_returns
          exact ⟨by first | rfl | simp, L6.out.bel⟩
        | false =>
          obtain rfl : ln = 0 := by simpa using HLN.out
          go_wp2_with fail
          go_returns
          exact ⟨by first | rfl | simp, L6.out.bel⟩
  · rw [rightN_no hr] at HR1 HR2
    have HE := Lib.hid (fun W (hW : NL w A n c S a z E none 0 [] W) => ends_no A n c S a z E ⟨#[]⟩ 0 W hW.nfa (fun h9 => hr h9.1))
    clear hr
    go_enter Try.func5, Try.ntmps5
    go_wp2_with fail
    generalize w.alloc (.cells #[.int .i64 S, .int .i64 a, .int .i64 z, .slice A n c] 24) = w1 at L1 b0 b1 b2 b3 ⊢
    refine (HE.out _ L1.out).mono ?_
    rintro e w2 ⟨rfl, hb2⟩
    have L2 := Lib.hid (L1.out.go hb2)
    clear hb2 b0 b1 b2 b3
    have b0 := L2.out.b0
    have b1 := L2.out.b1
    have b2 := L2.out.b2
    have b3 := L2.out.b3
    go_wp2_with fail
    refine (HR2.out _ L2.out).mono ?_
    rintro e w3 ⟨rfl, hb3⟩
    have L3 := Lib.hid (L2.out.go hb3)
    clear hb3 b0 b1 b2 b3
    have b0 := L3.out.b0
    have b1 := L3.out.b1
    have b2 := L3.out.b2
    have b3 := L3.out.b3
    go_wp2_with fail
    refine (HR1.out _ L3.out).mono ?_
    rintro e w4 ⟨rfl, hb4⟩
    have L4 := Lib.hid (L3.out.go hb4)
    clear hb4 b0 b1 b2 b3
    go_wp2_with fail
    go_returns
    exact ⟨by first | rfl | simp, L4.out.bel⟩
end Go.Proofs.Ytjpifofnlcajfaa
