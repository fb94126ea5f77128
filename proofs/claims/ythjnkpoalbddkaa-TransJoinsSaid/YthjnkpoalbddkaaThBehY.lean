/- Then's 'behind': what the second machine puts of a text, from a state on. -/
import Derived.Test.YthjnkpoalbddkaaTRunY
import Derived.Test.YthjnkpoalbddkaaStepY
import Derived.Test.YthjnkpoalbddkaaComY
namespace Go.Proofs.Ythjnkpoalbddkaa
open Go.RowKit
def afterS (m : Mach) (st : Nat) (s : Bs) : Bs × Nat := s.foldl (stepF m) ([], st)
theorem afterS_snoc (m : Mach) (st : Nat) (s : Bs) (c : UInt8) : afterS m st (s ++ [c]) = ((afterS m st s).1 ++ outT m (afterS m st s).2 c, nextS m (afterS m st s).2 c) := by simp [afterS, stepF]
theorem afterS_lt {m : Mach} (h : RightM m) {st : Nat} (hst : st < m.next.length) : ∀ s : Bs, (afterS m st s).2 < m.next.length := fun s => by
  have key : ∀ (s : Bs) (x : Bs × Nat), x.2 < m.next.length → (s.foldl (stepF m) x).2 < m.next.length := fun s => by
    induction s with
    | nil => intro x hx; exact hx
    | cons c s ih => intro x hx; exact ih _ (state_facts h hx c).2.2.2.1
  exact key s _ hst
def LongB (m : Mach) (st : Nat) (s : Bs) : Prop := ∃ k, k ≤ s.length ∧ 4097 < (afterS m st (s.take k)).1.length
open Classical in
noncomputable def lgB (m : Mach) (st : Nat) (s : Bs) : Bool := if LongB m st s then true else false
noncomputable def behG (m : Mach) (st : Nat) (s : Bs) : Bs × Nat := if lgB m st s = true then ([], 0) else afterS m st s
theorem lgB_yes {m : Mach} {st : Nat} {s : Bs} (h : LongB m st s) : lgB m st s = true := by unfold lgB; rw [if_pos h]
theorem lgB_no {m : Mach} {st : Nat} {s : Bs} (h : ¬ LongB m st s) : lgB m st s = false := by unfold lgB; rw [if_neg h]
theorem behG_lt {m : Mach} (h : RightM m) {st : Nat} (hst : st < m.next.length) (s : Bs) : (behG m st s).2 < m.next.length := by
  unfold behG
  split
  · exact Nat.lt_of_lt_of_le Nat.zero_lt_one h.lo
  · exact afterS_lt h hst s
theorem behG_len {m : Mach} {st : Nat} (s : Bs) : (behG m st s).1.length ≤ 4097 := by
  unfold behG
  split
  · simp
  · rename_i h
    apply Classical.byContradiction
    intro h9
    exact h (lgB_yes ⟨s.length, Nat.le_refl _, by rw [List.take_length]; omega⟩)
/-- a machine's box -/
structure MBox (W : World) (bb : Nat) (A0 A1 A2 A3 : Option Addr) (n0 n1 n2 n3 c0 c1 c2 c3 : Nat) : Prop where
  blk : Blk W bb 42 [.slice A0 n0 c0, .slice A1 n1 c1, .slice A2 n2 c2, .slice A3 n3 c3]
set_option maxRecDepth 100000 in
set_option maxHeartbeats 8000000 in
theorem behind_any (A0 A1 A2 A3 : Option Addr) (n0 n1 n2 n3 c0 c1 c2 c3 : Nat) (m : Mach) (RA : Nat → Option Addr) (rc : Nat → Nat) (PA : Nat → Option Addr) (pc : Nat → Nat) (s : ByteArray) (w : World) (bb bL st : Nat) (fl : Bool) (h : MachIn w A0 A1 A2 A3 n0 n1 n2 n3 m RA rc PA pc) (hr : RightM m) (hs : s.size ≤ 1000000)
    (hb : MBox w bb A0 A1 A2 A3 n0 n1 n2 n3 c0 c1 c2 c3) (hL : Blk w bL 4 [.bool fl]) (hst : st < m.next.length) :
    Calls Try.prog 53 #[.int .i64 st, .string s, .pointer (some ⟨bb, 0, none⟩), .pointer (some ⟨bL, 0, none⟩)] w fun e w' => e = .returned (.tuple #[.string ⟨(behG m st s.data.toList).1.toArray⟩, .int .i64 (behG m st s.data.toList).2]) ∧ But (fun k => k = bL) w w' ∧ Blk w' bL 4 [.bool (fl || lgB m st s.data.toList)] := by
  obtain ⟨gb, hgb⟩ : ∃ gb, gb = w.heap.size := ⟨_, rfl⟩
  have hf := fresh_builder w
  have hb3 : Below w.heap.size w (w.alloc (.cells #[.pointer none, .slice none 0 0] 63)) := (Below.refl _ _).alloc (Nat.le_refl _) _
  have hsz3 : gb < (w.alloc (.cells #[.pointer none, .slice none 0 0] 63)).heap.size := by simp [hgb]
  rw [← hgb] at hf
  have HGB := Lib.hid hgb
  have HF := Lib.hid (And.intro hf (And.intro hb3 hsz3))
  have H2 := Lib.hid h
  have HM := Lib.hid hr
  have HBX := Lib.hid hb
  have HL := Lib.hid hL
  have hbbl := hb.blk.lt
  have hbll := hL.lt
  have hl0 := h.next.len
  clear h hr hb hL hf hb3 hsz3 hgb
  go_enter Try.func53, Try.ntmps53
  go_wp2_with fail
  rw [← HGB.out]
  generalize w.alloc (.cells #[.pointer none, .slice none 0 0] 63) = w3 at HF ⊢
  have HST := Lib.hid hst
  go_loopw [0, 14] (fun sv x wr => ∃ k : Nat, k ≤ s.size ∧ x = .int .i64 k ∧ sv = .int .i64 (afterS m st (s.data.toList.take k)).2 ∧ (∀ j, j ≤ k → (afterS m st (s.data.toList.take j)).1.length ≤ 4097) ∧ Lib.IsBuilder 63 5 gb gb (Lib.byteCells (afterS m st (s.data.toList.take k)).1) wr ∧ Below gb w wr ∧ gb < wr.heap.size) (fun _ x _ => s.size - (intOf x).toNat)
  case atStart => exact ⟨0, by omega, rfl, rfl, (by intro j hj; obtain rfl : j = 0 := (by omega); simp [afterS]), HF.out.1, by rw [HGB.out]; exact HF.out.2.1, HF.out.2.2⟩
  case round =>
    obtain ⟨k, hk, rfl, rfl, hsm, hbld, hbel, hgl⟩ := hrel
    have hil := afterS_lt HM.out HST.out (s.data.toList.take k)
    have hol := hsm k (Nat.le_refl _)
    obtain ⟨out, hout⟩ : ∃ out, out = (afterS m st (s.data.toList.take k)).1 := ⟨_, rfl⟩
    obtain ⟨i, hi⟩ : ∃ i, i = (afterS m st (s.data.toList.take k)).2 := ⟨_, rfl⟩
    rw [← hout] at hbld hol
    rw [← hi] at hil ⊢
    have HS := Lib.hid (And.intro hsm (And.intro hout hi))
    have HBL := Lib.hid hbld
    have HBE := Lib.hid hbel
    have hbox := HBX.out.blk.below hbel (by rw [HGB.out]; exact hbbl)
    have HBOX := Lib.hid hbox
    have r0 := hbox.cell 0
    have r1 := hbox.cell 1
    have r2 := hbox.cell 2
    have r3 := hbox.cell 3
    simp only [List.getElem?_cons_zero, List.getElem?_cons_succ] at r0 r1 r2 r3
    have H3 := Lib.hid (H2.out.keep (by rw [← HGB.out]; exact hbel))
    have H3D := Lib.hid (H3.out.keep ((Below.refl _ _).drew))
    have hLw := HL.out.below hbel (by rw [HGB.out]; exact hbll)
    have HLW := Lib.hid hLw
    have hbw := hbox.lt
    clear hsm hout hi hbld hbel HF hbox hLw
    obtain ⟨w4, rfl⟩ : ∃ w4 : World, w4 = wr := ⟨_, rfl⟩
    by_cases hlt : k < s.size
    · obtain ⟨cc, tt, hdr, _, hidx⟩ := index_byte s k hlt
      have hts := take_step s k cc tt hdr
      have hot := outT_len HM.out hil cc
      have HTS := Lib.hid hts
      clear hdr hts
      go_wp2_with fail
      go_region_held3 (fun w' => w'.cell? ⟨bb, 0, none⟩ = some (.slice A0 n0 c0) ∧ w'.cell? ⟨bb, 1, none⟩ = some (.slice A1 n1 c1) ∧ w'.cell? ⟨bb, 2, none⟩ = some (.slice A2 n2 c2) ∧ w'.cell? ⟨bb, 3, none⟩ = some (.slice A3 n3 c3))
        (first
          | assumption
          | exact ⟨t0, t1, t2, t3⟩
          | exact ⟨r0, r1, r2, r3⟩)
        (first
          | (go_at_call 48; refine (step_any A0 A1 A2 A3 n0 n1 n2 n3 c0 c1 c2 c3 m RA rc PA pc _ H3D.out HM.out i (by omega) cc).mono ?_; rintro e w9 ⟨rfl, hb9⟩; have t0 := (hb9.cell (p := ⟨bb, 0, none⟩) (by show bb < w4.heap.size; omega)).trans r0; have t1 := (hb9.cell (p := ⟨bb, 1, none⟩) (by show bb < w4.heap.size; omega)).trans r1; have t2 := (hb9.cell (p := ⟨bb, 2, none⟩) (by show bb < w4.heap.size; omega)).trans r2; have t3 := (hb9.cell (p := ⟨bb, 3, none⟩) (by show bb < w4.heap.size; omega)).trans r3))
      go_wp2_with fail
      have hbd : Below w4.heap.size w4 w9 := ((Below.refl _ _).drew).trans hb9
      have hbl9 := bld_keep HBL.out hbd
      have hg9 : gb < w9.heap.size := Nat.lt_of_lt_of_le hgl hbd.size
      have hosz : (⟨(outT m i cc).toArray⟩ : ByteArray).size = (outT m i cc).length := by simp [ByteArray.size]
      refine (writeString_any gb gb (Lib.byteCells out) ⟨(outT m i cc).toArray⟩ w9 hbl9 (by rw [byteCells_length, hosz]; omega) (Nat.le_of_lt hg9)).mono ?_
      rw [show Lib.strCells ⟨(outT m i cc).toArray⟩ = Lib.byteCells (outT m i cc) from rfl, byteCells_append]
      rintro e w10 ⟨rfl, hbl10, hb10⟩
      have hk1 : afterS m st (s.data.toList.take (k + 1)) = (out ++ outT m i cc, nextS m i cc) := by
        rw [HTS.out, afterS_snoc, ← HS.out.2.1, ← HS.out.2.2]
      have HK1 := Lib.hid hk1
      have hB10 : Below gb w w10 := (HBE.out.trans (hbd.mono (Nat.le_of_lt hgl))).trans hb10
      have hg10 : gb < w10.heap.size := Nat.lt_of_lt_of_le hg9 hb10.size
      obtain ⟨out', ho'⟩ : ∃ out', out' = out ++ outT m i cc := ⟨_, rfl⟩
      rw [← ho'] at hbl10 HK1
      have HB10 := Lib.hid (And.intro hbl10 hB10)
      have hL10 := HL.out.below hB10 (by rw [HGB.out]; exact hbll)
      have HL10 := Lib.hid hL10
      have l0 := hL10.cell 0
      have lf := hL10.frozen 0
      simp only [List.getElem?_cons_zero] at l0
      clear hk1 ho' hbl10 hB10 hb9 hb10 hbd hbl9 t0 t1 t2 t3 hL10
      have HLEN := Lib.hid (Try.Builder_Len gb gb (Lib.byteCells out') w10 HB10.out.1)
      rw [byteCells_length] at HLEN
      by_cases hbig : 4097 < out'.length
      · have e1 : decide ((4097 : Int) < (out'.length : Int)) = true := by simp; omega
        have hl : lgB m st s.data.toList = true := lgB_yes ⟨k + 1, by rw [size_data]; omega, by rw [HK1.out]; exact hbig⟩
        have HLG := Lib.hid hl
        clear hl
        go_wp2_with fail
        refine HLEN.out.mono ?_
        rintro e w' ⟨rfl, rfl⟩
        go_wp2_with fail
        go_returns
        have hbt : But (fun k => k = bL) w _ := (But.of_below HB10.out.2).mono (fun k hk e9 => by rw [HGB.out] at e9; omega)
        exact ⟨by unfold behG; rw [if_pos HLG.out]; first | rfl | simp, hbt.trans (But.of_grown (grownBy_setCell _ bL 0 (.bool true))) (fun k _ e9 => by injection e9 with e9; exact e9.symm), by rw [HLG.out, Bool.or_true]; exact HL10.out.set 0 (.bool true)⟩
      · have e1 : decide ((4097 : Int) < (out'.length : Int)) = false := by simp; omega
        go_wp2_with fail
        refine HLEN.out.mono ?_
        rintro e w' ⟨rfl, rfl⟩
        go_wp2_with fail
        go_roundw
        case rel => exact ⟨k + 1, by omega, by go_num, by rw [HK1.out], fun j hj => by
                      by_cases e : j = k + 1
                      · rw [e, HK1.out]; show out'.length ≤ _; omega
                      · exact HS.out.1 j (by omega), by rw [HK1.out]; exact HB10.out.1, HB10.out.2, hg10⟩
        case measure => simp [intOf]; omega
    · obtain rfl : k = s.size := by omega
      have hfull : s.data.toList.take s.size = s.data.toList := List.take_of_length_le (by rw [size_data]; exact Nat.le_refl _)
      have hlg : lgB m st s.data.toList = false := lgB_no (fun ⟨j, hj, hlo⟩ => by
        have := HS.out.1 j (by rw [size_data] at hj; exact hj)
        omega)
      have hbe : behG m st s.data.toList = (out, i) := by
        unfold behG
        rw [if_neg (by rw [hlg]; simp), HS.out.2.1, HS.out.2.2, hfull]
      have HE := Lib.hid (And.intro hlg hbe)
      have HSTR := Lib.hid (Try.Builder_String_any gb gb out w4 HBL.out (Nat.le_of_lt hgl))
      clear hfull hlg hbe
      go_wp2_with fail
      refine HSTR.out.mono ?_
      rintro e w5 ⟨rfl, hb5⟩
      have hB5 := HBE.out.trans hb5
      have HB5 := Lib.hid (And.intro ((But.of_below hB5).mono (S' := fun k => k = bL) (fun k hk e9 => by rw [HGB.out] at e9; omega)) (HL.out.below hB5 (by rw [HGB.out]; exact hbll)))
      clear hb5 hB5
      go_wp2_with fail
      go_returns
      exact ⟨by rw [HE.out.2]; first | rfl | simp, HB5.out.1, by rw [HE.out.1, Bool.or_false]; exact HB5.out.2⟩
end Go.Proofs.Ythjnkpoalbddkaa
