/- Run: what a machine puts of a text. -/
import Derived.Test.YthjnkpoalbddkaaStepY
import Derived.Test.YthjnkpoalbddkaaApplyY
import Derived.Deep.RegionHeld3
namespace Go.Proofs.Ythjnkpoalbddkaa
open Go.RowKit

theorem own_kept {w w' : World} {base : Nat} {e : TypeId} {v : Value} {n : Nat} {xs : List Value} (h : w.ownsRow base e 1 v n xs) (hb : Below w.heap.size w w') : w'.ownsRow base e 1 v n xs :=
  h.kept (row := none) ⟨hb.os, hb.tape, hb.output, hb.size, fun k hk _ => hb.block k hk⟩ (by cases v.ownBlock <;> simp)
theorem bld_at_keep {T e : TypeId} {B b : Nat} {p : Value} {bs : List Value} {w w' : World} (h : Lib.BuilderAt T e B b p bs w) (hb : Below w.heap.size w w') : Lib.BuilderAt T e B b p bs w' := by
  have hlt := h.lt
  obtain ⟨hB, v, h1, hown, hne⟩ := h
  exact ⟨hB, v, (hb.block b hlt).trans h1, own_kept hown hb, hne⟩
theorem bld_keep {T e : TypeId} {B b : Nat} {bs : List Value} {w w' : World} (h : Lib.IsBuilder T e B b bs w) (hb : Below w.heap.size w w') : Lib.IsBuilder T e B b bs w' :=
  h.imp (fun h => bld_at_keep h hb) (fun h => bld_at_keep h hb)
set_option maxRecDepth 100000 in
set_option maxHeartbeats 8000000 in
theorem trun_any (A0 A1 A2 A3 : Option Addr) (n0 n1 n2 n3 c0 c1 c2 c3 : Nat) (m : Mach) (RA : Nat → Option Addr) (rc : Nat → Nat) (PA : Nat → Option Addr) (pc : Nat → Nat) (s : ByteArray) (w : World) (h : MachIn w A0 A1 A2 A3 n0 n1 n2 n3 m RA rc PA pc) (hr : RightM m) (hs : s.size ≤ 4096) :
    Calls Try.prog 24 #[.agg #[.slice A0 n0 c0, .slice A1 n1 c1, .slice A2 n2 c2, .slice A3 n3 c3], .string s] w fun e w' => e = .returned (.tuple (match runRes m s.data.toList with | none => #[.string ⟨#[]⟩, .int .i64 2] | some o => #[.string ⟨o.toArray⟩, .int .i64 0])) ∧ Below w.heap.size w w' := by
  obtain ⟨res, hres⟩ : ∃ res, res = runRes m s.data.toList := ⟨_, rfl⟩
  rw [← hres]
  have HRES := Lib.hid hres
  have hl0 := h.next.len
  have hb0 : Below w.heap.size w (w.alloc (.cells #[.slice A0 n0 c0, .slice A1 n1 c1, .slice A2 n2 c2, .slice A3 n3 c3] 42)) := (Below.refl _ _).alloc (Nat.le_refl _) _
  have H1 := Lib.hid (h.keep hb0)
  have HR := Lib.hid (tright_any A0 A1 A2 A3 n0 n1 n2 n3 c0 c1 c2 c3 m RA rc PA pc _ H1.out)
  rw [rightM_yes hr] at HR
  have HM := Lib.hid hr
  have HW := Lib.hid h
  clear h hr hres hb0
  go_enter Try.func24, Try.ntmps24
  go_wp2_with fail
  refine HR.out.mono ?_
  rintro e w1 ⟨rfl, hb1⟩
  have HBX := Lib.hid (below_new (Below.refl w.heap.size w) (Nat.le_refl _) hb1)
  have hs1 := size_new hb1
  have q0 := kept_new hb1 0
  have q1 := kept_new hb1 1
  have q2 := kept_new hb1 2
  have q3 := kept_new hb1 3
  simp only [List.getElem?_toArray, List.getElem?_cons_zero, List.getElem?_cons_succ] at q0 q1 q2 q3
  have H2 := Lib.hid (H1.out.keep hb1)
  clear hb1 HR
  have d0 : decide ((4096 : Int) < (s.size : Int)) = false := by simp; omega
  go_wp2_with fail
  obtain ⟨gb, hgb⟩ : ∃ gb, gb = w1.heap.size := ⟨_, rfl⟩
  have hf := fresh_builder w1
  have hb3 : Below w1.heap.size w1 (w1.alloc (.cells #[.pointer none, .slice none 0 0] 63)) := (Below.refl _ _).alloc (Nat.le_refl _) _
  have hsz3 : gb < (w1.alloc (.cells #[.pointer none, .slice none 0 0] 63)).heap.size := by simp [hgb]
  rw [← hgb] at hf hb3 hs1 ⊢
  generalize w1.alloc (.cells #[.pointer none, .slice none 0 0] 63) = w3 at hf hb3 hsz3 ⊢
  have HF := Lib.hid (And.intro hf (And.intro hb3 hsz3))
  have HGB := Lib.hid hgb
  clear hf hb3 hsz3 hgb
  go_loopw [7, 21] (fun st x wr => ∃ k : Nat, k ≤ s.size ∧ x = .int .i64 k ∧ st = .int .i64 (after m (s.data.toList.take k)).2 ∧ (∀ j, j ≤ k → (after m (s.data.toList.take j)).1.length ≤ 262144) ∧ Lib.IsBuilder 63 5 gb gb (Lib.byteCells (after m (s.data.toList.take k)).1) wr ∧ Below gb w1 wr ∧ gb < wr.heap.size) (fun _ x _ => s.size - (intOf x).toNat)
  case atStart => exact ⟨0, by omega, rfl, rfl, (by intro j hj; obtain rfl : j = 0 := (by omega); simp [after]), HF.out.1, HF.out.2.1, HF.out.2.2⟩
  case round =>
    obtain ⟨k, hk, rfl, rfl, hsm, hbld, hbel, hgl⟩ := hrel
    have hil := after_lt HM.out (s.data.toList.take k)
    have hol := hsm k (Nat.le_refl _)
    obtain ⟨out, hout⟩ : ∃ out, out = (after m (s.data.toList.take k)).1 := ⟨_, rfl⟩
    obtain ⟨i, hi⟩ : ∃ i, i = (after m (s.data.toList.take k)).2 := ⟨_, rfl⟩
    rw [← hout] at hbld hol
    rw [← hi] at hil ⊢
    have HS := Lib.hid (And.intro hsm (And.intro hout hi))
    have HBL := Lib.hid hbld
    have HBE := Lib.hid hbel
    have r0 := (hbel.cell (p := ⟨w.heap.size, 0, none⟩) hs1).trans q0
    have r1 := (hbel.cell (p := ⟨w.heap.size, 1, none⟩) hs1).trans q1
    have r2 := (hbel.cell (p := ⟨w.heap.size, 2, none⟩) hs1).trans q2
    have r3 := (hbel.cell (p := ⟨w.heap.size, 3, none⟩) hs1).trans q3
    have H3 := Lib.hid (H2.out.keep (by rw [← HGB.out]; exact hbel))
    have H3D := Lib.hid (H3.out.keep ((Below.refl _ _).drew))
    clear hsm hout hi hbld hbel HF
    obtain ⟨w4, rfl⟩ : ∃ w4 : World, w4 = wr := ⟨_, rfl⟩
    by_cases hlt : k < s.size
    · obtain ⟨cc, tt, hdr, _, hidx⟩ := index_byte s k hlt
      have hts := take_step s k cc tt hdr
      have hot := outT_len HM.out hil cc
      have HTS := Lib.hid hts
      clear hdr hts
      go_wp2_with fail
      go_region_held3 (fun w' => w'.cell? ⟨w.heap.size, 0, none⟩ = some (.slice A0 n0 c0) ∧ w'.cell? ⟨w.heap.size, 1, none⟩ = some (.slice A1 n1 c1) ∧ w'.cell? ⟨w.heap.size, 2, none⟩ = some (.slice A2 n2 c2) ∧ w'.cell? ⟨w.heap.size, 3, none⟩ = some (.slice A3 n3 c3))
        (first
          | assumption
          | exact ⟨t0, t1, t2, t3⟩
          | exact ⟨r0, r1, r2, r3⟩)
        (first
          | (go_at_call 48; refine (step_any A0 A1 A2 A3 n0 n1 n2 n3 c0 c1 c2 c3 m RA rc PA pc _ H3D.out HM.out i (by omega) cc).mono ?_; rintro e w9 ⟨rfl, hb9⟩; have t0 := (hb9.cell (p := ⟨w.heap.size, 0, none⟩) (by show w.heap.size < w4.heap.size; omega)).trans r0; have t1 := (hb9.cell (p := ⟨w.heap.size, 1, none⟩) (by show w.heap.size < w4.heap.size; omega)).trans r1; have t2 := (hb9.cell (p := ⟨w.heap.size, 2, none⟩) (by show w.heap.size < w4.heap.size; omega)).trans r2; have t3 := (hb9.cell (p := ⟨w.heap.size, 3, none⟩) (by show w.heap.size < w4.heap.size; omega)).trans r3))
      go_wp2_with fail
      have hbd : Below w4.heap.size w4 w9 := ((Below.refl _ _).drew).trans hb9
      have hbl9 := bld_keep HBL.out hbd
      have hg9 : gb < w9.heap.size := Nat.lt_of_lt_of_le hgl hbd.size
      have hosz : (⟨(outT m i cc).toArray⟩ : ByteArray).size = (outT m i cc).length := by simp [ByteArray.size]
      refine (writeString_any gb gb (Lib.byteCells out) ⟨(outT m i cc).toArray⟩ w9 hbl9 (by rw [byteCells_length, hosz]; omega) (Nat.le_of_lt hg9)).mono ?_
      rw [show Lib.strCells ⟨(outT m i cc).toArray⟩ = Lib.byteCells (outT m i cc) from rfl, byteCells_append]
      rintro e w10 ⟨rfl, hbl10, hb10⟩
      have hk1 : after m (s.data.toList.take (k + 1)) = (out ++ outT m i cc, nextS m i cc) := by
        rw [HTS.out, after_snoc, ← HS.out.2.1, ← HS.out.2.2]
      have HK1 := Lib.hid hk1
      have hB10 : Below gb w1 w10 := (HBE.out.trans (hbd.mono (Nat.le_of_lt hgl))).trans hb10
      have hg10 : gb < w10.heap.size := Nat.lt_of_lt_of_le hg9 hb10.size
      obtain ⟨out', ho'⟩ : ∃ out', out' = out ++ outT m i cc := ⟨_, rfl⟩
      rw [← ho'] at hbl10 HK1
      have HB10 := Lib.hid (And.intro hbl10 hB10)
      clear hk1 ho' hbl10 hB10 hb9 hb10 hbd hbl9 t0 t1 t2 t3
      have HLEN := Lib.hid (Try.Builder_Len gb gb (Lib.byteCells out') w10 HB10.out.1)
      rw [byteCells_length] at HLEN
      by_cases hbig : 262144 < out'.length
      · have e1 : decide ((262144 : Int) < (out'.length : Int)) = true := by simp; omega
        have hl : res = none := by
          rw [HRES.out]
          exact runRes_long (.inl ⟨k + 1, by rw [size_data]; omega, by rw [HK1.out]; exact hbig⟩)
        subst hl
        go_wp2_with fail
        refine HLEN.out.mono ?_
        rintro e w' ⟨rfl, rfl⟩
        go_wp2_with fail
        go_ret2
        exact ⟨rfl, HBX.out.trans (HB10.out.2.mono (Nat.le_of_lt hs1))⟩
      · have e1 : decide ((262144 : Int) < (out'.length : Int)) = false := by simp; omega
        go_wp2_with fail
        refine HLEN.out.mono ?_
        rintro e w' ⟨rfl, rfl⟩
        go_wp2_with fail
        go_roundw
        case rel => exact ⟨k + 1, by omega, by go_num, by rw [HK1.out], fun j hj => by
                      by_cases e : j = k + 1
                      · rw [e, HK1.out]; show out'.length ≤ _; omega
                      · exact HS.out.1 j (by omega), by rw [HK1.out]; exact HB10.out.1, HB10.out.2, hg10⟩
        case measure => simp [intOf]; omega
    · obtain rfl : k = s.size := by omega
      have hst := HM.out.states i hil
      have hel0 := H3.out.elen
      have hel3 := H3.out.tlen
      have hends := HM.out.ends
      have hlo := hst.endlo
      have hhi := hst.endhi
      have hfew := HM.out.few
      have HBW4 := Lib.hid (HBX.out.trans (HBE.out.mono (Nat.le_of_lt hs1)))
      obtain ⟨b2, o2, rfl, hbl2, hc2⟩ := (HW.out.earr.below HBW4.out).one (k := i) (by omega)
      unfold NumC at hc2
      obtain ⟨en, hen⟩ := Int.eq_ofNat_of_zero_le hlo
      obtain ⟨b3, o3, rfl, hbl3, hc3⟩ := (HW.out.tarr.below HBW4.out).one (k := en) (by omega)
      unfold StrC at hc3
      rw [hen] at hc2
      have het : endText m i = m.texts.getD en ⟨#[]⟩ := by unfold endText; rw [hen]; rfl
      rw [← het] at hc3
      obtain ⟨t, ht⟩ : ∃ t, t = endText m i := ⟨_, rfl⟩
      rw [← ht] at hc3
      have hts : t.size ≤ 4096 := by
        apply Classical.byContradiction
        intro h9
        exact HM.out.short ⟨en, by omega, by rw [← het, ← ht]; omega⟩
      have htot : total m s.data.toList = out ++ t.data.toList := by
        have h9 := List.take_of_length_le (show s.data.toList.length ≤ s.size by rw [size_data]; exact Nat.le_refl _)
        have h8 := HS.out.2.1
        have h7 := HS.out.2.2
        rw [h9] at h8 h7
        rw [total, ← h8, ← h7, ← ht]
      have HTOT := Lib.hid htot
      have hx1 : (i : Int) < (n2 : Int) := by omega
      have hx2 : (en : Int) < (n3 : Int) := by omega
      have hg2 : b2 < gb := by omega
      have hg3 : b3 < gb := by omega
      clear hst hel0 hel3 hends hlo hhi hen het ht htot
      have hbd : Below w4.heap.size w4 w4.drew := (Below.refl _ _).drew
      have HBD := Lib.hid (bld_keep HBL.out hbd)
      clear hbd
      go_wp2_with fail
      go_region_held3 (fun w' => w'.cell? ⟨w.heap.size, 2, none⟩ = some (.slice (some ⟨b2, o2, none⟩) n2 c2) ∧ w'.cell? ⟨w.heap.size, 3, none⟩ = some (.slice (some ⟨b3, o3, none⟩) n3 c3) ∧ w'.cell? ⟨b2, o2 + i, none⟩ = some (.int .i64 en) ∧ w'.cell? ⟨b3, o3 + en, none⟩ = some (.string t))
        (first
          | assumption
          | exact ⟨t2, t3, t4, t5⟩
          | exact ⟨r2, r3, hc2, hc3⟩)
        (first
          | (go_at_call 36; refine (writeString_any gb gb (Lib.byteCells out) t _ HBD.out (by rw [byteCells_length]; omega) (by show gb ≤ w4.heap.size; omega)).mono ?_; rintro e w9 ⟨rfl, hbl9, hb9⟩; have t2 := (hb9.cell (p := ⟨w.heap.size, 2, none⟩) hs1).trans r2; have t3 := (hb9.cell (p := ⟨w.heap.size, 3, none⟩) hs1).trans r3; have t4 := (hb9.cell (p := ⟨b2, o2 + i, none⟩) hg2).trans hc2; have t5 := (hb9.cell (p := ⟨b3, o3 + en, none⟩) hg3).trans hc3))
      have hbl10 : Lib.IsBuilder 63 5 gb gb (Lib.byteCells (total m s.data.toList)) w9 := by
        rw [HTOT.out, ← byteCells_append]; exact hbl9
      have hB9 : Below w.heap.size w w9 := HBW4.out.trans ((((Below.refl _ _).drew).trans hb9).mono (Nat.le_of_lt hs1))
      have hg9 : gb ≤ w9.heap.size := Nat.le_trans (by show gb ≤ w4.heap.size; omega) hb9.size
      obtain ⟨tt, htt⟩ : ∃ tt, tt = total m s.data.toList := ⟨_, rfl⟩
      rw [← htt] at hbl10
      have HTT := Lib.hid htt
      have HB9 := Lib.hid (And.intro hbl10 hB9)
      clear hbl9 hbl10 hB9 hb9 htt t2 t3 t4 t5
      have HLEN := Lib.hid (Try.Builder_Len gb gb (Lib.byteCells tt) w9 HB9.out.1)
      rw [byteCells_length] at HLEN
      have HSTR := Lib.hid (Try.Builder_String_any gb gb tt w9 HB9.out.1 hg9)
      by_cases hbig : 262144 < tt.length
      · have e1 : decide ((262144 : Int) < (tt.length : Int)) = true := by simp; omega
        have hl : res = none := by rw [HRES.out]; exact runRes_long (.inr (by rw [← HTT.out]; exact hbig))
        subst hl
        go_wp2_with fail
        refine HLEN.out.mono ?_
        rintro e w' ⟨rfl, rfl⟩
        go_wp2_with fail
        go_ret2
        exact ⟨rfl, HB9.out.2⟩
      · have e1 : decide ((262144 : Int) < (tt.length : Int)) = false := by simp; omega
        have hl : res = some tt := by
          rw [HRES.out, HTT.out]
          refine runRes_ok (fun h9 => h9.elim (fun ⟨j, hj, h8⟩ => ?_) (fun h8 => ?_))
          · have := HS.out.1 j (by rw [← size_data]; exact hj); omega
          · rw [← HTT.out] at h8; omega
        subst hl
        go_wp2_with fail
        refine HLEN.out.mono ?_
        rintro e w' ⟨rfl, rfl⟩
        go_wp2_with fail
        refine HSTR.out.mono ?_
        rintro e w10 ⟨rfl, hb10⟩
        have HB10 := Lib.hid (HB9.out.2.trans (hb10.mono (Nat.le_of_lt hs1)))
        clear hb10
        go_wp2_with fail
        go_ret2
        exact ⟨rfl, HB10.out⟩
end Go.Proofs.Ythjnkpoalbddkaa
