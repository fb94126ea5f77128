/- The reference's Run. -/
import Derived.Test.YthjnkpoalbddkaaTRunY
import Derived.Test.YthjnkpoalbddkaaRApplyY
namespace Go.Proofs.Ythjnkpoalbddkaa
open Go.RowKit

/-- 'append(v, s...)', s a string, at a step of a region that draws -/
theorem step_appS {P : Program} (w : World) {ops : Array Oper} {o : Oper} {a : Act} {K : Act → World → Prop} {Q : Exit → Act → World → Prop} {E : Prop} (hgd : o.guard = none) (sl x : Operand) (t u : TypeId)
    (ho : o.op = .call { callee := .builtin .append, args := #[sl, x], argTypes := #[t, u] })
    (base : Nat) (e : TypeId) (i : TypeInfo) (ht : P.underlying t = some (.slice e)) (hu : P.underlying u = some .string) (hi : P.info? e = some i) (hz : i.zero = some (.int .u8 0))
    (hsize : i.size = 1) (hby : i.bytes = 1)
    (v : Value) (n : Nat) (xs : List Value) (hs : a.eval sl = v) (hown : w.ownsRow base e 1 v n xs) (s : ByteArray) (hx : a.eval x = .string s)
    (h63 : n + s.size ≤ maxLen) (hbytes : n + s.size ≤ 140737488355328) (hbase : base ≤ w.heap.size)
    (h : ∀ v' w', w'.ownsRow base e 1 v' (n + s.size) (xs ++ Lib.strCells s) → w.grownBy w' v.ownBlock → K (a.put o.dst v') w') :
    if Region.wanted o (yielded ops a.tmps) = true then Oper.wp P o a w K Q else E := by
  have hw : Region.wanted o (yielded ops a.tmps) = true := by simp [Region.wanted, hgd]
  rw [if_pos hw]
  obtain ⟨v', w', hr, h2, h3, _⟩ := Lib.run_append_own_string (P := P) w base t u o.type e i ht hu hi hz hsize hby v n xs hown s h63 hbytes hbase
  unfold Oper.wp execOp
  simp only [ho, resolve, invoke, builtin, Sem.run_bind, Sem.run_pure, Result.andThen_ok, List.map_toArray, List.map_cons, List.map_nil, hs, hx, hr]
  exact h v' w' h2 h3

theorem own_sl2 {w : World} {base : Nat} {e : TypeId} {size : Nat} {v : Value} {n : Nat} {xs : List Value} (h : w.ownsRow base e size v n xs) : ∃ A c, v = .slice A n c := by
  rcases h.2 with ⟨rfl, rfl⟩ | ⟨g, cap, cur, rfl, _⟩
  · exact ⟨none, 0, rfl⟩
  · exact ⟨_, _, rfl⟩

set_option maxRecDepth 100000 in
set_option maxHeartbeats 8000000 in
theorem rrun_any (A0 A1 A2 A3 : Option Addr) (n0 n1 n2 n3 c0 c1 c2 c3 : Nat) (m : Mach) (RA : Nat → Option Addr) (rc : Nat → Nat) (PA : Nat → Option Addr) (pc : Nat → Nat) (s : ByteArray) (w : World) (h : MachIn w A0 A1 A2 A3 n0 n1 n2 n3 m RA rc PA pc) (hr : RightM m) (hs : s.size ≤ 4096) :
    Calls Try.prog 25 #[.agg #[.slice A0 n0 c0, .slice A1 n1 c1, .slice A2 n2 c2, .slice A3 n3 c3], .string s, .int .i64 262144] w fun e w' => e = .returned (.tuple (match runRes m s.data.toList with | none => #[.string ⟨#[]⟩, .bool true] | some o => #[.string ⟨o.toArray⟩, .bool false])) ∧ Below w.heap.size w w' := by
  obtain ⟨i0, hi0, hz0, hz1, hz2⟩ := info_parts info5
  obtain ⟨res, hres⟩ : ∃ res, res = runRes m s.data.toList := ⟨_, rfl⟩
  rw [← hres]
  have HRES := Lib.hid hres
  have hl0 := h.next.len
  have HW := Lib.hid h
  have HM := Lib.hid hr
  have hb0 : Below w.heap.size w ((w.alloc (.cells #[.slice A0 n0 c0, .slice A1 n1 c1, .slice A2 n2 c2, .slice A3 n3 c3] 42)).alloc (.cells #[] 5)) := ((Below.refl _ _).alloc (Nat.le_refl _) _).alloc (by simp) _
  have q0 : ((w.alloc (.cells #[.slice A0 n0 c0, .slice A1 n1 c1, .slice A2 n2 c2, .slice A3 n3 c3] 42)).alloc (.cells #[] 5)).cell? ⟨w.heap.size, 0, none⟩ = some (.slice A0 n0 c0) := by simp
  have q1 : ((w.alloc (.cells #[.slice A0 n0 c0, .slice A1 n1 c1, .slice A2 n2 c2, .slice A3 n3 c3] 42)).alloc (.cells #[] 5)).cell? ⟨w.heap.size, 1, none⟩ = some (.slice A1 n1 c1) := by simp
  have q2 : ((w.alloc (.cells #[.slice A0 n0 c0, .slice A1 n1 c1, .slice A2 n2 c2, .slice A3 n3 c3] 42)).alloc (.cells #[] 5)).cell? ⟨w.heap.size, 2, none⟩ = some (.slice A2 n2 c2) := by simp
  have q3 : ((w.alloc (.cells #[.slice A0 n0 c0, .slice A1 n1 c1, .slice A2 n2 c2, .slice A3 n3 c3] 42)).alloc (.cells #[] 5)).cell? ⟨w.heap.size, 3, none⟩ = some (.slice A3 n3 c3) := by simp
  have ho0 : ((w.alloc (.cells #[.slice A0 n0 c0, .slice A1 n1 c1, .slice A2 n2 c2, .slice A3 n3 c3] 42)).alloc (.cells #[] 5)).ownsRow (w.heap.size + 1) 5 1 (.slice (some ⟨w.heap.size + 1, 0, none⟩) 0 0) 0 [] := by
    have h9 := World.ownsRow_lit (base := w.heap.size + 1) (e := 5) (size := 1) (w.alloc (.cells #[.slice A0 n0 c0, .slice A1 n1 c1, .slice A2 n2 c2, .slice A3 n3 c3] 42)) #[] 0 (by simp) (by simp) rfl
    simpa using h9
  have hsz : w.heap.size + 1 < ((w.alloc (.cells #[.slice A0 n0 c0, .slice A1 n1 c1, .slice A2 n2 c2, .slice A3 n3 c3] 42)).alloc (.cells #[] 5)).heap.size := by simp
  have HB0 := Lib.hid (And.intro hb0 ho0)
  clear h hr hres hb0 ho0
  go_enter Try.func25, Try.ntmps25
  go_wp2_with fail
  generalize (w.alloc (.cells #[.slice A0 n0 c0, .slice A1 n1 c1, .slice A2 n2 c2, .slice A3 n3 c3] 42)).alloc (.cells #[] 5) = w1 at HB0 q0 q1 q2 q3 hsz ⊢
  go_loopw [8, 9, 10] (fun v st x wr => ∃ k : Nat, k ≤ s.size ∧ x = .int .i64 k ∧ st = .int .i64 (after m (s.data.toList.take k)).2 ∧ (∀ j, j ≤ k → (after m (s.data.toList.take j)).1.length ≤ 262144) ∧ wr.ownsRow (w.heap.size + 1) 5 1 v (after m (s.data.toList.take k)).1.length (Lib.byteCells (after m (s.data.toList.take k)).1) ∧ Below (w.heap.size + 1) w1 wr ∧ w.heap.size + 1 ≤ wr.heap.size) (fun _ _ x _ => s.size - (intOf x).toNat)
  case atStart => exact ⟨0, by omega, rfl, rfl, (by intro j hj; obtain rfl : j = 0 := (by omega); simp [after]), HB0.out.2, Below.refl _ _, by omega⟩
  case round =>
    obtain ⟨k, hk, rfl, rfl, hsm, hown, hbel, hgl⟩ := hrel
    have hil := after_lt HM.out (s.data.toList.take k)
    have hol := hsm k (Nat.le_refl _)
    obtain ⟨out, hout⟩ : ∃ out, out = (after m (s.data.toList.take k)).1 := ⟨_, rfl⟩
    obtain ⟨i, hi⟩ : ∃ i, i = (after m (s.data.toList.take k)).2 := ⟨_, rfl⟩
    rw [← hout] at hown hol
    rw [← hi] at hil ⊢
    have HS := Lib.hid (And.intro hsm (And.intro hout hi))
    have HO := Lib.hid hown
    have HBE := Lib.hid hbel
    have r0 := (hbel.cell (p := ⟨w.heap.size, 0, none⟩) (by show w.heap.size < _; omega)).trans q0
    have r1 := (hbel.cell (p := ⟨w.heap.size, 1, none⟩) (by show w.heap.size < _; omega)).trans q1
    have r2 := (hbel.cell (p := ⟨w.heap.size, 2, none⟩) (by show w.heap.size < _; omega)).trans q2
    have r3 := (hbel.cell (p := ⟨w.heap.size, 3, none⟩) (by show w.heap.size < _; omega)).trans q3
    have HBW := Lib.hid (HB0.out.1.trans (hbel.mono (by omega)))
    have H3D := Lib.hid (HW.out.keep (HBW.out.drew))
    clear hsm hout hi hown hbel
    obtain ⟨w4, rfl⟩ : ∃ w4 : World, w4 = wr := ⟨_, rfl⟩
    obtain ⟨v, rfl⟩ : ∃ v : Value, v = u8 := ⟨_, rfl⟩
    by_cases hlt : k < s.size
    · obtain ⟨cc, tt, hdr, _, hidx⟩ := index_byte s k hlt
      have hts := take_step s k cc tt hdr
      have hot := outT_len HM.out hil cc
      have HTS := Lib.hid hts
      have hosz : (⟨(outT m i cc).toArray⟩ : ByteArray).size = (outT m i cc).length := by simp [ByteArray.size]
      clear hdr hts
      go_wp2_with fail
      go_region_held3 (fun w' => w'.cell? ⟨w.heap.size, 0, none⟩ = some (.slice A0 n0 c0) ∧ w'.cell? ⟨w.heap.size, 1, none⟩ = some (.slice A1 n1 c1) ∧ w'.cell? ⟨w.heap.size, 2, none⟩ = some (.slice A2 n2 c2) ∧ w'.cell? ⟨w.heap.size, 3, none⟩ = some (.slice A3 n3 c3))
        (first
          | assumption
          | exact ⟨s0, s1, s2, s3⟩
          | exact ⟨t0, t1, t2, t3⟩
          | exact ⟨r0, r1, r2, r3⟩)
        (first
          | (go_at_call 50; refine (out_any A0 A1 A2 A3 n0 n1 n2 n3 c0 c1 c2 c3 m RA rc PA pc _ H3D.out HM.out i (by omega) cc).mono ?_; rintro e w9 ⟨rfl, hb9⟩; have t0 := (hb9.cell (p := ⟨w.heap.size, 0, none⟩) (by show w.heap.size < w4.heap.size; omega)).trans r0; have t1 := (hb9.cell (p := ⟨w.heap.size, 1, none⟩) (by show w.heap.size < w4.heap.size; omega)).trans r1; have t2 := (hb9.cell (p := ⟨w.heap.size, 2, none⟩) (by show w.heap.size < w4.heap.size; omega)).trans r2; have t3 := (hb9.cell (p := ⟨w.heap.size, 3, none⟩) (by show w.heap.size < w4.heap.size; omega)).trans r3; have hbd : Below w4.heap.size w4 w9 := ((Below.refl _ _).drew).trans hb9; have ho9 := own_kept HO.out hbd; have hg9 : w.heap.size + 1 ≤ w9.heap.size := Nat.le_trans hgl hbd.size)
          | (refine step_appS _ rfl (.tmp 18) (.tmp 24) 54 9 rfl (w.heap.size + 1) 5 i0 Try.underlying54 Try.underlying9 hi0 hz0 hz1 hz2 _ out.length (Lib.byteCells out) rfl ho9 ⟨(outT m i cc).toArray⟩ rfl (by rw [hosz]; unfold maxLen; omega) (by rw [hosz]; omega) hg9 ?_; intro v5 w5 hown5 hgrow5; have hb5 : Below (w.heap.size + 1) w9 w5 := (Below.refl _ _).grown hgrow5 hg9 (fun k hk => (ho9.lt k hk).1); have s0 := (hb5.cell (p := ⟨w.heap.size, 0, none⟩) (by show w.heap.size < _; omega)).trans t0; have s1 := (hb5.cell (p := ⟨w.heap.size, 1, none⟩) (by show w.heap.size < _; omega)).trans t1; have s2 := (hb5.cell (p := ⟨w.heap.size, 2, none⟩) (by show w.heap.size < _; omega)).trans t2; have s3 := (hb5.cell (p := ⟨w.heap.size, 3, none⟩) (by show w.heap.size < _; omega)).trans t3))
      go_wp2_with fail
      have hown6 : w5.ownsRow (w.heap.size + 1) 5 1 v5 (out ++ outT m i cc).length (Lib.byteCells (out ++ outT m i cc)) := by
        rw [List.length_append, ← hosz, ← byteCells_append]; exact hown5
      have hk1 : after m (s.data.toList.take (k + 1)) = (out ++ outT m i cc, nextS m i cc) := by
        rw [HTS.out, after_snoc, ← HS.out.2.1, ← HS.out.2.2]
      have HK1 := Lib.hid hk1
      have hsz5 : w.heap.size + 1 ≤ w5.heap.size := Nat.le_trans hg9 hb5.size
      have HB5 := Lib.hid ((HBE.out.trans (hbd.mono hgl)).trans hb5)
      have HBW5 := Lib.hid (HB0.out.1.trans (HB5.out.mono (by omega)))
      obtain ⟨out', ho'⟩ : ∃ out', out' = out ++ outT m i cc := ⟨_, rfl⟩
      rw [← ho'] at hown6 HK1
      have HO6 := Lib.hid hown6
      obtain ⟨A5, c5, rfl⟩ := own_sl2 hown6
      have hnl := (HM.out.states i hil).nlen
      have hcl := cc.toNat_lt
      have f3 := (state_facts HM.out hil cc).2.2.1
      obtain ⟨b0, o0, rfl, _, hc0⟩ := (HW.out.next.arr.below HBW5.out).one (k := i) (by omega)
      unfold RowC at hc0
      obtain ⟨b6, o6, hRA, _, hc6⟩ := ((HW.out.next.row i (by omega)).below HBW5.out).one (k := cc.toNat) (by rw [hnl]; exact hcl)
      unfold NumC at hc6
      rw [f3] at hc6
      rw [hRA, hnl] at hc0
      obtain ⟨nx, hnx⟩ : ∃ nx, nx = nextS m i cc := ⟨_, rfl⟩
      rw [← hnx] at hc6 HK1
      obtain ⟨cn, hcn⟩ : ∃ cn, cn = cc.toNat := ⟨_, rfl⟩
      rw [← hcn] at hc6 hcl hidx ⊢
      have hx1 : (i : Int) < (n0 : Int) := by omega
      have hx2 : (cn : Int) < 256 := by omega
      clear hown5 hown6 hk1 ho' hgrow5 hb5 hb9 ho9 hbd hnl f3 hRA hnx hcn t0 t1 t2 t3 r0 r1 r2 r3
      by_cases hbig : 262144 < out'.length
      · have e1 : decide ((262144 : Int) < (out'.length : Int)) = true := by simp; omega
        have hl : res = none := by
          rw [HRES.out]
          exact runRes_long (.inl ⟨k + 1, by rw [size_data]; omega, by rw [HK1.out]; exact hbig⟩)
        subst hl
        go_wp2_with fail
        go_quiet (fail)
        go_wp2_with fail
        go_ret2
        exact ⟨rfl, below_drewN HBW5.out _⟩
      · have e1 : decide ((262144 : Int) < (out'.length : Int)) = false := by simp; omega
        go_wp2_with fail
        go_quiet (fail)
        go_wp2_with fail
        go_roundw
        case rel => exact ⟨k + 1, by omega, by go_num, by rw [HK1.out], fun j hj => by
                      by_cases e : j = k + 1
                      · rw [e, HK1.out]; show out'.length ≤ _; omega
                      · exact HS.out.1 j (by omega), by rw [HK1.out]; exact own_drewN HO6.out _, below_drewN HB5.out _, hsz5⟩
        case measure => simp [intOf]; omega
    · obtain rfl : k = s.size := by omega
      have hst := HM.out.states i hil
      have hel0 := HW.out.elen
      have hel3 := HW.out.tlen
      have hends := HM.out.ends
      have hlo := hst.endlo
      have hhi := hst.endhi
      have hfew := HM.out.few
      obtain ⟨b2, o2, rfl, hbl2, hc2⟩ := (HW.out.earr.below HBW.out).one (k := i) (by omega)
      unfold NumC at hc2
      obtain ⟨en, hen⟩ := Int.eq_ofNat_of_zero_le hlo
      obtain ⟨b3, o3, rfl, hbl3, hc3⟩ := (HW.out.tarr.below HBW.out).one (k := en) (by omega)
      unfold StrC at hc3
      rw [hen] at hc2
      have het : endText m i = m.texts.getD en ⟨#[]⟩ := by unfold endText; rw [hen]; rfl
      rw [← het] at hc3
      obtain ⟨t, ht⟩ : ∃ t, t = endText m i := ⟨_, rfl⟩
      rw [← ht] at hc3
      have hts : t.size ≤ 4096 := by
        apply Classical.byContradiction
        intro h9
        exact HM.out.short ⟨en, by omega, by rw [← het, ← ht]; omega⟩
      have htot : total m s.data.toList = out ++ t.data.toList := by
        have h9 := List.take_of_length_le (show s.data.toList.length ≤ s.size by rw [size_data]; exact Nat.le_refl _)
        have h8 := HS.out.2.1
        have h7 := HS.out.2.2
        rw [h9] at h8 h7
        rw [total, ← h8, ← h7, ← ht]
      have HTOT := Lib.hid htot
      have hx1 : (i : Int) < (n2 : Int) := by omega
      have hx2 : (en : Int) < (n3 : Int) := by omega
      have HOD := Lib.hid (World.ownsRow.drew HO.out)
      clear hst hel0 hel3 hends hlo hhi hen het ht htot
      go_wp2_with fail
      go_region_held3 (fun w' => w'.cell? ⟨w.heap.size, 2, none⟩ = some (.slice (some ⟨b2, o2, none⟩) n2 c2) ∧ w'.cell? ⟨w.heap.size, 3, none⟩ = some (.slice (some ⟨b3, o3, none⟩) n3 c3) ∧ w'.cell? ⟨b2, o2 + i, none⟩ = some (.int .i64 en) ∧ w'.cell? ⟨b3, o3 + en, none⟩ = some (.string t))
        (first
          | assumption
          | exact ⟨t2, t3, t4, t5⟩
          | exact ⟨r2, r3, hc2, hc3⟩)
        (first
          | (refine step_appS _ rfl (.tmp 40) (.tmp 49) 54 9 rfl (w.heap.size + 1) 5 i0 Try.underlying54 Try.underlying9 hi0 hz0 hz1 hz2 _ out.length (Lib.byteCells out) rfl HOD.out t rfl (by unfold maxLen; omega) (by omega) hgl ?_; intro v5 w5 hown5 hgrow5; have hb5 : Below (w.heap.size + 1) w4 w5 := ((Below.refl _ _).drew).grown hgrow5 hgl (fun k hk => (HO.out.lt k hk).1); have t2 := (hb5.cell (p := ⟨w.heap.size, 2, none⟩) (by show w.heap.size < _; omega)).trans r2; have t3 := (hb5.cell (p := ⟨w.heap.size, 3, none⟩) (by show w.heap.size < _; omega)).trans r3; have t4 := (hb5.cell (p := ⟨b2, o2 + i, none⟩) (by show b2 < _; omega)).trans hc2; have t5 := (hb5.cell (p := ⟨b3, o3 + en, none⟩) (by show b3 < _; omega)).trans hc3))
      obtain ⟨tt, htt⟩ : ∃ tt, tt = total m s.data.toList := ⟨_, rfl⟩
      have hown6 : w5.ownsRow (w.heap.size + 1) 5 1 v5 tt.length (Lib.byteCells tt) := by
        rw [htt, HTOT.out, List.length_append, size_data, ← byteCells_append]; exact hown5
      have HTT := Lib.hid htt
      have HB5 := Lib.hid (HBW.out.trans (hb5.mono (Nat.le_succ _)))
      have hconv := conv_own hown6
      obtain ⟨A5, c5, rfl⟩ := own_sl2 hown6
      clear hown5 hown6 hb5 htt hgrow5 t2 t3 t4 t5 r0 r1 r2 r3 hc2 hc3
      by_cases hbig : 262144 < tt.length
      · have e1 : decide ((262144 : Int) < (tt.length : Int)) = true := by simp; omega
        have hl : res = none := by rw [HRES.out]; exact runRes_long (.inr (by rw [← HTT.out]; exact hbig))
        subst hl
        go_wp2_with fail
        go_ret2
        exact ⟨rfl, HB5.out⟩
      · have e1 : decide ((262144 : Int) < (tt.length : Int)) = false := by simp; omega
        have hl : res = some tt := by
          rw [HRES.out, HTT.out]
          refine runRes_ok (fun h9 => h9.elim (fun ⟨j, hj, h8⟩ => ?_) (fun h8 => ?_))
          · have := HS.out.1 j (by rw [← size_data]; exact hj); omega
          · rw [← HTT.out] at h8; omega
        subst hl
        go_wp2_with fail
        go_ret2
        exact ⟨rfl, HB5.out⟩
end Go.Proofs.Ythjnkpoalbddkaa
