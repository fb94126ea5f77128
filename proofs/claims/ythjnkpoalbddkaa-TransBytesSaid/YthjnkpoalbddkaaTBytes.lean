/- trans.Bytes. -/
import Derived.Test.YthjnkpoalbddkaaTB
import Derived.Test.YthjnkpoalbddkaaRBytes
namespace Go.Proofs.Ythjnkpoalbddkaa
open Go.RowKit
attribute [local go_sem ↓] load_box store_box

set_option maxRecDepth 100000 in
set_option maxHeartbeats 8000000 in
theorem tbytes_ok (A0 A1 A2 A3 : Option Addr) (n0 n1 n2 n3 c0 c1 c2 c3 : Nat) (m : Mach) (RA : Nat → Option Addr) (rc : Nat → Nat) (PA : Nat → Option Addr) (pc : Nat → Nat) (w : World) (h : MachIn w A0 A1 A2 A3 n0 n1 n2 n3 m RA rc PA pc) (hr : RightM m) :
    Calls Try.prog 29 #[.agg #[.slice A0 n0 c0, .slice A1 n1 c1, .slice A2 n2 c2, .slice A3 n3 c3]] w fun e w' => e = .returned (.tuple #[.agg (tab m (if okB m = true then 256 else 0)).toArray, .bool (okB m)]) ∧ Below w.heap.size w w' := by
  have LZ := Lib.hid (LB.start w A0 A1 A2 A3 n0 n1 n2 n3 c0 c1 c2 c3 m)
  have HR := Lib.hid (tright_any A0 A1 A2 A3 n0 n1 n2 n3 c0 c1 c2 c3 m RA rc PA pc _ (h.keep LZ.out.bel))
  rw [rightM_yes hr] at HR
  have hl0 := h.next.len
  have hl2 := h.elen
  have hl3 := h.tlen
  have hhi := hr.hi
  have hlo := hr.lo
  have hen := hr.ends
  have H := Lib.hid h
  have HM := Lib.hid hr
  obtain ⟨bq, hbq⟩ : ∃ bq, bq = okB m := ⟨_, rfl⟩
  obtain ⟨cf, hcf⟩ : ∃ cf, cf = if bq = true then 256 else 0 := ⟨_, rfl⟩
  rw [← hbq, ← hcf]
  have HNO := Lib.hid (show ¬ BytesOk m → bq = false ∧ cf = 0 from fun h9 => by
    have h8 : bq = false := by rw [hbq]; exact okB_no h9
    refine ⟨h8, ?_⟩
    rw [hcf, h8]; rfl)
  have HYES := Lib.hid (show BytesOk m → bq = true ∧ cf = 256 from fun h9 => by
    have h8 : bq = true := by rw [hbq]; exact okB_yes h9
    refine ⟨h8, ?_⟩
    rw [hcf, h8]; rfl)
  have hmk := fun W => make_one 84 4 (.bool false) 1 Try.underlying84 info4 rfl n0 (by omega) (by omega) W
  obtain ⟨i3, hi3, hz3, hsz3, hbt3⟩ := info_parts info3
  clear h hr hbq hcf
  go_enter Try.func29, Try.ntmps29
  go_wp2_with fail
  refine HR.out.mono ?_
  rintro e w1 ⟨rfl, hb1⟩
  have L1 := Lib.hid (LZ.out.go hb1)
  clear hb1 LZ HR
  have q0 := L1.out.q0
  have hrep : Array.replicate n0 (Value.bool false) = ((List.replicate n0 false).map Value.bool).toArray := by simp
  have hblk : Blk (w1.alloc (.cells (Array.replicate n0 (.bool false)) 4)) w1.heap.size 4 ((List.replicate n0 false).map Value.bool) := by
    rw [hrep]
    exact Blk.new _ _ _
  have hc0 := bools_cell hblk (j := 0) (by simp; omega)
  rw [show ((List.replicate n0 false).getD 0 false) = false by simp [show 0 < n0 by omega]] at hc0
  have hfz := hblk.frozen 0
  have hrep1 : (Array.replicate n0 (Value.bool false)).setIfInBounds 0 (.bool true) = (((List.replicate n0 false).set 0 true).map Value.bool).toArray := by rw [List.map_set, hrep]; simp only [List.setIfInBounds_toArray]
  have hpos : (0 : Int) < (n0 : Int) := by omega
  have HD0 := Lib.hid (show DW w A0 A1 A2 A3 n0 n1 n2 n3 c0 c1 c2 c3 m w1.heap.size ((w1.alloc (.cells ((Array.replicate n0 (.bool false)).setIfInBounds 0 (.bool true)) 4)).alloc (.cells #[.int .i64 0] 3)) (tab m 0) ((List.replicate n0 false).set 0 true) [0] (.slice (some ⟨w1.heap.size + 1, 0, none⟩) 1 1) from by
    refine ⟨(L1.out.go ((Below.refl _ _).alloc (Nat.le_refl _) _)).go ((Below.refl _ _).alloc (Nat.le_refl _) _), ?_, ?_, L1.out.lt⟩
    · rw [hrep1]; exact (Blk.new _ _ _).alloc _
    · have := own_one (w1.alloc (.cells ((Array.replicate n0 (.bool false)).setIfInBounds 0 (.bool true)) 4)) (.int .i64 0) 3 (w1.heap.size + 1) (by simp)
      rw [World.size_alloc] at this
      exact this)
  clear hrep hblk hrep1
  go_wp2_with fail
  obtain ⟨gs, hgs⟩ : ∃ gs, gs = w1.heap.size := ⟨_, rfl⟩
  rw [← hgs] at HD0 ⊢
  generalize (w1.alloc (.cells ((Array.replicate n0 (.bool false)).setIfInBounds 0 (.bool true)) 4)).alloc (.cells #[.int .i64 0] 3) = w2 at HD0 ⊢
  clear hgs hc0 hfz q0 L1
  go_loopw [6] (fun v wr => ∃ (seen : List Bool) (st done : List Nat), DW w A0 A1 A2 A3 n0 n1 n2 n3 c0 c1 c2 c3 m gs wr (tab m (if done = [] then 0 else 256)) seen st v ∧ Dv m n0 seen st done ∧ Dn m seen done ∧ (done = [] → st = [0]) ∧ (done ≠ [] → 0 ∈ done)) (fun v wr => srM gs v wr)
  case atStart => exact ⟨_, [0], [], HD0.out, Dv.start m (by omega), fun i hi => (by cases hi), fun _ => rfl, fun h9 => absurd rfl h9⟩
  case round =>
    clear HD0
    obtain ⟨seen, st, done, hd, hv, hn, hz1, hz2⟩ := hrel
    obtain ⟨w3, rfl⟩ : ∃ w3 : World, w3 = wr := ⟨_, rfl⟩
    obtain ⟨A5, c5, rfl⟩ := own_sl hd.own
    have D3 := Lib.hid hd
    have HV := Lib.hid hv
    have HN := Lib.hid hn
    have HZ := Lib.hid (And.intro hz1 hz2)
    clear hd hv hn hz1 hz2
    rcases List.eq_nil_or_concat st with rfl | ⟨st0, i, rfl⟩
    · have hbo := dv_done HM.out hl0 HV.out HN.out
      have hdn : done ≠ [] := fun h9 => by have := HZ.out.1 h9; cases this
      have hL := D3.out.lb
      rw [if_neg hdn] at hL
      have hld := hL.load
      have hst := hL.store 256
      have L3 := Lib.hid hL
      obtain ⟨h8, h9⟩ := HYES.out hbo
      subst h8
      subst h9
      clear hL hdn hbo
      go_wp2_with fail
      (try simp only [Exit.inBlock, Exit.then])
      refine bodyPost_ret (res51 (cs := tab m 256) rfl rfl rfl (L3.out.res _) (tab_len m 256)) rfl ?_
      exact ⟨rfl, L3.out.out _⟩
    · rw [List.concat_eq_append] at D3 HV HZ ⊢
      have hown := D3.out.own
      obtain ⟨b5, cap5, hv5, _, hbl5⟩ := hown.form (by simp)
      simp only [Value.slice.injEq] at hv5
      obtain ⟨rfl, _, rfl⟩ := hv5
      have hx5 : w3.cell? ⟨b5, st0.length, none⟩ = some (.int .i64 (i : Int)) := by
        have := hown.cells (g := b5) rfl st0.length (.int .i64 (i : Int)) (by simp [natsV])
        rw [add_plain'] at this
        simpa using this
      have hcap := own_cap hown
      have hfw := HV.out.pop.few
      have hsb : st0.length ≤ 1200 := by omega
      have hmet : Met m i := HV.out.met i (.inl (by simp))
      have hiN : i < n0 := by have := hmet.lt HM.out; omega
      have hfew : 2 * falses seen + (st0.length + 1) = srM gs (.slice (some ⟨b5, 0, none⟩) (st0.length + 1) c5) w3 := (srM_eq D3.out.blk).symm
      have hD3 := D3.out
      simp only [List.length_append, List.length_singleton] at hcap hD3
      have HP := Lib.hid hD3.pop
      have HVP := Lib.hid HV.out.pop
      have HMET := Lib.hid hmet
      have HSR := Lib.hid (srM_eq (A := some ⟨b5, 0, none⟩) (n := st0.length + 1) (c := c5) D3.out.blk)
      have hlen1 : ((st0.length : Int) + 1 - 1) = st0.length := by omega
      have hlen0 : (0 : Int) < (st0.length : Int) + 1 := by omega
      have hzi : done = [] → i = 0 := fun h9 => by
        have := HZ.out.1 h9
        cases st0 with
        | nil => simpa using this
        | cons a t => simp at this
      have HZI := Lib.hid hzi
      rw [show (st0 ++ [i]).length = st0.length + 1 by simp]
      obtain ⟨sl, hsl⟩ : ∃ sl, sl = st0.length := ⟨_, rfl⟩
      rw [← hsl] at hx5 hcap hsb hlen1 hlen0 HP HSR ⊢
      have HSL := Lib.hid hsl
      clear hown hsl hfw hfew hD3 hmet hzi hbl5
      have hst := HM.out.states i (by omega)
      have hlo' := hst.endlo
      have hhi2 := hst.endhi
      have HW := Lib.hid (H.out.keep D3.out.lb.bel)
      obtain ⟨b2, o2, hA2, _, hc2⟩ := HW.out.earr.one (k := i) (by omega)
      unfold NumC at hc2
      obtain ⟨ee, hee⟩ := Int.eq_ofNat_of_zero_le hlo'
      obtain ⟨b3, o3, hA3, _, hc3⟩ := HW.out.tarr.one (k := ee) (by omega)
      unfold StrC at hc3
      rw [hee] at hc2
      have het : endText m i = m.texts.getD ee ⟨#[]⟩ := by unfold endText; rw [hee]; rfl
      rw [← het] at hc3
      obtain ⟨t, ht⟩ : ∃ t, t = endText m i := ⟨_, rfl⟩
      rw [← ht] at hc3
      have HT := Lib.hid ht
      have hx1 : (i : Int) < (n2 : Int) := by omega
      have hx2 : (ee : Int) < (n3 : Int) := by omega
      have q0 := D3.out.lb.q0
      have q1 := D3.out.lb.q1
      have q2 := D3.out.lb.q2
      have q3 := D3.out.lb.q3
      have hstz : ∀ nq, (storeBox (.pointer (some ⟨w.heap.size + 1, 0, none⟩)) (.agg Try.zeroCells51)).run Try.prog (w3.drewN nq) = .ok () ((w3.drewN nq).setRow (w.heap.size + 1) Try.zeroCells51) := fun nq => by rw [zeros_tab m]; exact (D3.out.drew nq).lb.store 0
      clear hst hlo' hhi2 hee het ht
      subst hA2
      subst hA3
      by_cases hts : t.size = 0
      · have e1 : t.toList.isEmpty = true := by rw [strB]; simp [hts]
        have HTS := Lib.hid hts
        clear hts
        go_wp2_with fail
        go_quiet (fail)
        go_wp2_with fail
        rename_i nq _ _
        obtain ⟨c0', hc0⟩ : ∃ c0', c0' = if done = [] then 0 else 256 := ⟨_, rfl⟩
        have hP := HP.out.drew nq
        rw [← hc0] at hP
        have HP4 := Lib.hid hP
        have hcc : (c0' = 256 ∧ 0 ∈ done) ∨ (c0' = 0 ∧ i = 0) := by
          rw [hc0]
          by_cases h9 : done = []
          · rw [if_pos h9]; exact .inr ⟨rfl, HZI.out h9⟩
          · rw [if_neg h9]; exact .inl ⟨rfl, HZ.out.2 h9⟩
        have HCC := Lib.hid hcc
        clear hP hc0 hcc D3 HP HV q0 q1 q2 q3 hc2 hc3 hstz HW hx5
        generalize w3.drewN nq = w9 at HP4 ⊢
        go_loopw [6, 47] (fun v x wr => ∃ (b : Nat) (seen' : List Bool) (st' : List Nat), x = .int .i64 b ∧ b ≤ 256 ∧ DW w A0 A1 (some ⟨b2, o2, none⟩) (some ⟨b3, o3, none⟩) n0 n1 n2 n3 c0 c1 c2 c3 m gs wr (tab m (max c0' b)) seen' st' v ∧ Dv m n0 seen' st' (i :: done) ∧ More seen seen' ∧ (∀ b', b' < b → SameAt m i b' ∧ seen'.getD (nextS m i (UInt8.ofNat b')) false = true) ∧ 2 * falses seen' + st'.length ≤ 2 * falses seen + sl) (fun _ x _ => 256 - (intOf x).toNat)
        case atStart => exact ⟨0, seen, st0, rfl, by omega, by rw [Nat.max_eq_left (by omega)]; exact HP4.out, HVP.out, fun j hj => hj, fun b' hb' => by omega, by rw [HSL.out]; omega⟩
        case round =>
          obtain ⟨b, seen', st', rfl, hb, hd, hv, hmo, hsn, hms⟩ := hrel
          obtain ⟨w4, rfl⟩ : ∃ w4 : World, w4 = wr := ⟨_, rfl⟩
          obtain ⟨A5, c5', rfl⟩ := own_sl hd.own
          clear HP4
          have D4 := Lib.hid hd
          have HV4 := Lib.hid hv
          have HMO := Lib.hid hmo
          have HSN := Lib.hid hsn
          have HSS := Lib.hid hms
          clear hd hv hmo hsn hms
          by_cases hlb : b < 256
          · have q0 := D4.out.lb.q0
            have q1 := D4.out.lb.q1
            have q2 := D4.out.lb.q2
            have q3 := D4.out.lb.q3
            have hcb : (UInt8.ofNat b).toNat = b := by simp; omega
            have HST := Lib.hid (step_any A0 A1 (some ⟨b2, o2, none⟩) (some ⟨b3, o3, none⟩) n0 n1 n2 n3 c0 c1 c2 c3 m RA rc PA pc w4 (H.out.keep D4.out.lb.bel) HM.out i hiN (UInt8.ofNat b))
            rw [hcb] at HST
            obtain ⟨ot, hot⟩ : ∃ ot : ByteArray, ot = ⟨(outT m i (UInt8.ofNat b)).toArray⟩ := ⟨_, rfl⟩
            obtain ⟨j, hj⟩ : ∃ j, j = nextS m i (UInt8.ofNat b) := ⟨_, rfl⟩
            have hmj : Met m j := by rw [hj]; exact .go _ HMET.out
            have hjn : j < n0 := by have := hmj.lt HM.out; omega
            have hol : (outT m i (UInt8.ofNat b)).length ≤ 4097 := outT_len HM.out (by omega) (UInt8.ofNat b)
            have hos : ot.size = (outT m i (UInt8.ofNat b)).length := by rw [hot]; simp [ByteArray.size]
            rw [← hot, ← hj] at HST
            rw [← hos] at hol
            have hbi : (b : Int) < 256 := by omega
            have hji : (j : Int) < (n0 : Int) := by omega
            have HOT := Lib.hid (And.intro hot (And.intro hos (And.intro hj hmj)))
            clear hot hos hcb hj hmj
            go_wp2_with fail
            refine HST.out.mono ?_
            rintro e w5 ⟨rfl, hb5⟩
            have D5 := Lib.hid (D4.out.go hb5)
            clear hb5 q0 q1 q2 q3 D4 HST
            have hcl := D5.out.lb.o.cell b
            rw [tab_get _ _ hlb] at hcl
            have hfr := D5.out.lb.o.frozen b
            have hstz : ∀ nq, (storeBox (.pointer (some ⟨w.heap.size + 1, 0, none⟩)) (.agg Try.zeroCells51)).run Try.prog (w5.drewN nq) = .ok () ((w5.drewN nq).setRow (w.heap.size + 1) Try.zeroCells51) := fun nq => by rw [zeros_tab m]; exact (D5.out.drew nq).lb.store 0
            by_cases h1 : ot.size = 1
            · have e1 : ((ot.size : Int) != 1) = false := by simp [h1]
              obtain ⟨xb, hxb⟩ : ∃ xb : UInt8, outT m i (UInt8.ofNat b) = [xb] := by
                have := HOT.out.2.1
                rw [h1] at this
                match h3 : outT m i (UInt8.ofNat b), this with
                | [x], _ => exact ⟨x, rfl⟩
              have hix := byte_at (t := ot) (x := xb) (by rw [HOT.out.1]; simpa using hxb)
              have HXB := Lib.hid hxb
              clear hxb
              by_cases hi0 : i = 0
              · have e2 : decide ((0 : Int) < (i : Int)) = false := by simp; omega
                have e2' : decide (0 < i) = false := by simp; omega
                have hsame : SameAt m i b := ⟨by rw [HXB.out]; rfl, by rw [hi0]⟩
                have hxe : byteOf m b = xb := by
                  have := sameAt_one hsame
                  rw [HXB.out] at this
                  simpa using this.symm
                clear hi0
                have hby := xb.toNat_lt
                obtain ⟨y, hy⟩ : ∃ y, y = xb.toNat := ⟨_, rfl⟩
                obtain ⟨old, hold⟩ : ∃ old : Value, some old = w5.cell? ⟨w.heap.size + 1 + 1, b, none⟩ := ⟨_, hcl.symm⟩
                rw [← hy] at hix hby
                have HDS := Lib.hid (show ∀ nq, DW w A0 A1 (some ⟨b2, o2, none⟩) (some ⟨b3, o3, none⟩) n0 n1 n2 n3 c0 c1 c2 c3 m gs ((w5.drewN nq).setCell ⟨w.heap.size + 1 + 1, b, none⟩ (.int .u8 (y : Int))) (tab m (max c0' (b + 1))) seen' st' (.slice A5 st'.length c5') from fun nq => by
                  have h9 := (D5.out.drew nq).set b (.int .u8 (y : Int))
                  rw [hy, ← hxe, tab_set m hlb (by rcases HCC.out with h8 | h8 <;> omega), Nat.max_assoc, Nat.max_eq_right (by omega : b ≤ b + 1), hxe, ← hy] at h9
                  exact h9)
                have HSA := Lib.hid hsame
                have hsl := HV4.out.len
                clear hold hxe hsame hy
                cases hsj : seen'.getD j false with
                | true =>
                  have HSJ := Lib.hid hsj
                  have hsc : ∀ nq, ((w5.drewN nq).setCell ⟨w.heap.size + 1 + 1, b, none⟩ (.int .u8 (y : Int))).cell? ⟨gs, j, none⟩ = some (.bool true) := fun nq => by rw [(HDS.out nq).cell (by omega), hsj]
                  clear hsj
                  go_wp2_with fail
                  go_quiet (fail)
                  go_wp2_with fail
                  go_roundw
                  case rel =>
                    refine ⟨b + 1, seen', st', by go_num, by omega, HDS.out _, HV4.out, HMO.out, fun b' hb' => ?_, HSS.out⟩
                    by_cases e9 : b' = b
                    · subst e9; exact ⟨HSA.out, by rw [← HOT.out.2.2.1]; exact HSJ.out⟩
                    · exact HSN.out b' (by omega)
                  case measure => simp [intOf]; omega
                | false =>
                  have HSJ := Lib.hid hsj
                  have hsc : ∀ nq, ((w5.drewN nq).setCell ⟨w.heap.size + 1 + 1, b, none⟩ (.int .u8 (y : Int))).cell? ⟨gs, j, none⟩ = some (.bool false) := fun nq => by rw [(HDS.out nq).cell (by omega), hsj]
                  have hgl : gs < w5.heap.size := D5.out.blk.lt
                  have hsf : ∀ nq, ((w5.drewN nq).setCell ⟨w.heap.size + 1 + 1, b, none⟩ (.int .u8 (y : Int))).frozen? ⟨gs, j, none⟩ = false := fun nq => (HDS.out nq).blk.frozen j
                  have hsf' : w5.frozen? ⟨gs, j, none⟩ = false := D5.out.blk.frozen j
                  have hfw4 := HV4.out.few
                  have hmx := falses_set (l := seen') (j := j) (by omega) hsj
                  have HFS := Lib.hid hmx
                  clear hsj hmx
                  go_wp2_with fail
                  go_quiet (fail)
                  go_wp2_with (first
                    | (at_builtin; refine wpList_app1 _ _ rfl (.tmp 86) (.tmp 88) 39 rfl (gs + 1) 3 i3 (.int .i64 0) 8 Try.underlying39 hi3 hz3 hsz3 hbt3 rfl _ st'.length (natsV st') rfl (((HDS.out _).mark j).own.alloc _) ((Below.refl _ _).alloc (by simp; omega) _) (.int .i64 (j : Int)) _ rfl (by go_simp) rfl (by omega) (by unfold maxLen; omega) (by simp; omega) ?_; intro v5 w6 hown5 hbel5 hg5; have HA := Lib.hid (((HDS.out _).mark j).app hown5 hbel5); clear hown5 hbel5 hg5))
                  go_roundw
                  case rel =>
                    refine ⟨b + 1, seen'.set j true, st' ++ [j], by go_num, by omega, HA.out, HV4.out.push HOT.out.2.2.2 hjn HSJ.out, fun k hk => more_set _ _ k (HMO.out k hk), fun b' hb' => ?_, ?_⟩
                    · by_cases e9 : b' = b
                      · subst e9; exact ⟨HSA.out, by rw [← HOT.out.2.2.1, getD_set (by omega), if_pos rfl]⟩
                      · exact ⟨(HSN.out b' (by omega)).1, more_set _ _ _ (HSN.out b' (by omega)).2⟩
                    · have h1 := HFS.out
                      have h2 := HSS.out
                      simp only [List.length_append, List.length_singleton]
                      omega
                  case measure => simp [intOf]; omega
              · have e2 : decide ((0 : Int) < (i : Int)) = true := by simp; omega
                have e2' : decide (0 < i) = true := by simp; omega
                have hz : 0 ∈ done := by
                  rcases HCC.out with h9 | h9
                  · exact h9.2
                  · exact absurd h9.2 hi0
                have hc256 : c0' = 256 := by
                  rcases HCC.out with h9 | h9
                  · exact h9.1
                  · exact absurd h9.2 hi0
                have hsz := ((HN.out 0 hz).1).2 b hlb
                rw [hc256, if_pos (by omega)] at hcl
                by_cases hxe : byteOf m b = xb
                · rw [hxe] at hcl
                  have hsame : SameAt m i b := ⟨by rw [HXB.out]; rfl, by rw [HXB.out, sameAt_one hsz, hxe]⟩
                  have hby := xb.toNat_lt
                  obtain ⟨y, hy⟩ : ∃ y, y = xb.toNat := ⟨_, rfl⟩
                  obtain ⟨old, hold⟩ : ∃ old : Value, some old = w5.cell? ⟨w.heap.size + 1 + 1, b, none⟩ := ⟨_, hcl.symm⟩
                  rw [← hy] at hix hby
                  have HDS := Lib.hid (show ∀ nq, DW w A0 A1 (some ⟨b2, o2, none⟩) (some ⟨b3, o3, none⟩) n0 n1 n2 n3 c0 c1 c2 c3 m gs ((w5.drewN nq).setCell ⟨w.heap.size + 1 + 1, b, none⟩ (.int .u8 (y : Int))) (tab m (max c0' (b + 1))) seen' st' (.slice A5 st'.length c5') from fun nq => by
                    have h9 := (D5.out.drew nq).set b (.int .u8 (y : Int))
                    rw [hy, ← hxe, tab_set m hlb (by rcases HCC.out with h8 | h8 <;> omega), Nat.max_assoc, Nat.max_eq_right (by omega : b ≤ b + 1), hxe, ← hy] at h9
                    exact h9)
                  have HSA := Lib.hid hsame
                  have hsl := HV4.out.len
                  rw [← hy] at hcl
                  clear hold hxe hsame hy
                  cases hsj : seen'.getD j false with
                  | true =>
                    have HSJ := Lib.hid hsj
                    have hsc : ∀ nq, ((w5.drewN nq).setCell ⟨w.heap.size + 1 + 1, b, none⟩ (.int .u8 (y : Int))).cell? ⟨gs, j, none⟩ = some (.bool true) := fun nq => by rw [(HDS.out nq).cell (by omega), hsj]
                    clear hsj
                    go_wp2_with fail
                    go_quiet (fail)
                    go_wp2_with fail
                    go_roundw
                    case rel =>
                      refine ⟨b + 1, seen', st', by go_num, by omega, HDS.out _, HV4.out, HMO.out, fun b' hb' => ?_, HSS.out⟩
                      by_cases e9 : b' = b
                      · subst e9; exact ⟨HSA.out, by rw [← HOT.out.2.2.1]; exact HSJ.out⟩
                      · exact HSN.out b' (by omega)
                    case measure => simp [intOf]; omega
                  | false =>
                    have HSJ := Lib.hid hsj
                    have hsc : ∀ nq, ((w5.drewN nq).setCell ⟨w.heap.size + 1 + 1, b, none⟩ (.int .u8 (y : Int))).cell? ⟨gs, j, none⟩ = some (.bool false) := fun nq => by rw [(HDS.out nq).cell (by omega), hsj]
                    have hgl : gs < w5.heap.size := D5.out.blk.lt
                    have hsf : ∀ nq, ((w5.drewN nq).setCell ⟨w.heap.size + 1 + 1, b, none⟩ (.int .u8 (y : Int))).frozen? ⟨gs, j, none⟩ = false := fun nq => (HDS.out nq).blk.frozen j
                    have hsf' : w5.frozen? ⟨gs, j, none⟩ = false := D5.out.blk.frozen j
                    have hfw4 := HV4.out.few
                    have hmx := falses_set (l := seen') (j := j) (by omega) hsj
                    have HFS := Lib.hid hmx
                    clear hsj hmx
                    go_wp2_with fail
                    go_quiet (fail)
                    go_wp2_with (first
                      | (at_builtin; refine wpList_app1 _ _ rfl (.tmp 86) (.tmp 88) 39 rfl (gs + 1) 3 i3 (.int .i64 0) 8 Try.underlying39 hi3 hz3 hsz3 hbt3 rfl _ st'.length (natsV st') rfl (((HDS.out _).mark j).own.alloc _) ((Below.refl _ _).alloc (by simp; omega) _) (.int .i64 (j : Int)) _ rfl (by go_simp) rfl (by omega) (by unfold maxLen; omega) (by simp; omega) ?_; intro v5 w6 hown5 hbel5 hg5; have HA := Lib.hid (((HDS.out _).mark j).app hown5 hbel5); clear hown5 hbel5 hg5))
                    go_roundw
                    case rel =>
                      refine ⟨b + 1, seen'.set j true, st' ++ [j], by go_num, by omega, HA.out, HV4.out.push HOT.out.2.2.2 hjn HSJ.out, fun k hk => more_set _ _ k (HMO.out k hk), fun b' hb' => ?_, ?_⟩
                      · by_cases e9 : b' = b
                        · subst e9; exact ⟨HSA.out, by rw [← HOT.out.2.2.1, getD_set (by omega), if_pos rfl]⟩
                        · exact ⟨(HSN.out b' (by omega)).1, more_set _ _ _ (HSN.out b' (by omega)).2⟩
                      · have h1 := HFS.out
                        have h2 := HSS.out
                        simp only [List.length_append, List.length_singleton]
                        omega
                    case measure => simp [intOf]; omega
                · have e3 : ((xb.toNat : Int) != ((byteOf m b).toNat : Int)) = true := by
                    have : xb.toNat ≠ (byteOf m b).toNat := fun h9 => hxe (UInt8.toNat_inj.1 h9.symm)
                    simp; omega
                  obtain ⟨y, hy⟩ : ∃ y, y = xb.toNat := ⟨_, rfl⟩
                  obtain ⟨z, hz'⟩ : ∃ z, z = (byteOf m b).toNat := ⟨_, rfl⟩
                  have hyl : y < 256 := by rw [hy]; exact xb.toNat_lt
                  have hzl : z < 256 := by rw [hz']; exact (byteOf m b).toNat_lt
                  rw [← hy] at hix e3
                  rw [← hz'] at hcl e3
                  have hno := HNO.out (fun h9 => hxe (by
                    have := sameAt_one ((h9 i HMET.out).2 b hlb)
                    rw [HXB.out] at this
                    simpa using this.symm))
                  obtain ⟨h8, h9⟩ := hno
                  subst h8
                  subst h9
                  clear hy hz' hz hc256 hsz hxe
                  go_wp2_with fail
                  go_quiet (fail)
                  go_wp2_with fail
                  rename_i nq _ _
                  (try simp only [Exit.inBlock, Exit.then])
                  refine bodyPost_ret (res51 (cs := tab m 0) rfl rfl rfl (by rw [zeros_tab m]; exact (D5.out.drew nq).lb.res _) (tab_len m 0)) rfl ?_
                  exact ⟨rfl, (D5.out.drew nq).lb.out _⟩
            · have e1 : ((ot.size : Int) != 1) = true := by simp; omega
              have hno := HNO.out (fun h9 => h1 (by
                rw [HOT.out.2.1]; exact ((h9 i HMET.out).2 b hlb).1))
              obtain ⟨h8, h9⟩ := hno
              subst h8
              subst h9
              go_wp2_with fail
              go_quiet (fail)
              go_wp2_with fail
              rename_i nq _ _
              (try simp only [Exit.inBlock, Exit.then])
              refine bodyPost_ret (res51 (cs := tab m 0) rfl rfl rfl (by rw [zeros_tab m]; exact (D5.out.drew nq).lb.res _) (tab_len m 0)) rfl ?_
              exact ⟨rfl, (D5.out.drew nq).lb.out _⟩
          · obtain rfl : b = 256 := by omega
            go_wp2_with fail
            go_roundw
            case rel =>
              refine ⟨seen', st', i :: done, ?_, HV4.out, fun i' hi' => ?_, fun h9 => (by cases h9), fun _ => ?_⟩
              · rw [if_neg (by simp), ← show max c0' 256 = 256 by rcases HCC.out with h9 | h9 <;> omega]
                exact D4.out
              · rcases List.mem_cons.1 hi' with rfl | h9
                · exact ⟨⟨by rw [← HT.out]; exact HTS.out, fun b hb => (HSN.out b hb).1⟩, fun b hb => (HSN.out b hb).2⟩
                · exact HN.out.more HMO.out i' h9
              · rcases HCC.out with h9 | h9
                · simp [h9.2]
                · simp [h9.2]
            case measure =>
              rw [HSR.out, srM_eq D4.out.blk]
              have := HSS.out
              omega
      · have e1 : t.toList.isEmpty = false := by rw [strB]; simp [hts]
        have hno := HNO.out (fun h9 => hts (by have := (h9 i HMET.out).1; rw [HT.out]; exact this))
        obtain ⟨h8, h9⟩ := hno
        subst h8
        subst h9
        clear hts
        go_wp2_with fail
        go_quiet (fail)
        go_wp2_with fail
        rename_i nq _ _
        (try simp only [Exit.inBlock, Exit.then])
        refine bodyPost_ret (res51 (cs := tab m 0) rfl rfl rfl (by rw [zeros_tab m]; exact (D3.out.drew nq).lb.res _) (tab_len m 0)) rfl ?_
        exact ⟨rfl, (D3.out.drew nq).lb.out _⟩
end Go.Proofs.Ythjnkpoalbddkaa
