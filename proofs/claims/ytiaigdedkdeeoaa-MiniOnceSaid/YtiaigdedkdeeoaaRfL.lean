/- The reference's live. -/
import Derived.Test.YtiaigdedkdeeoaaRfB
import Derived.Test.YtiaigdedkdeeoaaMiBox
namespace Go.Proofs.Ytiaigdedkdeeoaa
open Go.RowKit
attribute [local go_sem ↓] load_26

/-- closed at state i for the bytes below k -/
def Shut (A : Aut) (lv : List Bool) (i k : Nat) : Prop := ∀ b, b < k → 0 ≤ A.nx i b → lv.getD (A.nx i b).toNat false = true → lv.getD i false = true
structure Mk (A : Aut) (lv : List Bool) : Prop where
  len : lv.length = A.n
  live : ∀ j, j < A.n → lv.getD j false = true → Live A j
  acc : ∀ j, j < A.n → A.acc j = true → lv.getD j false = true
theorem Mk.done {A : Aut} (hok : A.Ok) {lv : List Bool} (h : Mk A lv) (hs : ∀ i, i < A.n → Shut A lv i 256) : ∀ i, i < A.n → (lv.getD i false = true ↔ Live A i) := fun i hi =>
  ⟨h.live i hi, fun h9 => live_least (S := fun j => lv.getD j false = true) h.acc (fun i b hi hb h0 hm => hs i hi b hb h0 hm) hok hi h9⟩
theorem Mk.set {A : Aut} {lv : List Bool} (h : Mk A lv) {i b : Nat} (hi : i < A.n) (hb : b < 256) (h0 : 0 ≤ A.nx i b) (hj : (A.nx i b).toNat < A.n) (hm : lv.getD (A.nx i b).toNat false = true) : Mk A (lv.set i true) := by
  refine ⟨by simp [h.len], fun j hj9 hjm => ?_, fun j hj9 ha => more_set _ _ (h.acc j hj9 ha)⟩
  rw [getD_set (by rw [h.len]; exact hj9)] at hjm
  by_cases e : j = i
  · subst e; exact live_step hb h0 (h.live _ hj hm)
  · rw [if_neg e] at hjm; exact h.live j hj9 hjm
structure RlW (w W : World) (ds : Array Value) (lv : List Bool) : Prop where
  bel : Below w.heap.size w W
  box : Blk W w.heap.size 26 ds.toList
  blk : Blk W (w.heap.size + 1) 3 (bitsV lv)
section
variable {w W W' : World} {ds : Array Value} {lv : List Bool}
theorem RlW.go (h : RlW w W ds lv) (hb : Below W.heap.size W W') : RlW w W' ds lv :=
  ⟨h.bel.trans (hb.mono h.bel.size), h.box.below hb h.box.lt, h.blk.below hb h.blk.lt⟩
theorem RlW.set (h : RlW w W ds lv) (j : Nat) : RlW w (W.setCell ⟨w.heap.size + 1, j, none⟩ (.int .i64 1)) ds (lv.set j true) :=
  ⟨h.bel.setCell (p := ⟨w.heap.size + 1, j, none⟩) (Nat.le_succ _) _, (but_setCell W _ j _).blk h.box (by omega), by rw [bitsV_set]; exact h.blk.set j _⟩
theorem RlW.cell (h : RlW w W ds lv) {j : Nat} (hj : j < lv.length) : W.cell? ⟨w.heap.size + 1, j, none⟩ = some (.int .i64 (if lv.getD j false = true then 1 else 0)) := by
  rw [h.blk.cell]; exact bitsV_get hj
end
/-- how many marks are 0 -/
def zerosB (g : Nat) (W : World) : Nat := match W.heap[g]? with | some (.cells cs _ _) => cs.toList.countP (fun v => match v with | .int _ x => x == 0 | _ => false) | _ => 0
theorem zerosB_eq {g : Nat} {W : World} {lv : List Bool} (h : Blk W g 3 (bitsV lv)) : zerosB g W = falses lv := by
  unfold zerosB falses
  rw [show W.heap[g]? = _ from h]
  simp only [bitsV, List.countP_map]
  congr 1
  funext b
  cases b <;> rfl
set_option maxRecDepth 100000 in
set_option maxHeartbeats 8000000 in
theorem rlive_any (ds : Array Value) (A1 A2 : Option Addr) (n n2 c1 c2 : Nat) (D : Dfa) (RA : Nat → Option Addr) (rc : Nat → Nat) (w : World) (h : DfaIn w ds A1 A2 n n2 c1 c2 D RA rc) (hr : RightD D) :
    Calls Try.prog 23 #[.agg ds] w fun e w' => ∃ lv : List Bool, e = .returned (.slice (some ⟨w.heap.size + 1, 0, none⟩) n n) ∧ Blk w' (w.heap.size + 1) 3 (bitsV lv) ∧ lv.length = n ∧ (∀ i, i < n → (lv.getD i false = true ↔ Live (autOf D) i)) ∧ Below w.heap.size w w' := by
  have hln := h.next.len
  have hal := h.alen
  have hra := hr.alen
  have hn4 := hr.hi
  have hn1 := hr.lo
  rw [hln] at hn4 hn1
  have hok := hr.aut
  have hAn : (autOf D).n = n := hln
  have hmk := make_one 34 3 (.int .i64 0) 8 Try.underlying34 info3 rfl n (by omega) (by omega)
  have hq : w.cell? ⟨0, 0, none⟩ = w.cell? ⟨0, 0, none⟩ := rfl
  clear hq
  have hn2 : n2 = n := by omega
  subst hn2
  have hbox := blk_alloc w 26 ds
  have q1 := hbox.cell 256
  rw [show ds.toList[256]? = ds[256]? by simp, h.cells.nx] at q1
  have hrl : RlW w ((w.alloc (.cells ds 26)).alloc (.cells (Array.replicate n2 (.int .i64 0)) 3)) ds (List.replicate n2 false) := by
    refine ⟨((Below.refl _ _).alloc (Nat.le_refl _) _).alloc (by simp) _, hbox.alloc _, ?_⟩
    have := Blk.new (w.alloc (.cells ds 26)) 3 (List.replicate n2 (Value.int .i64 0))
    rw [World.size_alloc] at this
    have e : bitsV (List.replicate n2 false) = List.replicate n2 (Value.int .i64 0) := by simp [bitsV]
    rw [e]; simpa using this
  have H := Lib.hid (And.intro h (And.intro hr (And.intro hok hAn)))
  have HL := Lib.hid hrl
  clear h hr hok hAn hbox hrl
  go_enter Try.func23, Try.ntmps23
  go_wp2_with fail
  clear hmk q1
  generalize (w.alloc (.cells ds 26)).alloc (.cells (Array.replicate n2 (.int .i64 0)) 3) = w1 at HL ⊢
  go_loopw [15] (fun i wr => ∃ (k : Nat) (lv : List Bool), k ≤ n2 ∧ i = .int .i64 k ∧ RlW w wr ds lv ∧ lv.length = n2 ∧ ∀ j, lv.getD j false = true ↔ j < k ∧ D.acc.getD j false = true) (fun i _ => n2 - (intOf i).toNat)
  case atStart => exact ⟨0, _, by omega, rfl, HL.out, by simp, fun j => ⟨fun h9 => (rep_false h9).elim, fun h9 => by omega⟩⟩
  case round =>
    obtain ⟨k, lv, hk, rfl, hl, hll, hm⟩ := hrel
    have HK := Lib.hid (And.intro hl (And.intro hll hm))
    clear hl hll hm HL
    by_cases hlt : k < n2
    · have q2 := HK.out.1.box.cell 257
      rw [show ds.toList[257]? = ds[257]? by simp, H.out.1.cells.ac] at q2
      obtain ⟨b1, o1, e1, hbb1, hc1⟩ := H.out.1.aarr.one hlt
      subst e1
      unfold BoolC at hc1
      have hc1 := (HK.out.1.bel.cell (p := ⟨b1, o1 + k, none⟩) hbb1).trans hc1
      have hce := HK.out.1.cell (j := k) (by rw [HK.out.2.1]; exact hlt)
      have hfz := HK.out.1.blk.frozen k
      obtain ⟨ba, hba⟩ : ∃ ba, ba = D.acc.getD k false := ⟨_, rfl⟩
      rw [← hba] at hc1
      have HA := Lib.hid hba
      clear hba
      cases ba with
      | false =>
        go_wp2_with fail
        go_roundw
        case rel => exact ⟨k + 1, lv, by omega, by go_num, HK.out.1, HK.out.2.1, fun j => by
          rw [HK.out.2.2 j]
          constructor
          · exact fun h9 => ⟨by omega, h9.2⟩
          · intro h9
            refine ⟨?_, h9.2⟩
            by_cases e : j = k
            · rw [e, ← HA.out] at h9; simp at h9
            · omega⟩
        case measure => simp [intOf]; omega
      | true =>
        go_wp2_with fail
        go_roundw
        case rel => exact ⟨k + 1, lv.set k true, by omega, by go_num, HK.out.1.set k, by rw [List.length_set, HK.out.2.1], fun j => by
          by_cases e : j = k
          · subst e
            rw [getD_set (by rw [HK.out.2.1]; exact hlt), if_pos rfl, ← HA.out]; simp
          · have e9 : (lv.set k true).getD j false = lv.getD j false := by
              rw [List.getD_eq_getElem?_getD, List.getElem?_set, if_neg (Ne.symm e), ← List.getD_eq_getElem?_getD]
            rw [e9, HK.out.2.2 j]
            constructor
            · exact fun h9 => ⟨by omega, h9.2⟩
            · exact fun h9 => ⟨by omega, h9.2⟩⟩
        case measure => simp [intOf]; omega
    · have hkn : k = n2 := by omega
      have hmk : Mk (autOf D) lv := ⟨by rw [HK.out.2.1, H.out.2.2.2], fun j hj hm => live_acc ((HK.out.2.2 j).1 hm).2, fun j hj ha => (HK.out.2.2 j).2 ⟨by have := H.out.2.2.2; omega, ha⟩⟩
      have HM := Lib.hid (And.intro HK.out.1 hmk)
      clear hkn hmk
      go_wp2_with fail
      go_loopw [5] (fun b wr => ∃ (more : Bool) (lv : List Bool), b = .bool more ∧ RlW w wr ds lv ∧ Mk (autOf D) lv ∧ (more = false → ∀ i, i < n2 → Shut (autOf D) lv i 256)) (fun b wr => 2 * zerosB (w.heap.size + 1) wr + (match b with | .bool true => 1 | _ => 0))
      case atStart => exact ⟨true, lv, rfl, HM.out.1, HM.out.2, fun h9 => by cases h9⟩
      case round =>
        obtain ⟨more, lv2, rfl, hl, hm, hs⟩ := hrel
        have HS := Lib.hid (And.intro hl (And.intro hm hs))
        clear hl hm hs HM
        cases more with
        | false =>
          go_wp2_with fail
          go_returns
          exact ⟨by first | rfl | simp, lv2, HS.out.1.blk, by rw [HS.out.2.1.len, H.out.2.2.2], fun i hi => HS.out.2.1.done H.out.2.2.1 (fun i hi => HS.out.2.2 trivial i (by rw [← H.out.2.2.2]; exact hi)) i (by rw [H.out.2.2.2]; exact hi), HS.out.1.bel⟩
        | true =>
          have q1 := HS.out.1.box.cell 256
          rw [show ds.toList[256]? = ds[256]? by simp, H.out.1.cells.nx] at q1
          go_wp2_with fail
          go_loopw [5, 31] (fun b i wr => ∃ (t : Nat) (more : Bool) (lv : List Bool), t ≤ n2 ∧ b = .bool more ∧ i = .int .i64 t ∧ RlW w wr ds lv ∧ Mk (autOf D) lv ∧ (more = false → lv = lv2 ∧ ∀ i, i < t → Shut (autOf D) lv i 256) ∧ (more = true → falses lv < falses lv2)) (fun _ i _ => n2 - (intOf i).toNat)
          case atStart => exact ⟨0, false, lv2, by omega, rfl, rfl, HS.out.1, HS.out.2.1, fun _ => ⟨rfl, fun i hi => by omega⟩, fun h9 => by cases h9⟩
          case round =>
            obtain ⟨t, more, lv3, ht, rfl, rfl, hl, hm, hs1, hs2⟩ := hrel
            have HT := Lib.hid (And.intro hl (And.intro hm (And.intro hs1 hs2)))
            clear hl hm hs1 hs2
            by_cases htl : t < n2
            · have hld := loadB_run 26 HT.out.1.box.range (.inl rfl) (by rw [Array.length_toList, H.out.1.cells.size]; rfl)
              have hcb := bytes_any ds A1 A2 n2 n2 c1 c2 D RA rc t wr (H.out.1.keep (HT.out.1.bel)) H.out.2.1 htl
              rw [show ds.toList.toArray = ds by simp] at hld
              have HB := Lib.hid hcb
              clear hcb
              go_wp2_with fail
              refine HB.out.mono ?_
              rintro e w3 ⟨v, rfl, hown, hb3⟩
              obtain ⟨A5, c5, rfl⟩ := own_sl hown
              have HO := Lib.hid (And.intro (HT.out.1.go hb3) hown)
              obtain ⟨B, hB⟩ : ∃ B, B = wr.heap.size := ⟨_, rfl⟩
              have hBg : w.heap.size + 1 < B := by rw [hB]; exact HT.out.1.blk.lt
              rw [← hB] at HO
              clear hown hb3 hld hB HB
              go_wp2_with fail
              go_loopw [5, 38] (fun b i wr => ∃ (k : Nat) (more : Bool) (lv : List Bool), k ≤ 256 ∧ b = .bool more ∧ i = .int .i64 k ∧ RlW w wr ds lv ∧ wr.ownsRow B 3 1 (.slice A5 256 c5) 256 (numsV .i64 (nxL (autOf D) t 256)) ∧ Mk (autOf D) lv ∧ (more = false → lv = lv2 ∧ (∀ i, i < t → Shut (autOf D) lv i 256) ∧ Shut (autOf D) lv t k) ∧ (more = true → falses lv < falses lv2)) (fun _ i _ => 256 - (intOf i).toNat)
              case atStart => exact ⟨0, more, lv3, by omega, rfl, rfl, HO.out.1, HO.out.2, HT.out.2.1, fun h9 => ⟨(HT.out.2.2.1 h9).1, (HT.out.2.2.1 h9).2, fun b hb => by omega⟩, HT.out.2.2.2⟩
              case round =>
                obtain ⟨k, more', lv4, hk, rfl, rfl, hl, hown, hm, hs1, hs2⟩ := hrel
                have HQ := Lib.hid (And.intro hl (And.intro hown (And.intro hm (And.intro hs1 hs2))))
                clear hl hown hm hs1 hs2
                by_cases hkl : k < 256
                · obtain ⟨b5, o5, e5, _, hc5⟩ := (own_ints HQ.out.2.1).one hkl
                  subst e5
                  have hnx : (nxL (autOf D) t 256).getD k 0 = (autOf D).nx t k := by unfold nxL; simp [hkl]
                  rw [hnx] at hc5
                  have hlo := H.out.2.2.1.lo t k (by rw [H.out.2.2.2]; exact htl) hkl
                  have hhi := H.out.2.2.1.hi t k (by rw [H.out.2.2.2]; exact htl) hkl
                  rw [H.out.2.2.2] at hhi
                  obtain ⟨x, hx⟩ : ∃ x, x = (autOf D).nx t k := ⟨_, rfl⟩
                  rw [← hx] at hc5 hlo hhi
                  have HX := Lib.hid hx
                  have hl4 := HQ.out.2.2.1.len
                  rw [H.out.2.2.2] at hl4
                  have hct := HQ.out.1.cell (j := t) (by omega)
                  have hsh : ∀ (hv : 0 ≤ x → lv4.getD x.toNat false = true → lv4.getD t false = true), more' = false → lv4 = lv2 ∧ (∀ i, i < t → Shut (autOf D) lv4 i 256) ∧ Shut (autOf D) lv4 t (k + 1) := fun hv h9 => ⟨(HQ.out.2.2.2.1 h9).1, (HQ.out.2.2.2.1 h9).2.1, fun b hb h0 hm => by
                    by_cases e : b = k
                    · subst e; rw [← HX.out] at h0 hm; exact hv h0 hm
                    · exact (HQ.out.2.2.2.1 h9).2.2 b (by omega) h0 hm⟩
                  have HSH := Lib.hid hsh
                  clear hx hnx hsh
                  cases hvt : lv4.getD t false with
                  | true =>
                    have HV := Lib.hid hvt
                    rw [hvt, if_pos rfl] at hct
                    clear hvt
                    go_wp2_with fail
                    go_roundw
                    case rel => exact ⟨k + 1, more', lv4, by omega, rfl, by go_num, HQ.out.1, HQ.out.2.1, HQ.out.2.2.1, HSH.out (fun _ _ => HV.out), HQ.out.2.2.2.2⟩
                    case measure => simp [intOf]; omega
                  | false =>
                    have HV := Lib.hid hvt
                    rw [hvt, if_neg (by decide)] at hct
                    clear hvt
                    by_cases hx0 : x < 0
                    · have d1 : decide (0 ≤ x) = false := by simp; omega
                      have HX0 := Lib.hid hx0
                      clear hx0
                      go_wp2_with fail
                      go_roundw
                      case rel => exact ⟨k + 1, more', lv4, by omega, rfl, by go_num, HQ.out.1, HQ.out.2.1, HQ.out.2.2.1, HSH.out (fun h9 _ => by have := HX0.out; omega), HQ.out.2.2.2.2⟩
                      case measure => simp [intOf]; omega
                    · have d1 : decide (0 ≤ x) = true := by simp; omega
                      obtain ⟨j, rfl⟩ := Int.eq_ofNat_of_zero_le (by omega : 0 ≤ x)
                      have hcj := HQ.out.1.cell (j := j) (by omega)
                      cases hvj : lv4.getD j false with
                      | false =>
                        have HJ := Lib.hid hvj
                        rw [hvj, if_neg (by decide)] at hcj
                        clear hvj hx0
                        go_wp2_with fail
                        go_roundw
                        case rel => exact ⟨k + 1, more', lv4, by omega, rfl, by go_num, HQ.out.1, HQ.out.2.1, HQ.out.2.2.1, HSH.out (fun _ h9 => by rw [Int.toNat_natCast, HJ.out] at h9; cases h9), HQ.out.2.2.2.2⟩
                        case measure => simp [intOf]; omega
                      | true =>
                        have HJ := Lib.hid hvj
                        rw [hvj, if_pos rfl] at hcj
                        clear hvj hx0
                        have hfz := HQ.out.1.blk.frozen t
                        go_wp2_with fail
                        go_roundw
                        case rel =>
                          have hf := falses_set (l := lv4) (j := t) (by omega) HV.out
                          refine ⟨k + 1, true, lv4.set t true, by omega, rfl, by go_num, HQ.out.1.set t, (but_setCell wr (w.heap.size + 1) t (.int .i64 1)).own HQ.out.2.1 (fun i hi e => by have := (HQ.out.2.1.lt i hi).1; omega), HQ.out.2.2.1.set (by rw [H.out.2.2.2]; exact htl) hkl (by rw [← HX.out]; omega) (by rw [← HX.out, H.out.2.2.2]; omega) (by rw [← HX.out]; simpa using HJ.out), fun h9 => (by cases h9), fun _ => ?_⟩
                          cases more' with
                          | false => have := (HQ.out.2.2.2.1 rfl).1; rw [← this]; omega
                          | true => have := HQ.out.2.2.2.2 rfl; omega
                        case measure => simp [intOf]; omega
                · have hk9 : k = 256 := by omega
                  go_wp2_with fail
                  go_roundw
                  case rel => exact ⟨t + 1, more', lv4, by omega, rfl, by go_num, HQ.out.1, HQ.out.2.2.1, fun h9 => ⟨(HQ.out.2.2.2.1 h9).1, fun i hi => by
                      by_cases e : i = t
                      · subst e; rw [← hk9]; exact (HQ.out.2.2.2.1 h9).2.2
                      · exact (HQ.out.2.2.2.1 h9).2.1 i (by omega)⟩, HQ.out.2.2.2.2⟩
                  case measure => simp [intOf]; omega
            · have htn : t = n2 := by omega
              go_wp2_with fail
              go_roundw
              case rel => exact ⟨more, lv3, rfl, HT.out.1, HT.out.2.1, fun h9 i hi => (HT.out.2.2.1 h9).2 i (by omega)⟩
              case measure =>
                have z1 := zerosB_eq HT.out.1.blk
                have z2 := zerosB_eq HS.out.1.blk
                rw [z1, z2]
                cases more with
                | false => rw [(HT.out.2.2.1 rfl).1]; simp
                | true => have := HT.out.2.2.2 rfl; simp; omega
end Go.Proofs.Ytiaigdedkdeeoaa
