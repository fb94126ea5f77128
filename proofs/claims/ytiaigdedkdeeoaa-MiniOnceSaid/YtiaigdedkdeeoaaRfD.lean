/- The reference's differ. -/
import Derived.Test.YtiaigdedkdeeoaaRfL
namespace Go.Proofs.Ytiaigdedkdeeoaa
open Go.RowKit
attribute [local go_sem ↓] load_26

def bitI (b : Bool) : Int := if b then 1 else 0
def bitsL (l : List Bool) : List Int := l.map bitI
def tb (T : List (List Bool)) (i j : Nat) : Bool := (T.getD i []).getD j false
theorem bits_row (T : List (List Bool)) (i : Nat) : (T.map bitsL).getD i [] = bitsL (T.getD i []) := by
  simp only [List.getD_eq_getElem?_getD, List.getElem?_map]
  cases T[i]? <;> rfl
theorem bits_get (l : List Bool) (j : Nat) : (bitsL l).getD j 0 = bitI (l.getD j false) := by
  simp only [bitsL, List.getD_eq_getElem?_getD, List.getElem?_map]
  cases l[j]? <;> rfl
theorem bits_len (l : List Bool) : (bitsL l).length = l.length := by simp [bitsL]
/-- two states part at byte b -/
def Diff (A : Aut) (T : List (List Bool)) (i j b : Nat) : Prop := ¬ (Dead A i b ↔ Dead A j b) ∨ (¬ Dead A i b ∧ tb T (A.nx i b).toNat (A.nx j b).toNat = true)
open Classical in
noncomputable def diffB (A : Aut) (T : List (List Bool)) (i j : Nat) : Bool := if ∃ b, b < 256 ∧ Diff A T i j b then true else false
theorem diffB_yes {A : Aut} {T : List (List Bool)} {i j b : Nat} (hb : b < 256) (h : Diff A T i j b) : diffB A T i j = true := by unfold diffB; rw [if_pos ⟨b, hb, h⟩]
theorem diffB_no {A : Aut} {T : List (List Bool)} {i j : Nat} (h : ∀ b, b < 256 → ¬ Diff A T i j b) : diffB A T i j = false := by unfold diffB; rw [if_neg (fun ⟨b, hb, h9⟩ => h b hb h9)]
theorem diffB_get {A : Aut} {T : List (List Bool)} {i j : Nat} (h : diffB A T i j = true) : ∃ b, b < 256 ∧ Diff A T i j b := Classical.byContradiction fun h9 => by
  rw [diffB_no (fun b hb hd => h9 ⟨b, hb, hd⟩)] at h; cases h
def LvC (lv : List Bool) : Nat → Nat → Value := fun k _ => .int .i64 (bitI (lv.getD k false))
theorem nxL_get (A : Aut) (i : Nat) {k : Nat} (h : k < 256) : (nxL A i 256).getD k 0 = A.nx i k := by unfold nxL; simp [h]
theorem dead_neg {A : Aut} {i b : Nat} {x : Int} (hx : x = A.nx i b) (h : x < 0) : Dead A i b := .inl (by omega)
theorem dead_lv {A : Aut} {i b j : Nat} {lv : List Bool} (hx : (j : Int) = A.nx i b) (hl : lv.getD j false = true ↔ Live A j) (h : lv.getD j false = false) : Dead A i b := .inr (fun h9 => by
  rw [← hx, Int.toNat_natCast] at h9
  rw [hl.2 h9] at h; cases h)
theorem not_dead_lv {A : Aut} {i b j : Nat} {lv : List Bool} (hx : (j : Int) = A.nx i b) (hl : lv.getD j false = true ↔ Live A j) (h : lv.getD j false = true) : ¬ Dead A i b := fun h9 => by
  rcases h9 with h9 | h9
  · rw [← hx] at h9; omega
  · rw [← hx, Int.toNat_natCast] at h9; exact h9 (hl.1 h)
theorem lt_succ_imp {P : Nat → Prop} {t : Nat} (h : ∀ b, b < t → P b) (ht : P t) : ∀ b, b < t + 1 → P b := fun b hb => by
  by_cases e : b = t
  · rw [e]; exact ht
  · exact h b (by omega)
set_option maxRecDepth 100000 in
set_option maxHeartbeats 8000000 in
theorem differ_any (ds : Array Value) (A1 A2 : Option Addr) (n n2 c1 c2 : Nat) (D : Dfa) (RA : Nat → Option Addr) (rc : Nat → Nat) (Al : Option Addr) (cl : Nat) (lv : List Bool) (AT : Option Addr) (cT : Nat) (T : List (List Bool)) (RT : Nat → Option Addr) (rcT : Nat → Nat) (i j : Nat) (w : World) (h : DfaIn w ds A1 A2 n n2 c1 c2 D RA rc) (hr : RightD D) (hi : i < n) (hj : j < n)
    (hl : Arr w w.heap.size 1 Al n (LvC lv)) (hlv : ∀ i, i < n → (lv.getD i false = true ↔ Live (autOf D) i)) (hT : RowsIn w AT n (T.map bitsL) RT rcT) (hTw : ∀ k, k < n → (T.getD k []).length = n) :
    Calls Try.prog 33 #[.agg ds, .slice Al n cl, .slice AT n cT, .int .i64 (i : Int), .int .i64 (j : Int)] w fun e w' => e = .returned (.bool (diffB (autOf D) T i j)) ∧ Below w.heap.size w w' := by
  obtain ⟨bq, hbq⟩ : ∃ bq, bq = diffB (autOf D) T i j := ⟨_, rfl⟩
  rw [← hbq]
  have HBQ := Lib.hid hbq
  clear hbq
  have hln := h.next.len
  have hok := hr.aut
  have hAn : (autOf D).n = n := hln
  have hn4 := hr.hi
  rw [hln] at hn4
  have hbox := blk_alloc w 26 ds
  have hbl : Below w.heap.size w (w.alloc (.cells ds 26)) := (Below.refl _ _).alloc (Nat.le_refl _) _
  have hld := loadB_run 26 hbox.range (.inl rfl) (by rw [Array.length_toList, h.cells.size]; rfl)
  rw [show ds.toList.toArray = ds by simp] at hld
  have H := Lib.hid (And.intro h (And.intro hr (And.intro hok (And.intro hAn (And.intro hlv (And.intro hTw (And.intro hbox hbl)))))))
  have HA := Lib.hid hl
  have HT := Lib.hid hT
  clear h hr hok hAn hlv hTw hbox hbl hl hT
  go_enter Try.func33, Try.ntmps33
  go_wp2_with fail
  refine (bytes_any ds A1 A2 n n2 c1 c2 D RA rc i _ (H.out.1.keep H.out.2.2.2.2.2.2.2) H.out.2.1 hi).mono ?_
  rintro e w2 ⟨v, rfl, hown, hb2⟩
  obtain ⟨A5, c5, rfl⟩ := own_sl hown
  have hbx := H.out.2.2.2.2.2.2.1.below hb2 (by simp)
  have hbl := H.out.2.2.2.2.2.2.2.trans (hb2.mono (by simp))
  have hld := loadB_run 26 hbx.range (.inl rfl) (by rw [Array.length_toList, H.out.1.cells.size]; rfl)
  rw [show ds.toList.toArray = ds by simp] at hld
  have HO := Lib.hid (And.intro (own_ints hown) hbl)
  clear hown hb2 hbx hbl
  go_wp2_with fail
  refine (bytes_any ds A1 A2 n n2 c1 c2 D RA rc j w2 (H.out.1.keep HO.out.2) H.out.2.1 hj).mono ?_
  rintro e w3 ⟨v, rfl, hown, hb3⟩
  obtain ⟨A6, c6, rfl⟩ := own_sl hown
  have hbl := HO.out.2.trans (hb3.mono HO.out.2.size)
  have hl5 := (HO.out.1.below hb3)
  have HP := Lib.hid (And.intro hl5 (And.intro (own_ints hown) hbl))
  clear hown hb3 hbl hl5 hld
  go_wp2_with fail
  go_loopw [26] (fun k wr => ∃ t : Nat, t ≤ 256 ∧ k = .int .i64 t ∧ wr = w3 ∧ ∀ b, b < t → ¬ Diff (autOf D) T i j b) (fun k _ => 256 - (intOf k).toNat)
  case atStart => exact ⟨0, by omega, rfl, rfl, fun b hb => by omega⟩
  case round =>
    obtain ⟨t, ht, rfl, rfl, hnd⟩ := hrel
    have HN := Lib.hid hnd
    clear hnd
    by_cases htl : t < 256
    · obtain ⟨b5, o5, e5, _, hc5⟩ := HP.out.1.one htl
      subst e5
      obtain ⟨b6, o6, e6, _, hc6⟩ := HP.out.2.1.one htl
      subst e6
      rw [nxL_get _ _ htl] at hc5 hc6
      have hxlo := H.out.2.2.1.lo i t (by rw [H.out.2.2.2.1]; exact hi) htl
      have hxhi := H.out.2.2.1.hi i t (by rw [H.out.2.2.2.1]; exact hi) htl
      have hylo := H.out.2.2.1.lo j t (by rw [H.out.2.2.2.1]; exact hj) htl
      have hyhi := H.out.2.2.1.hi j t (by rw [H.out.2.2.2.1]; exact hj) htl
      rw [H.out.2.2.2.1] at hxhi hyhi
      obtain ⟨x, hx⟩ : ∃ x, x = (autOf D).nx i t := ⟨_, rfl⟩
      obtain ⟨y, hy⟩ : ∃ y, y = (autOf D).nx j t := ⟨_, rfl⟩
      rw [← hx] at hc5 hxlo hxhi
      rw [← hy] at hc6 hylo hyhi
      have HX := Lib.hid hx
      have HY := Lib.hid hy
      clear hx hy
      have hlc : ∀ k : Nat, (k : Int) < (n : Int) → ∃ b o, Al = some ⟨b, o, none⟩ ∧ wr.cell? ⟨b, o + k, none⟩ = some (.int .i64 (bitI (lv.getD k false))) := fun k hk => by
        obtain ⟨b, o, e, hb, hc⟩ := HA.out.one (k := k) (by omega)
        exact ⟨b, o, e, (HP.out.2.2.cell (p := ⟨b, o + k, none⟩) hb).trans hc⟩
      have HLC := Lib.hid hlc
      clear hlc
      by_cases hx0 : x < 0
      · have dx : decide (x < 0) = true := by simpa using hx0
        have HXD := Lib.hid (dead_neg HX.out hx0)
        clear hx0
        by_cases hy0 : y < 0
        · have dy : decide (y < 0) = true := by simpa using hy0
          have HYD := Lib.hid (dead_neg HY.out hy0)
          clear hy0
          go_wp2_with fail
          go_roundw
          case rel => exact ⟨t + 1, by omega, by go_num, by first | rfl | trivial, lt_succ_imp HN.out (fun h9 => by
              rcases h9 with h9 | h9
              · exact h9 ⟨fun _ => HYD.out, fun _ => HXD.out⟩
              · exact h9.1 HXD.out)⟩
          case measure => simp [intOf]; omega
        · have dy : decide (y < 0) = false := by simpa using hy0
          obtain ⟨y, rfl⟩ := Int.eq_ofNat_of_zero_le (by omega : 0 ≤ y)
          obtain ⟨bly, oly, ely, hcly⟩ := HLC.out y (by omega)
          first | subst ely | (injection ely with ely; injection ely with ela elb; subst ela; subst elb)
          have hlvy := H.out.2.2.2.2.1 y (by omega)
          obtain ⟨vly, hvly⟩ : ∃ vl, vl = lv.getD y false := ⟨_, rfl⟩
          rw [← hvly] at hcly
          have HLVy := Lib.hid hlvy
          clear hlvy hy0
          cases vly with
          | false =>
            rw [show bitI false = 0 from rfl] at hcly
            have HYD := Lib.hid (dead_lv HY.out HLVy.out hvly.symm)
            clear hvly
            go_wp2_with fail
            go_roundw
            case rel => exact ⟨t + 1, by omega, by go_num, by first | rfl | trivial, lt_succ_imp HN.out (fun h9 => by
                rcases h9 with h9 | h9
                · exact h9 ⟨fun _ => HYD.out, fun _ => HXD.out⟩
                · exact h9.1 HXD.out)⟩
            case measure => simp [intOf]; omega
          | true =>
            rw [show bitI true = 1 from rfl] at hcly
            have HYD := Lib.hid (not_dead_lv HY.out HLVy.out hvly.symm)
            clear hvly
            go_wp2_with fail
            go_returns
            exact ⟨by rw [HBQ.out, diffB_yes htl (.inl (fun h9 => HYD.out (h9.1 HXD.out)))]; rfl, HP.out.2.2⟩
      · have dx : decide (x < 0) = false := by simpa using hx0
        obtain ⟨x, rfl⟩ := Int.eq_ofNat_of_zero_le (by omega : 0 ≤ x)
        obtain ⟨blx, olx, elx, hclx⟩ := HLC.out x (by omega)
        subst elx
        have hlvx := H.out.2.2.2.2.1 x (by omega)
        obtain ⟨vlx, hvlx⟩ : ∃ vl, vl = lv.getD x false := ⟨_, rfl⟩
        rw [← hvlx] at hclx
        have HLVx := Lib.hid hlvx
        clear hlvx hx0
        cases vlx with
        | false =>
          rw [show bitI false = 0 from rfl] at hclx
          have HXD := Lib.hid (dead_lv HX.out HLVx.out hvlx.symm)
          clear hvlx
          by_cases hy0 : y < 0
          · have dy : decide (y < 0) = true := by simpa using hy0
            have HYD := Lib.hid (dead_neg HY.out hy0)
            clear hy0
            go_wp2_with fail
            go_roundw
            case rel => exact ⟨t + 1, by omega, by go_num, by first | rfl | trivial, lt_succ_imp HN.out (fun h9 => by
                rcases h9 with h9 | h9
                · exact h9 ⟨fun _ => HYD.out, fun _ => HXD.out⟩
                · exact h9.1 HXD.out)⟩
            case measure => simp [intOf]; omega
          · have dy : decide (y < 0) = false := by simpa using hy0
            obtain ⟨y, rfl⟩ := Int.eq_ofNat_of_zero_le (by omega : 0 ≤ y)
            obtain ⟨bly, oly, ely, hcly⟩ := HLC.out y (by omega)
            first | subst ely | (injection ely with ely; injection ely with ela elb; subst ela; subst elb)
            have hlvy := H.out.2.2.2.2.1 y (by omega)
            obtain ⟨vly, hvly⟩ : ∃ vl, vl = lv.getD y false := ⟨_, rfl⟩
            rw [← hvly] at hcly
            have HLVy := Lib.hid hlvy
            clear hlvy hy0
            cases vly with
            | false =>
              rw [show bitI false = 0 from rfl] at hcly
              have HYD := Lib.hid (dead_lv HY.out HLVy.out hvly.symm)
              clear hvly
              go_wp2_with fail
              go_roundw
              case rel => exact ⟨t + 1, by omega, by go_num, by first | rfl | trivial, lt_succ_imp HN.out (fun h9 => by
                  rcases h9 with h9 | h9
                  · exact h9 ⟨fun _ => HYD.out, fun _ => HXD.out⟩
                  · exact h9.1 HXD.out)⟩
              case measure => simp [intOf]; omega
            | true =>
              rw [show bitI true = 1 from rfl] at hcly
              have HYD := Lib.hid (not_dead_lv HY.out HLVy.out hvly.symm)
              clear hvly
              go_wp2_with fail
              go_returns
              exact ⟨by rw [HBQ.out, diffB_yes htl (.inl (fun h9 => HYD.out (h9.1 HXD.out)))]; rfl, HP.out.2.2⟩
        | true =>
          rw [show bitI true = 1 from rfl] at hclx
          have HXD := Lib.hid (not_dead_lv HX.out HLVx.out hvlx.symm)
          clear hvlx
          by_cases hy0 : y < 0
          · have dy : decide (y < 0) = true := by simpa using hy0
            have HYD := Lib.hid (dead_neg HY.out hy0)
            clear hy0
            go_wp2_with fail
            go_returns
            exact ⟨by rw [HBQ.out, diffB_yes htl (.inl (fun h9 => HXD.out (h9.2 HYD.out)))]; rfl, HP.out.2.2⟩
          · have dy : decide (y < 0) = false := by simpa using hy0
            obtain ⟨y, rfl⟩ := Int.eq_ofNat_of_zero_le (by omega : 0 ≤ y)
            obtain ⟨bly, oly, ely, hcly⟩ := HLC.out y (by omega)
            first | subst ely | (injection ely with ely; injection ely with ela elb; subst ela; subst elb)
            have hlvy := H.out.2.2.2.2.1 y (by omega)
            obtain ⟨vly, hvly⟩ : ∃ vl, vl = lv.getD y false := ⟨_, rfl⟩
            rw [← hvly] at hcly
            have HLVy := Lib.hid hlvy
            clear hlvy hy0
            cases vly with
            | false =>
              rw [show bitI false = 0 from rfl] at hcly
              have HYD := Lib.hid (dead_lv HY.out HLVy.out hvly.symm)
              clear hvly
              go_wp2_with fail
              go_returns
              exact ⟨by rw [HBQ.out, diffB_yes htl (.inl (fun h9 => HXD.out (h9.2 HYD.out)))]; rfl, HP.out.2.2⟩
            | true =>
              rw [show bitI true = 1 from rfl] at hcly
              have HYD := Lib.hid (not_dead_lv HY.out HLVy.out hvly.symm)
              clear hvly
              obtain ⟨bt, ot, et, hbt, hct⟩ := HT.out.arr.one (k := x) (by omega)
              subst et
              unfold RowC at hct
              rw [bits_row, bits_len, H.out.2.2.2.2.2.1 x (by omega)] at hct
              replace hct := (HP.out.2.2.cell (p := ⟨bt, ot + x, none⟩) hbt).trans hct
              obtain ⟨bu, ou, eu, hbu, hcu⟩ := (HT.out.row x (by omega)).one (k := y) (by rw [bits_row, bits_len, H.out.2.2.2.2.2.1 x (by omega)]; omega)
              rw [eu] at hct
              unfold NumC at hcu
              rw [bits_row, bits_get] at hcu
              replace hcu := (HP.out.2.2.cell (p := ⟨bu, ou + y, none⟩) hbu).trans hcu
              have htb : (T.getD x []).getD y false = tb T ((autOf D).nx i t).toNat ((autOf D).nx j t).toNat := by rw [← HX.out, ← HY.out]; rfl
              rw [htb] at hcu
              obtain ⟨vb, hvb⟩ : ∃ vb, vb = tb T ((autOf D).nx i t).toNat ((autOf D).nx j t).toNat := ⟨_, rfl⟩
              rw [← hvb] at hcu
              have HVB := Lib.hid hvb
              clear htb hvb eu hbt hbu
              cases vb with
              | true =>
                rw [show bitI true = 1 from rfl] at hcu
                go_wp2_with fail
                go_returns
                exact ⟨by rw [HBQ.out, diffB_yes htl (.inr ⟨HXD.out, HVB.out.symm⟩)]; rfl, HP.out.2.2⟩
              | false =>
                rw [show bitI false = 0 from rfl] at hcu
                go_wp2_with fail
                go_roundw
                case rel => exact ⟨t + 1, by omega, by go_num, by first | rfl | trivial, lt_succ_imp HN.out (fun h9 => by
                    rcases h9 with h9 | h9
                    · exact h9 ⟨fun h8 => (HXD.out h8).elim, fun h8 => (HYD.out h8).elim⟩
                    · rw [← HVB.out] at h9; cases h9.2)⟩
                case measure => simp [intOf]; omega
    · have ht6 : t = 256 := by omega
      go_wp2_with fail
      go_returns
      exact ⟨by rw [HBQ.out, diffB_no (fun b hb hd => HN.out b (by omega) hd)]; rfl, HP.out.2.2⟩
end Go.Proofs.Ytiaigdedkdeeoaa
