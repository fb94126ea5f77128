/- The reference's Free. -/
import Derived.Test.YtfjhcoeehjephaaFreeMe
namespace Go.Proofs.Ytfjhcoeehjephaa
open Go.RowKit
attribute [local go_sem ↓] Go.wp_at_zero Go.wp_at_succ

def bitsV (l : List Bool) : List Value := l.map (fun b => .int .i64 (if b = true then 1 else 0))
theorem bitsV_set (l : List Bool) (j : Nat) : bitsV (l.set j true) = (bitsV l).set j (.int .i64 1) := by simp [bitsV, List.map_set]
theorem bitsV_get {l : List Bool} {j : Nat} (h : j < l.length) : (bitsV l)[j]? = some (.int .i64 (if l.getD j false = true then 1 else 0)) := by simp [bitsV, h]
structure RF (w1 W : World) (g S : Nat) (seen : List Bool) : Prop where
  blk : Blk W g 3 (bitsV seen)
  len : seen.length = S
  bel : Below g w1 W
section
variable {w1 W : World} {g S : Nat} {seen : List Bool}
theorem RF.alloc (h : RF w1 W g S seen) (o : Obj) : RF w1 (W.alloc o) g S seen := ⟨h.blk.alloc o, h.len, h.bel.alloc (Nat.le_of_lt h.blk.lt) o⟩
theorem RF.mark (h : RF w1 W g S seen) (j : Nat) : RF w1 (W.setCell ⟨g, j, none⟩ (.int .i64 1)) g S (seen.set j true) := ⟨by rw [bitsV_set]; exact h.blk.set j _, by simp [h.len], h.bel.setCell (p := ⟨g, j, none⟩) (Nat.le_refl _) _⟩
theorem RF.cell (h : RF w1 W g S seen) {j : Nat} (hj : j < S) : W.cell? ⟨g, j, none⟩ = some (.int .i64 (if seen.getD j false = true then 1 else 0)) := by
  rw [h.blk.cell]; exact bitsV_get (by rw [h.len]; exact hj)
end
def left2 (g : Nat) (v : Value) (W : World) : Nat :=
  (match W.heap[g]? with
    | some (.cells cs _ _) => cs.toList.countP (fun v => match v with | .int _ x => decide (x = 0) | _ => false)
    | _ => 0) + (match v with | .bool true => 1 | _ => 0)
theorem left2_eq {g : Nat} {b : Bool} {W : World} {seen : List Bool} (h : Blk W g 3 (bitsV seen)) : left2 g (.bool b) W = falses seen + (if b = true then 1 else 0) := by
  unfold left2 falses bitsV at *
  rw [show W.heap[g]? = _ from h]
  simp only [List.countP_map]
  congr 1
  · refine List.countP_congr (fun x _ => ?_)
    cases x <;> simp
  · cases b <;> rfl
/-- what is known of the marks -/
structure Marks (E : List Ed) (S : Nat) (L : List Int) (seen : List Bool) : Prop where
  rch : ∀ j, j < S → seen.getD j false = true → Rch E S L (j : Int)
theorem Marks.push {E : List Ed} {S : Nat} {L : List Int} {seen : List Bool} (h : Marks E S L seen) {j : Nat} (hr : Rch E S L (j : Int)) : Marks E S L (seen.set j true) := ⟨fun k hk hs => by
  by_cases e9 : k = j
  · subst e9; exact hr
  · exact h.rch k hk (by simpa [List.getD_eq_getElem?_getD, Ne.symm e9] using hs)⟩
theorem getD_set {seen : List Bool} {j k : Nat} (hk : k < seen.length) : (seen.set j true).getD k false = if k = j then true else seen.getD k false := by
  by_cases e9 : k = j
  · subst e9; simp [hk]
  · rw [if_neg e9]; simp [List.getD_eq_getElem?_getD, Ne.symm e9]
def Rts (S : Nat) (L : List Int) (seen : List Bool) : Prop := ∀ i ∈ L, ∀ j : Nat, i = (j : Int) → j < S → seen.getD j false = true
def Cls (E : List Ed) (seen : List Bool) : Prop := ∀ e ∈ E, e.free = true → seen.getD e.src.toNat false = true → seen.getD e.dst.toNat false = true
theorem marks_all {E : List Ed} {S : Nat} {L : List Int} {seen : List Bool} (h1 : Rts S L seen) (h2 : Cls E seen) {i : Int} (h : Rch E S L i) : seen.getD i.toNat false = true := by
  induction h with
  | @root i ha hb hc => exact h1 i ha i.toNat (by omega) (by omega)
  | step ha hb _ ih => exact h2 _ ha hb ih

set_option maxRecDepth 100000 in
set_option maxHeartbeats 8000000 in
theorem rfree_new (A : Option Addr) (n c S : Nat) (a z : Int) (E : List Ed) (A2 : Option Addr) (n2 c2 : Nat) (L : List Int) (w : World) (h : NfaIn w A n ⟨(S : Int), a, z, E⟩) (hr : RightN ⟨(S : Int), a, z, E⟩)
    (hL : L.length = n2) (hn2 : n2 ≤ 140737488355328) (ha2 : Arr w w.heap.size 1 A2 n2 (NumC .i64 L)) :
    Calls Try.prog 38 #[.agg #[.int .i64 (S : Int), .int .i64 a, .int .i64 z, .slice A n c], .slice A2 n2 c2] w fun e w' => ∃ g seen, e = .returned (.slice (some ⟨g, 0, none⟩) S S) ∧ Blk w' g 3 (bitsV seen) ∧ seen.length = S ∧ (∀ j, j < S → (seen.getD j false = true ↔ Rch E S L (j : Int))) ∧ Below w.heap.size w w' ∧ w.heap.size ≤ g := by
  have hb0 : Below w.heap.size w (w.alloc (.cells #[.int .i64 (S : Int), .int .i64 a, .int .i64 z, .slice A n c] 24)) := (Below.refl _ _).alloc (Nat.le_refl _) _
  have hsz : w.heap.size < (w.alloc (.cells #[.int .i64 (S : Int), .int .i64 a, .int .i64 z, .slice A n c] 24)).heap.size := by simp
  have q0 : (w.alloc (.cells #[.int .i64 (S : Int), .int .i64 a, .int .i64 z, .slice A n c] 24)).cell? ⟨w.heap.size, 0, none⟩ = some (.int .i64 (S : Int)) := by simp
  have q3 : (w.alloc (.cells #[.int .i64 (S : Int), .int .i64 a, .int .i64 z, .slice A n c] 24)).cell? ⟨w.heap.size, 3, none⟩ = some (.slice A n c) := by simp
  have hl : E.length = n := h.len
  have hfew : E.length ≤ 16000 := hr.few
  have hS : S ≤ 2000 := by have : (S : Int) ≤ 2000 := hr.hi; omega
  have H1 := Lib.hid (show Arr _ _ 7 A n (EdC E) from (h.keep hb0).arr)
  have HA2 := Lib.hid ((ha2.below hb0).more hb0.size)
  have HB := Lib.hid hb0
  have HE := Lib.hid (okE_of hr)
  have hmk := fun W => make_one 36 3 (.int .i64 0) 8 Try.underlying36 info3 rfl S hS (by omega) W
  clear h hb0 hr ha2
  go_enter Try.func38, Try.ntmps38
  go_wp2_with fail
  have hsw : w.heap.size + 1 = (w.alloc (.cells #[.int .i64 (S : Int), .int .i64 a, .int .i64 z, .slice A n c] 24)).heap.size := by simp
  generalize w.alloc (.cells #[.int .i64 (S : Int), .int .i64 a, .int .i64 z, .slice A n c] 24) = w1 at H1 HA2 HB q0 q3 hsz hsw ⊢
  rw [hsw]
  have hrep : Array.replicate S (Value.int .i64 0) = (bitsV (List.replicate S false)).toArray := by simp [bitsV]
  have HRF0 := Lib.hid (show RF w1 (w1.alloc (.cells (Array.replicate S (.int .i64 0)) 3)) w1.heap.size S (List.replicate S false) by
    rw [hrep]
    exact ⟨Blk.new _ _ _, by simp, (Below.refl _ _).alloc (Nat.le_refl _) _⟩)
  clear hrep
  generalize w1.alloc (.cells (Array.replicate S (.int .i64 0)) 3) = w2 at HRF0 ⊢
  obtain ⟨g, hg⟩ : ∃ g, g = w1.heap.size := ⟨_, rfl⟩
  rw [← hg] at HRF0 ⊢
  have HG := Lib.hid hg
  have HSZ := Lib.hid hsz
  clear hg hsw hsz
  go_loopw [16] (fun i wr => ∃ (k : Nat) (seen : List Bool), k ≤ n2 ∧ i = .int .i64 k ∧ RF w1 wr g S seen ∧ Marks E S L seen ∧ Rts S (L.take k) seen) (fun i _ => n2 - (intOf i).toNat)
  case atStart => exact ⟨0, _, by omega, rfl, HRF0.out, ⟨fun j hj h9 => by simp [hj] at h9⟩, fun i hi => by simp at hi⟩
  case round =>
    obtain ⟨k, seen, hk, rfl, hrf, hmk2, hrt⟩ := hrel
    obtain ⟨w3, rfl⟩ : ∃ w3 : World, w3 = wr := ⟨_, rfl⟩
    have HR := Lib.hid hrf
    have HM := Lib.hid hmk2
    have HRT := Lib.hid hrt
    have hbe : Below w1.heap.size w1 w3 := by rw [← HG.out]; exact hrf.bel
    have q0' : w3.cell? ⟨w.heap.size, 0, none⟩ = some (.int .i64 (S : Int)) := (hbe.cell HSZ.out).trans q0
    have q3' : w3.cell? ⟨w.heap.size, 3, none⟩ = some (.slice A n c) := (hbe.cell HSZ.out).trans q3
    have HBE := Lib.hid hbe
    clear hrf hmk2 hrt hbe
    by_cases hlt : k < n2
    · obtain ⟨b, o, rfl, hbl, hc⟩ := (HA2.out.below HBE.out).one hlt
      simp only [NumC] at hc
      have hmem : L.getD k 0 ∈ L := by simp [show k < L.length by omega]
      have htk : L.take (k + 1) = L.take k ++ [L.getD k 0] := by
        rw [List.take_succ_eq_append_getElem (by omega : k < L.length)]
        simp [show k < L.length by omega]
      obtain ⟨x, hx⟩ : ∃ x, x = L.getD k 0 := ⟨_, rfl⟩
      rw [← hx] at hc hmem htk
      have HME := Lib.hid (And.intro hmem htk)
      have hkn : (k : Int) < (n2 : Int) := by omega
      clear hx hmem htk
      have hkeep : ¬ (0 ≤ x ∧ x < (S : Int)) → Rts S (L.take (k + 1)) seen := fun hno i hi j hj hjS => by
        rw [HME.out.2, List.mem_append] at hi
        rcases hi with hi | hi
        · exact HRT.out i hi j hj hjS
        · exact absurd ⟨by have : i = x := by simpa using hi
                           omega, by have : i = x := by simpa using hi
                                     omega⟩ hno
      have HKE := Lib.hid hkeep
      clear hkeep
      by_cases h1 : 0 ≤ x
      · by_cases h2 : x < (S : Int)
        · obtain ⟨j, rfl⟩ := Int.eq_ofNat_of_zero_le h1
          have hj : j < S := by omega
          have hcs := HR.out.cell hj
          have hfz := HR.out.blk.frozen j
          go_wp2_with fail
          go_roundw
          case rel =>
            refine ⟨k + 1, _, by omega, by go_num, HR.out.mark j, HM.out.push (.root HME.out.1 h1 h2), fun i hi j' hj' hjS => ?_⟩
            rw [getD_set (by rw [HR.out.len]; exact hjS)]
            rw [HME.out.2, List.mem_append] at hi
            by_cases e9 : j' = j
            · rw [if_pos e9]
            · rw [if_neg e9]
              rcases hi with hi | hi
              · exact HRT.out i hi j' hj' hjS
              · exact absurd (show j' = j by have : i = (j : Int) := by simpa using hi
                                             omega) e9
          case measure => simp [intOf]; omega
        · have e3 : decide (x < (S : Int)) = false := by simp; omega
          go_wp2_with fail
          go_roundw
          case rel => exact ⟨k + 1, seen, by omega, by go_num, HR.out, HM.out, HKE.out (fun h9 => h2 h9.2)⟩
          case measure => simp [intOf]; omega
      · have e3 : decide (0 ≤ x) = false := by simp; omega
        go_wp2_with fail
        go_roundw
        case rel => exact ⟨k + 1, seen, by omega, by go_num, HR.out, HM.out, HKE.out (fun h9 => h1 h9.1)⟩
        case measure => simp [intOf]; omega
    · obtain rfl : k = n2 := by omega
      have hR2 := HRT.out
      rw [List.take_of_length_le (by omega)] at hR2
      have HRT2 := Lib.hid hR2
      clear hR2
      go_wp2_with fail
      go_loopw [8] (fun mo wr => ∃ (mb : Bool) (seen : List Bool), mo = .bool mb ∧ RF w1 wr g S seen ∧ Marks E S L seen ∧ Rts S L seen ∧ (mb = false → Cls E seen)) (fun mo wr => left2 g mo wr)
      case atStart => exact ⟨true, seen, rfl, HR.out, HM.out, HRT2.out, fun h9 => by cases h9⟩
      case round =>
        clear HR HM HRT HRT2 HBE
        obtain ⟨mb, seen0, rfl, hrf, hmk2, hrt, hcl⟩ := hrel
        obtain ⟨w3, rfl⟩ : ∃ w3 : World, w3 = wr := ⟨_, rfl⟩
        have HR0 := Lib.hid hrf
        have HM0 := Lib.hid hmk2
        have HRT0 := Lib.hid hrt
        have hbe : Below w1.heap.size w1 w3 := by rw [← HG.out]; exact hrf.bel
        have q0' : w3.cell? ⟨w.heap.size, 0, none⟩ = some (.int .i64 (S : Int)) := (hbe.cell HSZ.out).trans q0
        have q3' : w3.cell? ⟨w.heap.size, 3, none⟩ = some (.slice A n c) := (hbe.cell HSZ.out).trans q3
        have HLF := Lib.hid (left2_eq (b := true) hrf.blk)
        clear hrf hmk2 hrt hbe
        cases mb with
        | false =>
          have HCL := Lib.hid (hcl rfl)
          clear hcl
          go_wp2_with fail
          go_returns
          have hfin : ∀ j, j < S → (seen0.getD j false = true ↔ Rch E S L (j : Int)) := fun j hj => ⟨HM0.out.rch j hj, fun h9 => by
            have := marks_all HRT0.out HCL.out h9
            simpa using this⟩
          have hbel := HB.out.trans (HR0.out.bel.mono (by rw [HG.out]; exact Nat.le_of_lt HSZ.out))
          have hgl : w.heap.size ≤ g := by rw [HG.out]; exact Nat.le_of_lt HSZ.out
          first
            | exact ⟨g, seen0, by first | rfl | simp, HR0.out.blk, HR0.out.len, hfin, hbel, hgl⟩
            | exact ⟨g, by first | rfl | simp, seen0, HR0.out.blk, HR0.out.len, by simpa using hfin, hbel, hgl⟩
        | true =>
          clear hcl
          go_wp2_with fail
          go_loopw [8, 36] (fun mo i wr => ∃ (q : Nat) (mb : Bool) (seen : List Bool), q ≤ n ∧ i = .int .i64 q ∧ mo = .bool mb ∧ RF w1 wr g S seen ∧ Marks E S L seen ∧ Rts S L seen ∧ (mb = false → falses seen ≤ falses seen0 ∧ Cls (E.take q) seen) ∧ (mb = true → falses seen + 1 ≤ falses seen0)) (fun _ i _ => n - (intOf i).toNat)
          case atStart => exact ⟨0, false, seen0, by omega, rfl, rfl, HR0.out, HM0.out, HRT0.out, fun _ => ⟨Nat.le_refl _, fun e he => by simp at he⟩, fun h9 => by cases h9⟩
          case round =>
            obtain ⟨q, mb, seen, hq, rfl, rfl, hrf, hmk2, hrt, hf1, hf2⟩ := hrel
            obtain ⟨w4, rfl⟩ : ∃ w4 : World, w4 = wr := ⟨_, rfl⟩
            have HR := Lib.hid hrf
            have HM := Lib.hid hmk2
            have HRT := Lib.hid hrt
            have HF := Lib.hid (And.intro hf1 hf2)
            have hbe : Below w1.heap.size w1 w4 := by rw [← HG.out]; exact hrf.bel
            clear hrf hmk2 hrt hf1 hf2 q0' q3'
            by_cases hlt : q < n
            · obtain ⟨b7, o7, rfl, hbl7, s0, s1, s2, s3, s4, s5, s6⟩ := (H1.out.below hbe).seven hlt
              have hql : q < E.length := by omega
              have hem : E.getD q noEd ∈ E := by simp [hql]
              have htk : E.take (q + 1) = E.take q ++ [E.getD q noEd] := by
                rw [List.take_succ_eq_append_getElem hql]
                simp [hql]
              obtain ⟨e, he⟩ : ∃ e, e = E.getD q noEd := ⟨_, rfl⟩
              rw [← he] at s0 s1 s2 s3 s4 s5 s6 hem htk
              obtain ⟨hx0, hxS, hy0, hyS⟩ := HE.out e hem
              have hcls : ∀ seen', (∀ e ∈ E.take q, e.free = true → seen'.getD e.src.toNat false = true → seen'.getD e.dst.toNat false = true) → (e.free = true → seen'.getD e.src.toNat false = true → seen'.getD e.dst.toNat false = true) → Cls (E.take (q + 1)) seen' := fun seen' h1 h2 e' he' => by
                rw [htk, List.mem_append] at he'
                rcases he' with he' | he'
                · exact h1 e' he'
                · obtain rfl : e' = e := by simpa using he'
                  exact h2
              have hstep : e.free = true → Rch E S L e.src → Rch E S L e.dst := fun hf hs => .step hem hf hs
              have HST := Lib.hid (And.intro hcls hstep)
              have HR5 := Lib.hid (HR.out.alloc (.cells #[.int .i64 e.src, .int .i64 e.dst, .bool e.free, .int .u64 e.s0, .int .u64 e.s1, .int .u64 e.s2, .int .u64 e.s3] 70))
              have hqn : (q : Int) < (n : Int) := by omega
              clear he hem htk hcls hstep hbe
              obtain ⟨x, y, f, t0, t1, t2, t3⟩ := e
              simp only at s0 s1 s2 s3 s4 s5 s6 hx0 hxS hy0 hyS HST HR5
              obtain ⟨i, rfl⟩ := Int.eq_ofNat_of_zero_le hx0
              obtain ⟨j, rfl⟩ := Int.eq_ofNat_of_zero_le hy0
              have hi : i < S := by omega
              have hj : j < S := by omega
              have hci := HR5.out.cell hi
              have hcj := HR5.out.cell hj
              have hfz := HR5.out.blk.frozen j
              cases f with
              | false =>
                go_wp2_with fail
                go_roundw
                case rel => exact ⟨q + 1, mb, seen, by omega, by go_num, rfl, HR5.out, HM.out, HRT.out, fun h9 => ⟨(HF.out.1 h9).1, HST.out.1 seen (HF.out.1 h9).2 (fun h8 => by cases h8)⟩, HF.out.2⟩
                case measure => simp [intOf]; omega
              | true =>
                cases hsi : seen.getD i false with
                | false =>
                  rw [hsi, if_neg (by decide)] at hci
                  have HS := Lib.hid hsi
                  clear hsi
                  go_wp2_with fail
                  go_roundw
                  case rel => exact ⟨q + 1, mb, seen, by omega, by go_num, rfl, HR5.out, HM.out, HRT.out, fun h9 => ⟨(HF.out.1 h9).1, HST.out.1 seen (HF.out.1 h9).2 (fun _ h8 => by rw [show (((i : Nat) : Int)).toNat = i from rfl, HS.out] at h8; cases h8)⟩, HF.out.2⟩
                  case measure => simp [intOf]; omega
                | true =>
                  rw [hsi, if_pos rfl] at hci
                  have HS := Lib.hid hsi
                  clear hsi
                  cases hsj : seen.getD j false with
                  | true =>
                    rw [hsj, if_pos rfl] at hcj
                    have HSJ := Lib.hid hsj
                    clear hsj
                    go_wp2_with fail
                    go_roundw
                    case rel => exact ⟨q + 1, mb, seen, by omega, by go_num, rfl, HR5.out, HM.out, HRT.out, fun h9 => ⟨(HF.out.1 h9).1, HST.out.1 seen (HF.out.1 h9).2 (fun _ _ => HSJ.out)⟩, HF.out.2⟩
                    case measure => simp [intOf]; omega
                  | false =>
                    rw [hsj, if_neg (by decide)] at hcj
                    have HSJ := Lib.hid hsj
                    have HRJ := Lib.hid (HR5.out.mark j)
                    clear hsj
                    go_wp2_with fail
                    go_roundw
                    case rel =>
                      refine ⟨q + 1, true, seen.set j true, by omega, by go_num, rfl, HRJ.out, HM.out.push (HST.out.2 rfl (HM.out.rch i hi HS.out)), fun i' hi' j' hj' hjS => ?_, fun h9 => (by cases h9), fun _ => ?_⟩
                      · rw [getD_set (by rw [HR.out.len]; exact hjS)]
                        by_cases e9 : j' = j
                        · rw [if_pos e9]
                        · rw [if_neg e9]; exact HRT.out i' hi' j' hj' hjS
                      · have h8 := falses_set (l := seen) (j := j) (by rw [HR.out.len]; exact hj) HSJ.out
                        cases mb with
                        | false => have := (HF.out.1 rfl).1; omega
                        | true => have := HF.out.2 rfl; omega
                    case measure => simp [intOf]; omega
            · obtain rfl : q = n := by omega
              go_wp2_with fail
              go_roundw
              case rel =>
                refine ⟨mb, seen, rfl, HR.out, HM.out, HRT.out, fun h9 => ?_⟩
                have := (HF.out.1 h9).2
                rw [List.take_of_length_le (by omega)] at this
                exact this
              case measure =>
                rw [HLF.out, left2_eq HR.out.blk]
                cases mb with
                | false => have := (HF.out.1 rfl).1; simp; omega
                | true => have := HF.out.2 rfl; simp; omega
theorem rfree_ok (A : Option Addr) (n c S : Nat) (a z : Int) (E : List Ed) (A2 : Option Addr) (n2 c2 : Nat) (L : List Int) (w : World) (h : NfaIn w A n ⟨(S : Int), a, z, E⟩) (hr : RightN ⟨(S : Int), a, z, E⟩)
    (hL : L.length = n2) (hn2 : n2 ≤ 140737488355328) (ha2 : Arr w w.heap.size 1 A2 n2 (NumC .i64 L)) :
    Calls Try.prog 38 #[.agg #[.int .i64 (S : Int), .int .i64 a, .int .i64 z, .slice A n c], .slice A2 n2 c2] w fun e w' => ∃ g seen, e = .returned (.slice (some ⟨g, 0, none⟩) S S) ∧ Blk w' g 3 (bitsV seen) ∧ seen.length = S ∧ (∀ j, j < S → (seen.getD j false = true ↔ Rch E S L (j : Int))) ∧ Below w.heap.size w w' :=
  (rfree_new A n c S a z E A2 n2 c2 L w h hr hL hn2 ha2).mono fun _ _ ⟨g, seen, h1, h2, h3, h4, h5, _⟩ => ⟨g, seen, h1, h2, h3, h4, h5⟩
end Go.Proofs.Ytfjhcoeehjephaa
