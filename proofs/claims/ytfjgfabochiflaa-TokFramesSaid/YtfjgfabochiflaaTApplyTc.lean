/- Apply: a text, rewritten by rules. -/
import Derived.Test.YtfjgfabochiflaaTTellsTc
import Derived.Test.YtfjgfabochiflaaTRightTc
import Derived.Test.YtfjgfabochiflaaShelf
namespace Go.Proofs.Ytfjgfabochiflaa.T12
open Go.RowKit Go.Maps Go.WideMaps

theorem byteCells_append (a b : Bs) : Lib.byteCells a ++ Lib.byteCells b = Lib.byteCells (a ++ b) := by simp [Lib.byteCells]
theorem byteCells_length (a : Bs) : (Lib.byteCells a).length = a.length := by simp [Lib.byteCells]
theorem fresh_builder (w : World) : Lib.IsBuilder 75 5 w.heap.size w.heap.size (Lib.byteCells []) (w.alloc (.cells #[.pointer none, .slice none 0 0] 75)) := Lib.fresh_isBuilder 75 5 w

/-- a text of at most 262144 bytes was rewritten so far -/
structure Bld (l : List SR) (s : ByteArray) (W1 : World) (b a : Nat) (out : Bs) (w : World) : Prop where
  le : a ≤ s.size
  sofar : Sofar (rulesOf l) s.data.toList out (s.data.toList.drop a)
  few : out.length ≤ 32 * a
  bld : Lib.IsBuilder 75 5 b b (Lib.byteCells out) w
  below : Below b W1 w
  lt : b < w.heap.size

set_option maxRecDepth 100000 in
set_option maxHeartbeats 8000000 in
theorem apply_ok (A : Option Addr) (n c : Nat) (l : List SR) (s : ByteArray) (w : World) (hl : l.length = n) (h : Arr w w.heap.size 2 A n (RuleC l)) (hz : ∀ k, k < n → (l.getD k noRule).1.size ≤ maxLen ∧ (l.getD k noRule).2.size ≤ maxLen)
    (hok : AllOk l) (hs : s.size ≤ 262144) :
    Calls Try.prog 29 #[.slice A n c, .string s] w fun e w' => ∃ o : Bs, Rew (rulesOf l) s.data.toList o ∧ o.length ≤ 8388608 ∧ e = .returned (.tuple #[.string ⟨o.toArray⟩, .int .i64 0]) ∧ Below w.heap.size w w' := by
  have H := Lib.hid h
  have hn := hok.1
  have HR := Lib.hid (right_any A n c l w hl (by omega) h (fun k hk => (hz k hk).1))
  have HZ := Lib.hid hz
  have HOK := Lib.hid hok
  have hr0 : rightE l = 0 := rightE_ok (by omega) hok.2
  rw [hr0] at HR
  clear h hz hok hr0
  have hmm := @run_makeMap Try.prog
  go_enter Try.func29, Try.ntmps29
  go_wp2_with fail
  refine HR.out.mono ?_
  rintro e w1 ⟨rfl, hb1⟩
  have HB1 := Lib.hid hb1
  have hs1 := hb1.size
  clear hb1 HR
  have d0 : decide ((262144 : Int) < (s.size : Int)) = false := by simp; omega
  go_wp2_with fail
  obtain ⟨gm, hgm⟩ : ∃ gm, gm = w1.heap.size := ⟨_, rfl⟩
  have hm0 : (w1.alloc (.map #[] 0)).ownsMap Try.prog 9 (plainElem (H := Unit) Try.prog 9) gm 0 (.map []) := by rw [hgm]; exact World.ownsMap_made _ _ _ _
  have HM0 := Lib.hid hm0
  rw [← hgm]
  have hgmw : w.heap.size ≤ gm := by omega
  have HGM := Lib.hid hgm
  clear hm0 hgm
  go_loopw [8, 27] (fun x i wr => ∃ (k m : Nat) (D : DataW Unit), k ≤ n ∧ i = .int .i64 k ∧ x = .int .i64 m ∧ m ≤ 16 ∧ (∀ j, j < k → (l.getD j noRule).1.size ≤ m) ∧ Below w.heap.size w wr ∧ wr.ownsMap Try.prog 9 (plainElem (H := Unit) Try.prog 9) gm k D ∧ Tells D (toF l k)) (fun _ i _ => n - (intOf i).toNat)
  case atStart => exact ⟨0, 0, _, by omega, rfl, rfl, by omega, fun j hj => absurd hj (by omega), HB1.out.alloc hs1 _, HM0.out, tells_empty⟩
  case round =>
    obtain ⟨k, m, D, hk, rfl, rfl, hm, hmax, hb, hmap, ht⟩ := hrel
    have HB := Lib.hid hb
    have HMX := Lib.hid hmax
    have HT := Lib.hid ht
    have hbs := hb.size
    have hgml := hmap.lt
    clear hb hmax ht HM0 HGM
    obtain ⟨w2, rfl⟩ : ∃ w2 : World, w2 = wr := ⟨_, rfl⟩
    by_cases hlt : k < n
    · obtain ⟨b, o, rfl, hbl, hc0, hc1⟩ := (H.out.below HB.out).two hlt
      simp only [RuleC, if_true, if_neg (show ¬ (1 : Nat) = 0 by omega)] at hc0 hc1
      have hsz := HZ.out k hlt
      have hf16 := (HOK.out.2 k (by omega)).few
      have htf : toF l (k + 1) = fun x => if x = (l.getD k noRule).1.data.toList then some (l.getD k noRule).2 else toF l k x := rfl
      have hmx2 : ∀ m', m ≤ m' → (l.getD k noRule).1.size ≤ m' → ∀ j, j < k + 1 → (l.getD j noRule).1.size ≤ m' := fun m' h1 h2 j hj => by
        by_cases e : j = k
        · rw [e]; exact h2
        · exact Nat.le_trans (HMX.out j (by omega)) h1
      obtain ⟨f, hf⟩ : ∃ f, f = (l.getD k noRule).1 := ⟨_, rfl⟩
      obtain ⟨t, ht⟩ : ∃ t, t = (l.getD k noRule).2 := ⟨_, rfl⟩
      rw [← hf] at hc0 hsz htf hf16 hmx2
      rw [← ht] at hc1 hsz htf
      have HMX2 := Lib.hid hmx2
      have HTF := Lib.hid htf
      have hkey : keyOf Try.prog 9 (.string f) = some (litS f.data.toList) := keyOf_string_mk Try.underlying9 hsz.1
      have hsz2 := hsz.2
      clear hf ht htf hmx2 hsz
      have hpart : (m : Int) < (f.size : Int) ∨ ¬ (m : Int) < (f.size : Int) := by omega
      rcases hpart with hx | hx
      · go_wp2_with (first
          | (at_mapUpdate; refine wpList_mapUpdate_own _ rfl _ _ _ 112 rfl 9 9 (string_keyed Try.underlying9) Try.underlying112 (plainElem (H := Unit) Try.prog 9) gm k D rfl (hmap.alloc _) (by unfold maxLen; omega) _ _ _ rfl rfl hkey (.lit (.string t.data.toList)) [] (plainElem_string Try.underlying9 hsz2) ?_; intro w5 hown5 hgrow5; have z0 : w5.cell? ⟨w2.heap.size, 0, none⟩ = some (.string f) := (hgrow5.cell_far _ (by simp) (by simp; omega)).trans (by simp)))
        go_roundw
        case rel => exact ⟨k + 1, f.size, _, by omega, by go_num, by go_num, by omega, HMX2.out _ (by omega) (by omega), below_by (HB.out.alloc hbs _) (by simp; omega) hgrow5 hgmw, hown5, by rw [HTF.out]; exact tells_put HT.out f.data.toList t⟩
        case measure => simp [intOf]; omega
      · go_wp2_with (first
          | (at_mapUpdate; refine wpList_mapUpdate_own _ rfl _ _ _ 112 rfl 9 9 (string_keyed Try.underlying9) Try.underlying112 (plainElem (H := Unit) Try.prog 9) gm k D rfl (hmap.alloc _) (by unfold maxLen; omega) _ _ _ rfl rfl hkey (.lit (.string t.data.toList)) [] (plainElem_string Try.underlying9 hsz2) ?_; intro w5 hown5 hgrow5; have z0 : w5.cell? ⟨w2.heap.size, 0, none⟩ = some (.string f) := (hgrow5.cell_far _ (by simp) (by simp; omega)).trans (by simp)))
        go_roundw
        case rel => exact ⟨k + 1, m, _, by omega, by go_num, by go_num, by omega, HMX2.out _ (by omega) (by omega), below_by (HB.out.alloc hbs _) (by simp; omega) hgrow5 hgmw, hown5, by rw [HTF.out]; exact tells_put HT.out f.data.toList t⟩
        case measure => simp [intOf]; omega
    · obtain rfl : k = n := by omega
      go_wp2_with fail
      have hB0 : Bld l s w2 w2.heap.size 0 [] (w2.alloc (.cells #[.pointer none, .slice none 0 0] 75)) :=
        ⟨by omega, Sofar.new _ _, by simp, fresh_builder w2, (Below.refl _ _).alloc (Nat.le_refl _) _, by simp⟩
      obtain ⟨gb, hgb⟩ : ∃ gb, gb = w2.heap.size := ⟨_, rfl⟩
      rw [← hgb] at hB0 hgml ⊢
      generalize w2.alloc (.cells #[.pointer none, .slice none 0 0] 75) = w3 at hB0 ⊢
      have HB0 := Lib.hid hB0
      have HGB := Lib.hid hgb
      have HMAP := Lib.hid hmap
      clear hB0 hgb hmap
      go_loopw [12] (fun a wr => ∃ (i : Nat) (out : Bs), a = .int .i64 i ∧ Bld l s w2 gb i out wr) (fun a _ => s.size - (intOf a).toNat)
      case atStart => exact ⟨0, [], rfl, HB0.out⟩
      case round =>
        obtain ⟨i, out, rfl, hB⟩ := hrel
        have hil := hB.le
        have hofew := hB.few
        have HBB := Lib.hid hB
        have hgl := hB.lt
        have hmap2 := map_keep HMAP.out (hB.below) hgml
        clear hB HB0
        obtain ⟨w4, rfl⟩ : ∃ w4 : World, w4 = wr := ⟨_, rfl⟩
        by_cases hlt : i < s.size
        · obtain ⟨rest, hrest⟩ : ∃ rest, rest = s.data.toList.drop i := ⟨_, rfl⟩
          have hrl : rest.length = s.size - i := by rw [hrest, List.length_drop, size_data]
          obtain ⟨q, hq⟩ : ∃ q, q = min m (s.size - i) := ⟨_, rfl⟩
          have hmin : min (m : Int) ((s.size : Int) - (i : Int)) = (q : Int) := by omega
          have hq1 : q ≤ s.size - i := by omega
          have hmost : ∀ r ∈ rulesOf l, r.1 <+: rest → r.1.length ≤ q := fun r hr hp => by
            obtain ⟨k', hk', rfl⟩ := mem_rulesOf.mp hr
            have h1 := HMX.out k' (by omega)
            have h2 := hp.length_le
            simp only [size_data] at h2 ⊢
            omega
          have HRS := Lib.hid hrest
          have HMO := Lib.hid hmost
          clear hmost hrest hq
          go_wp2_with fail
          go_loopw [13] (fun x wr => ∃ p : Nat, p ≤ q ∧ x = .int .i64 p ∧ wr = w4 ∧ ∀ r ∈ rulesOf l, r.1 <+: rest → r.1.length ≤ p) (fun x _ => (intOf x).toNat)
          case atStart => exact ⟨q, Nat.le_refl _, rfl, rfl, HMO.out⟩
          case round =>
            obtain ⟨p, hpq, rfl, rfl, hmo⟩ := hrel
            have HMP := Lib.hid hmo
            clear hmo hmin
            by_cases h0 : 0 < p
            · have hsl := slice_piece s i p (by omega)
              have hpl := piece_list s i p
              have hps := piece_size s i p (by omega)
              rw [← HRS.out] at hpl
              obtain ⟨pc, hpc⟩ : ∃ pc, pc = s.extract i (i + p) := ⟨_, rfl⟩
              rw [← hpc] at hsl hpl hps
              have hlook := tells_lookup hmap2 HT.out pc (by unfold maxLen; omega)
              rw [hpl] at hlook
              clear hpc
              have hpi : (0 : Int) < (p : Int) := by omega
              cases hF : toF l k (rest.take p) with
              | some u =>
                rw [hF] at hlook
                simp only [orNone, Option.isSome_some] at hlook
                obtain ⟨r, hbest, hrl2, hru, hu32⟩ := HOK.out.best (by omega) HMP.out (by rw [hl]; exact hF)
                have HBEST := Lib.hid hbest
                have HRU := Lib.hid (And.intro hrl2 hru)
                clear hbest hrl2 hru hF
                have ne0 : ((p : Int) == 0) = false := by simp; omega
                go_wp2_with fail
                refine (writeString_any gb gb (Lib.byteCells out) u _ HBB.out.bld (by rw [byteCells_length]; omega) (Nat.le_of_lt hgl)).mono ?_
                rintro e w5 ⟨rfl, hbld, hbel⟩
                have hB5 : Bld l s w2 gb (i + p) (out ++ u.data.toList) w5 := by
                  refine ⟨by omega, ?_, by rw [List.length_append, size_data]; omega, ?_, HBB.out.below.trans hbel, Nat.lt_of_lt_of_le hgl hbel.size⟩
                  · have h1 := HBB.out.sofar
                    rw [← HRS.out] at h1
                    have h2 := h1.hit HBEST.out
                    rw [HRU.out.1, HRU.out.2, HRS.out, List.drop_drop] at h2
                    exact h2
                  · rw [← byteCells_append]; exact hbld
                have HB5 := Lib.hid hB5
                clear hbld hbel hB5
                go_wp2_with fail
                go_roundw
                case rel => exact ⟨i + p, _, by go_num, HB5.out⟩
                case measure => simp [intOf]; omega
              | none =>
                rw [hF] at hlook
                simp only [orNone, Option.isSome_none] at hlook
                have hmo2 := most_less HMP.out (by rw [hl]; exact hF)
                have HM2 := Lib.hid hmo2
                clear hmo2 hF
                go_wp2_with fail
                go_roundw
                case rel => exact ⟨p - 1, by omega, by go_num, by first | rfl | trivial, HM2.out⟩
                case measure => simp [intOf]; omega
            · obtain rfl : p = 0 := by omega
              have hnone := none_of HOK.out HMP.out
              obtain ⟨cc, tt, hdr, hdr1, hidx⟩ := index_byte s i hlt
              have HN := Lib.hid (And.intro hnone (And.intro hdr hdr1))
              clear hnone hdr hdr1
              go_wp2_with fail
              refine (writeByte_any gb gb (Lib.byteCells out) (cc.toNat : Int) _ HBB.out.bld (by rw [byteCells_length]; omega) (Nat.le_of_lt hgl)).mono ?_
              rintro e w5 ⟨rfl, hbld, hbel⟩
              have hB5 : Bld l s w2 gb (i + 1) (out ++ [cc]) w5 := by
                refine ⟨by omega, ?_, by rw [List.length_append, List.length_singleton]; omega, ?_, HBB.out.below.trans hbel, Nat.lt_of_lt_of_le hgl hbel.size⟩
                · have h1 := HBB.out.sofar
                  have h3 := HN.out.1
                  rw [HRS.out] at h3
                  rw [HN.out.2.1] at h1 h3
                  rw [HN.out.2.2]
                  exact h1.miss h3
                · rw [← byteCells_append]; exact hbld
              have HB5 := Lib.hid hB5
              clear hbld hbel hB5
              go_wp2_with fail
              go_roundw
              case rel => exact ⟨i + 1, _, by go_num, HB5.out⟩
              case measure => simp [intOf]; omega
        · obtain rfl : i = s.size := by omega
          go_wp2_with fail
          refine (Try.Builder_String_any gb gb out w4 HBB.out.bld (Nat.le_of_lt hgl)).mono ?_
          rintro e w5 ⟨rfl, hbel⟩
          have hso := HBB.out.sofar
          rw [List.drop_of_length_le (by rw [size_data]; exact Nat.le_refl _)] at hso
          have HS := Lib.hid hso.done
          have hgw : w.heap.size ≤ gb := by rw [HGB.out]; exact hbs
          have HBF := Lib.hid (HB.out.trans ((HBB.out.below.trans hbel).mono hgw))
          clear hso hbel
          go_wp2_with fail
          go_ret2
          exact ⟨out, HS.out, by omega, rfl, HBF.out⟩
end Go.Proofs.Ytfjgfabochiflaa.T12
