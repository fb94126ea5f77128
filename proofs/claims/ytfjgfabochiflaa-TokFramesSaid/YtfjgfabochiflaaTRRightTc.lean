/- Which rules may be: the program's Right. -/
import Derived.Test.YtfjgfabochiflaaTRightTc
import Derived.Maps.OwnSet
import Derived.StringKeys
namespace Go.Proofs.Ytfjgfabochiflaa.T12
open Go.RowKit Go.Maps Go.WideMaps

theorem map_drewN {H : Type} {P : Program} {w : World} {k : TypeId} {R : Value → Option (DataW H × List MemPlace)} {b m : Nat} {D : DataW H} (h : w.ownsMap P k R b m D) (q : Nat) : (w.drewN q).ownsMap P k R b m D := h
theorem map_keep {H : Type} {P : Program} {k : TypeId} {R : Value → Option (DataW H × List MemPlace)} {w w' : World} {b n : Nat} {D : DataW H} {B : Nat} (h : w.ownsMap P k R b n D) (hb : Below B w w') (hB : b < B) : w'.ownsMap P k R b n D := by
  obtain ⟨es, clock, h1, r⟩ := h
  exact ⟨es, clock, (hb.block b hB).trans h1, r⟩
theorem below_by {B : Nat} {w0 w w' : World} {g : Nat} (h : Below B w0 w) (hB : B ≤ w.heap.size) (hg : w.grownBy w' (some g)) (hb : B ≤ g) : Below B w0 w' :=
  h.grown hg hB (fun k hk => by cases hk; exact hb)
theorem zero71 (w : World) : (zeroValue 134).run Try.prog w = .ok (.agg #[]) w := by kernel_rfl
theorem strB (s : ByteArray) : s.toList.isEmpty = decide (s.size = 0) := by
  rw [ByteArray.toList_eq]
  cases s with | mk x => cases x with | mk l => cases l <;> simp [ByteArray.size]

def litS (t : List UInt8) : Lit := .string t
theorem has_strs (S : List (List UInt8)) (t : List UInt8) : Maps.has (setOf (H := Unit) (.agg []) (S.map litS)) (litS t) = decide (t ∈ S) := by
  rw [has_setOf _ _ _ (fun y hy => by obtain ⟨_, _, rfl⟩ := List.mem_map.1 hy; trivial), List.any_map, Bool.eq_iff_iff]
  simp only [List.any_eq_true, Function.comp, decide_eq_true_eq, litS]
  constructor
  · rintro ⟨x, hx, h⟩
    have : x = t := by simpa [Lit.sameKey] using h
    exact this ▸ hx
  · intro h
    exact ⟨t, h, by simp [Lit.sameKey]⟩
/-- the Froms of the first k rules -/
def froms (l : List SR) (k : Nat) : List (List UInt8) := (l.take k).map fun r => r.1.data.toList
theorem froms_succ (l : List SR) (k : Nat) (h : k < l.length) : froms l (k + 1) = froms l k ++ [(l.getD k noRule).1.data.toList] := by
  rw [froms, List.take_succ_eq_append_getElem h, List.map_append]
  simp [froms, h]
theorem mem_froms (l : List SR) (k : Nat) (hk : k ≤ l.length) (t : List UInt8) : t ∈ froms l k ↔ ∃ j, j < k ∧ (l.getD j noRule).1.data.toList = t := by
  unfold froms
  rw [List.mem_map]
  constructor
  · rintro ⟨r, hr, rfl⟩
    obtain ⟨j, hj, rfl⟩ := List.getElem_of_mem hr
    have hj2 : j < k ∧ j < l.length := by rw [List.length_take] at hj; omega
    exact ⟨j, hj2.1, by simp [hj2.2]⟩
  · rintro ⟨j, hj, rfl⟩
    refine ⟨l.getD j noRule, ?_, rfl⟩
    rw [List.mem_iff_getElem]
    exact ⟨j, by simp; omega, by simp [(by omega : j < l.length)]⟩

set_option maxRecDepth 100000 in
set_option maxHeartbeats 4000000 in
theorem right_any (A : Option Addr) (n c : Nat) (l : List SR) (w : World) (hl : l.length = n) (hn : n ≤ 140737488355328) (h : Arr w w.heap.size 2 A n (RuleC l)) (hz : ∀ k, k < n → (l.getD k noRule).1.size ≤ maxLen) :
    Calls Try.prog 57 #[.slice A n c] w fun e w' => e = .returned (.int .i64 (rightE l)) ∧ Below w.heap.size w w' := by
  have H := Lib.hid h
  have HZ := Lib.hid hz
  clear h hz
  have hmm := @run_makeMap Try.prog
  go_enter Try.func57, Try.ntmps57
  by_cases hlong : 64 < n
  · go_wp2_with fail
    go_returns
    exact ⟨ret_int (rightE_long (by omega)).symm, Below.refl _ _⟩
  · have d0 : decide ((64 : Int) < (n : Int)) = false := by simp; omega
    go_wp2_with fail
    obtain ⟨gm, hgm⟩ : ∃ gm, gm = w.heap.size := ⟨_, rfl⟩
    have hm0 : (w.alloc (.map #[] 0)).ownsMap Try.prog 9 (unitElem (H := Unit)) gm 0 (setOf (H := Unit) (.agg []) ((froms l 0).map litS)) := by
      rw [hgm]; exact World.ownsMap_made _ _ _ _
    have HM0 := Lib.hid hm0
    rw [← hgm]
    have HGM := Lib.hid hgm
    clear hm0 hgm
    go_loopw [14] (fun i wr => ∃ k : Nat, k ≤ n ∧ i = .int .i64 k ∧ Below w.heap.size w wr ∧ wr.ownsMap Try.prog 9 (unitElem (H := Unit)) gm k (setOf (H := Unit) (.agg []) ((froms l k).map litS)) ∧ ∀ j, j < k → OkR l j) (fun i _ => n - (intOf i).toNat)
    case atStart => exact ⟨0, by omega, rfl, (Below.refl _ _).alloc (Nat.le_refl _) _, HM0.out, fun j hj => absurd hj (by omega)⟩
    case round =>
      obtain ⟨k, hk, rfl, hb, hmap, hok⟩ := hrel
      have HB := Lib.hid hb
      have HOK := Lib.hid hok
      have hbs := hb.size
      have hgml := hmap.lt
      clear hb hok
      obtain ⟨w1, rfl⟩ : ∃ w1 : World, w1 = wr := ⟨_, rfl⟩
      by_cases hlt : k < n
      · obtain ⟨b, o, rfl, hbl, hc0, hc1⟩ := (H.out.below HB.out).two hlt
        simp only [RuleC, if_true, if_neg (show ¬ (1 : Nat) = 0 by omega)] at hc0 hc1
        have hsz := HZ.out k hlt
        have hfs := froms_succ l k (by omega)
        have hmem := mem_froms l k (by omega) (l.getD k noRule).1.data.toList
        obtain ⟨f, hf⟩ : ∃ f, f = (l.getD k noRule).1 := ⟨_, rfl⟩
        obtain ⟨t, ht⟩ : ∃ t, t = (l.getD k noRule).2 := ⟨_, rfl⟩
        rw [← hf] at hc0 hsz hfs hmem
        rw [← ht] at hc1
        have HF := Lib.hid (And.intro hf ht)
        have HFS := Lib.hid hfs
        clear hf ht hfs
        have hkey : keyOf Try.prog 9 (.string f) = some (litS f.data.toList) := keyOf_string_mk Try.underlying9 hsz
        obtain ⟨D, hD⟩ : ∃ D, D = setOf (H := Unit) (.agg []) ((froms l k).map litS) := ⟨_, rfl⟩
        rw [← hD] at hmap
        have hhas : Maps.has D (litS f.data.toList) = decide (f.data.toList ∈ froms l k) := by rw [hD, has_strs]
        have HD := Lib.hid hD
        clear hD
        have hbad : Hid (¬ OkR l k → rightE l = 110) := fun h => rightE_bad (by omega) (k := k) (by omega) h
        have HMM := Lib.hid hmem
        clear hmem
        by_cases hin : f.data.toList ∈ froms l k
        · have hh : Maps.has D (litS f.data.toList) = true := by rw [hhas]; simpa using hin
          have HIN := Lib.hid hin
          clear hhas hin
          go_wp2_with (first | (at_lookup; refine wpList_lookup_own_unit _ rfl _ _ 133 rfl 9 134 (string_keyed Try.underlying9) Try.underlying133 (zero71 _) gm k D rfl (hmap.alloc _) _ _ rfl hkey ?_))
          go_returns
          exact ⟨ret_int (hbad (fun ho => by
            obtain ⟨j, hj, e⟩ := HMM.out.mp HIN.out
            exact ho.once j hj (by rw [← HF.out.1]; exact str_ext e))).symm, (HB.out.alloc hbs _).alloc (by simp; omega) _⟩
        · have hh : Maps.has D (litS f.data.toList) = false := by rw [hhas]; simpa using hin
          have HIN := Lib.hid hin
          clear hhas hin
          have hemp := strB f
          by_cases h1 : f.size < 1
          · have e1 : f.toList.isEmpty = true := by rw [hemp]; exact decide_eq_true (by omega)
            clear hemp
            go_wp2_with (first | (at_lookup; refine wpList_lookup_own_unit _ rfl _ _ 133 rfl 9 134 (string_keyed Try.underlying9) Try.underlying133 (zero71 _) gm k D rfl (hmap.alloc _) _ _ rfl hkey ?_))
            go_returns
            exact ⟨ret_int (hbad (fun ho => by have := ho.some; rw [← HF.out.1] at this; omega)).symm, (HB.out.alloc hbs _).alloc (by simp; omega) _⟩
          · have e1 : f.toList.isEmpty = false := by rw [hemp]; exact decide_eq_false (by omega)
            clear hemp
            by_cases h2 : 16 < f.size
            · have d2 : decide ((16 : Int) < (f.size : Int)) = true := by simp; omega
              go_wp2_with (first | (at_lookup; refine wpList_lookup_own_unit _ rfl _ _ 133 rfl 9 134 (string_keyed Try.underlying9) Try.underlying133 (zero71 _) gm k D rfl (hmap.alloc _) _ _ rfl hkey ?_))
              go_returns
              exact ⟨ret_int (hbad (fun ho => by have := ho.few; rw [← HF.out.1] at this; omega)).symm, (HB.out.alloc hbs _).alloc (by simp; omega) _⟩
            · have d2 : decide ((16 : Int) < (f.size : Int)) = false := by simp; omega
              by_cases h3 : 32 < t.size
              · have d3 : decide ((32 : Int) < (t.size : Int)) = true := by simp; omega
                go_wp2_with (first | (at_lookup; refine wpList_lookup_own_unit _ rfl _ _ 133 rfl 9 134 (string_keyed Try.underlying9) Try.underlying133 (zero71 _) gm k D rfl (hmap.alloc _) _ _ rfl hkey ?_))
                go_returns
                exact ⟨ret_int (hbad (fun ho => by have := ho.few2; rw [← HF.out.2] at this; omega)).symm, (HB.out.alloc hbs _).alloc (by simp; omega) _⟩
              · have d3 : decide ((32 : Int) < (t.size : Int)) = false := by simp; omega
                have hw : w.heap.size ≤ gm := by rw [HGM.out]; exact Nat.le_refl _
                go_wp2_with (first
                  | (at_lookup; refine wpList_lookup_own_unit _ rfl _ _ 133 rfl 9 134 (string_keyed Try.underlying9) Try.underlying133 (zero71 _) gm k D rfl (hmap.alloc _) _ _ rfl hkey ?_)
                  | (at_mapUpdate; refine wpList_mapUpdate_own _ rfl _ _ _ 133 rfl 9 134 (string_keyed Try.underlying9) Try.underlying133 (unitElem (H := Unit)) gm k D rfl ((hmap.alloc _).alloc _) (by unfold maxLen; omega) _ _ _ rfl rfl hkey _ [] unitElem_mk ?_; intro w5 hown5 hgrow5))
                go_roundw
                case rel => exact ⟨k + 1, by omega, by go_num, below_by ((HB.out.alloc hbs _).alloc (by simp; omega) _) (by simp; omega) hgrow5 hw,
                              by rw [HFS.out, List.map_append, List.map_singleton, setOf_snoc, ← HD.out]; exact hown5,
                              fun a ha => by
                                by_cases h : a < k
                                · exact HOK.out a h
                                · obtain rfl : a = k := by omega
                                  exact ⟨by rw [← HF.out.1]; omega, by rw [← HF.out.1]; omega, by rw [← HF.out.2]; omega, fun i hi e => HIN.out (HMM.out.mpr ⟨i, hi, by rw [e, ← HF.out.1]⟩)⟩⟩
                case measure => simp [intOf]; omega
      · go_wp2_with fail
        go_returns
        exact ⟨ret_int (rightE_ok (by omega) (fun j hj => HOK.out j (by omega))).symm, HB.out⟩
end Go.Proofs.Ytfjgfabochiflaa.T12
