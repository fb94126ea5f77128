import Derived.Test.YtfjgfabochiflaaHRTTc
import Derived.Maps.OwnSet
import Derived.StringKeys
namespace Go.Proofs.Ytfjgfabochiflaa.H14
open Go.RowKit Go.Maps Go.WideMaps

theorem own_map_ne {w : World} {base : Nat} {e : TypeId} {size n : Nat} {v : Value} {xs : List Value} (h : w.ownsRow base e size v n xs) {H : Type} {P : Program} {k : TypeId} {R : Value → Option (DataW H × List MemPlace)} {b m : Nat} {D : DataW H}
    (hm : w.ownsMap P k R b m D) : some b ≠ v.ownBlock := by
  obtain ⟨es, clock, hb, _⟩ := hm
  rcases h.2 with ⟨rfl, _⟩ | ⟨g, cap, cur, rfl, _, hg, _⟩
  · simp [Value.ownBlock]
  · intro he
    have : b = g := by simpa [Value.ownBlock] using he
    subst this
    rw [hb] at hg; cases hg

theorem map_drewN {H : Type} {P : Program} {w : World} {k : TypeId} {R : Value → Option (DataW H × List MemPlace)} {b m : Nat} {D : DataW H} (h : w.ownsMap P k R b m D) (q : Nat) : (w.drewN q).ownsMap P k R b m D := h

theorem zero48 (w : World) : (zeroValue 134).run Try.prog w = .ok (.agg #[]) w := by kernel_rfl

def litS (t : Txt) : Lit := .string t
theorem has_strs (S : List Txt) (t : Txt) : Maps.has (setOf (H := Unit) (.agg []) (S.map litS)) (litS t) = decide (t ∈ S) := by
  rw [has_setOf _ _ _ (fun y hy => by obtain ⟨_, _, rfl⟩ := List.mem_map.1 hy; trivial), List.any_map, Bool.eq_iff_iff]
  simp only [List.any_eq_true, Function.comp, decide_eq_true_eq, litS]
  constructor
  · rintro ⟨x, hx, h⟩
    have : x = t := by simpa [Lit.sameKey] using h
    exact this ▸ hx
  · intro h
    exact ⟨t, h, by simp [Lit.sameKey]⟩
theorem drop256_snoc (out : List Txt) (t : Txt) (h : 256 ≤ out.length) : (out ++ [t]).drop 256 = out.drop 256 ++ [t] := by
  rw [List.drop_append_of_le_length h]

set_option maxRecDepth 100000 in
set_option maxHeartbeats 3000000 in
theorem mtexts_any (A : Option Addr) (n c : Nat) (l : List (Int × Int)) (w : World) (hl : l.length = n) (hn : n ≤ 140737488355328)
   (h1 : Arr w w.heap.size 2 A n fun k j => .int .i64 (if j = 0 then (l.getD k (0,0)).1 else (l.getD k (0,0)).2)) :
    Calls Try.prog 32 #[.slice A n c] w fun e w' => ∃ v, e = .returned (.tuple #[v, .int .i64 (texts l).2]) ∧ w'.ownsRow w.heap.size 9 1 v (texts l).1.length (strs (texts l).1) ∧ Below w.heap.size w w' := by
  obtain ⟨i9, hi9, hz9, hs9, hb9⟩ := info_parts info9
  have hmm := @run_makeMap Try.prog
  by_cases hbig : 1024 < n
  · go_enter Try.func32, Try.ntmps32
    go_wp2
    go_ret2
    have ht : texts l = ([], 2) := by unfold texts; rw [if_pos (by omega)]
    rw [ht]
    exact ⟨_, rfl, World.ownsRow_nil _ _ _ _, Below.refl _ _⟩
  · go_enter Try.func32, Try.ntmps32
    go_wp2_with (first
      | (at_make; refine wpList_make_own _ rfl _ _ 31 rfl w.heap.size 9 i9 _ 1 Try.underlying31 hi9 hz9 hs9 .i64 .i64 _ (256 + n) rfl rfl (by omega) (by rw [hb9]; omega) (by unfold maxLen; omega) (Nat.le_refl _) ?_; intro w0 hown0 hgrow0))
    have hbel0 : Below w.heap.size w w0 := (Below.refl _ _).grown hgrow0 (Nat.le_refl _) (by simp)
    go_loopw [4, 5, 19] (fun v _ i wr => ∃ k : Nat, k ≤ 256 ∧ i = .int .i64 k ∧ wr.ownsRow w.heap.size 9 1 v k (strs (baseTexts.take k)) ∧ Below w.heap.size w wr) (fun _ _ i _ => 256 - (intOf i).toNat)
    case atStart => exact ⟨0, by omega, rfl, hown0, hbel0⟩
    case round =>
      obtain ⟨k, hk, rfl, hown, hbel⟩ := hrel
      clear hown0 hbel0
      have hsz := hbel.size
      by_cases hlt : k < 256
      · have hcv := fun W : World => run_byte_string (P := Try.prog) W 65 5 9 Try.underlying65 Try.underlying5 Try.underlying9 (k : Int) (by omega) (by omega)
        go_wp2_with (first
          | (at_builtin; refine wpList_app1 w _ rfl (.tmp 22) (.tmp 27) 31 rfl w.heap.size 9 i9 _ 16 Try.underlying31 hi9 hz9 hs9 hb9 rfl _ k (strs (baseTexts.take k)) rfl ((hown.alloc _).alloc _) ((hbel.alloc hsz _).alloc (by simp; omega) _) (.string ⟨#[UInt8.ofNat k]⟩) _ rfl (by go_simp) rfl (by omega) (by unfold maxLen; omega) (by have := hsz; simp; omega) ?_; intro v1 w1 hown1 hb1 hg1))
        go_roundw
        case rel => exact ⟨k + 1, by omega, by go_num, by rw [strs_base_succ k hlt]; exact hown1, hb1⟩
        case measure => simp [intOf]; omega
      · have hownB : wr.ownsRow w.heap.size 9 1 u4 (256 + 0) (strs baseTexts) := by
          obtain rfl : k = 256 := by omega
          exact hown
        clear hown
        go_wp2_with fail
        have hlen0 : Hid (baseTexts.length = 256) := by show baseTexts.length = 256; simp [baseTexts]
        have hset0 : Hid (setOf (H := Unit) (.agg []) ((baseTexts.drop 256).map litS) = .map []) := by
          show setOf (H := Unit) (.agg []) ((baseTexts.drop 256).map litS) = .map []
          rw [List.drop_of_length_le (by simp [baseTexts])]; rfl
        have H1 := Lib.hid h1
        clear h1
        obtain ⟨gm, hgm⟩ : ∃ gm, gm = wr.heap.size := ⟨_, rfl⟩
        have hgmB : w.heap.size ≤ gm := by omega
        rw [← hgm]
        have HGM := Lib.hid hgm
        clear hgm
        go_loopw [4, 33] (fun v i wr => ∃ (k : Nat) (out : List Txt), k ≤ n ∧ i = .int .i64 k ∧ out.length = 256 + k ∧ short64 out ∧ goTexts 0 baseTexts l = goTexts k out (l.drop k) ∧ wr.ownsRow w.heap.size 9 1 v (256 + k) (strs out) ∧ Below w.heap.size w wr ∧ wr.ownsMap Try.prog 9 unitElem gm k (setOf (H := Unit) (.agg []) ((out.drop 256).map litS))) (fun _ i _ => n - (intOf i).toNat)
        case atStart => exact ⟨0, baseTexts, by omega, rfl, hlen0.out, short64_base, rfl, hownB.alloc _, hbel.alloc hsz _, by rw [hset0.out, HGM.out]; exact World.ownsMap_made _ _ _ _⟩
        case round =>
          obtain ⟨k, out, hk, rfl, hlo, hsh, hgo, hown2, hbel2, hmap⟩ := hrel
          have HS := Lib.hid hsh
          have HG := Lib.hid hgo
          have HL := Lib.hid hlo
          have hsz2 := hbel2.size
          have hgml := hmap.lt
          clear hgo hlo hsh hownB hbel hsz
          by_cases hlt : k < n
          · obtain ⟨b, off, rfl, hadlt, hc0, hc1⟩ := (H1.out.below hbel2).two hlt
            simp only [reduceIte, Nat.succ_ne_zero] at hc0 hc1
            obtain ⟨m1, hm1⟩ : ∃ m1, m1 = (l.getD k (0,0)).1 := ⟨_, rfl⟩
            obtain ⟨m2, hm2⟩ : ∃ m2, m2 = (l.getD k (0,0)).2 := ⟨_, rfl⟩
            rw [← hm1] at hc0
            rw [← hm2] at hc1
            have HM1 := Lib.hid hm1
            have HM2 := Lib.hid hm2
            clear hm1 hm2
            have hpart : m1 < 0 ∨ (0 ≤ m1 ∧ 256 + (k : Int) ≤ m1) ∨ (0 ≤ m1 ∧ m1 < 256 + (k : Int) ∧ m2 < 0) ∨ (0 ≤ m1 ∧ m1 < 256 + (k : Int) ∧ 0 ≤ m2 ∧ 256 + (k : Int) ≤ m2) ∨ (0 ≤ m1 ∧ m1 < 256 + (k : Int) ∧ 0 ≤ m2 ∧ m2 < 256 + (k : Int)) := by omega
            have HX : Hid (m1 < 0 ∨ 255 + (k : Int) < m1 ∨ m2 < 0 ∨ 255 + (k : Int) < m2 → texts l = ([], 130)) :=
              fun h => texts_none (by omega) HG.out (goTexts_bad k out l (by omega) m1 m2 HM1.out HM2.out h)
            rcases hpart with h | ⟨h, h'⟩ | ⟨h, h', h''⟩ | ⟨h, h', h'', h3⟩ | ⟨h, h', h'', h3⟩
            any_goals
              go_wp2_with fail
              go_ret2
              rw [HX.out (by omega)]
              exact ⟨_, rfl, World.ownsRow_nil _ _ _ _, hbel2.alloc hbel2.size _⟩
            clear HX
            obtain ⟨i1, rfl⟩ := Int.eq_ofNat_of_zero_le h
            obtain ⟨i2, rfl⟩ := Int.eq_ofNat_of_zero_le h''
            obtain ⟨g, cap, rfl, hgB, hgl⟩ := hown2.form (by omega)
            obtain ⟨s1, hs1⟩ : ∃ s1 : ByteArray, s1 = ⟨(out.getD i1 []).toArray⟩ := ⟨_, rfl⟩
            obtain ⟨s2, hs2⟩ : ∃ s2 : ByteArray, s2 = ⟨(out.getD i2 []).toArray⟩ := ⟨_, rfl⟩
            have hq1 : wr.cell? ⟨g, i1, none⟩ = some (.string s1) := by
              rw [hown2.cellAt i1 (by omega), hs1, strs_get _ _ (by have := HL.out; omega)]
            have hq2 : wr.cell? ⟨g, i2, none⟩ = some (.string s2) := by
              rw [hown2.cellAt i2 (by omega), hs2, strs_get _ _ (by have := HL.out; omega)]
            have hz1 : s1.size ≤ 64 := by rw [hs1]; exact short64_get HS.out i1
            have hz2 : s2.size ≤ 64 := by rw [hs2]; exact short64_get HS.out i2
            obtain ⟨t, ht⟩ : ∃ t, t = out.getD i1 [] ++ out.getD i2 [] := ⟨_, rfl⟩
            have hst : (s1 ++ s2) = ⟨t.toArray⟩ := by rw [hs1, hs2, ht, ByteArray.mk_append_mk]
            have htl : t.length = s1.size + s2.size := by rw [ht, hs1, hs2]; simp [ByteArray.size]
            have hkey : keyOf Try.prog 9 (.string (s1 ++ s2)) = some (litS t) := by
              rw [keyOf_string_mk Try.underlying9 (by simp [maxLen]; omega), hst]; rfl
            obtain ⟨D, hD⟩ : ∃ D, D = setOf (H := Unit) (.agg []) ((out.drop 256).map litS) := ⟨_, rfl⟩
            rw [← hD] at hmap
            have hhas : Maps.has D (litS t) = decide (t ∈ out.drop 256) := by rw [hD, has_strs]
            have HD := Lib.hid hD
            have HT1 := Lib.hid ht
            have HST := Lib.hid hst
            have HTL := Lib.hid htl
            clear hD ht hst htl
            have HS1 := Lib.hid hs1
            have HS2 := Lib.hid hs2
            clear hs1 hs2
            have hi1 : (i1 : Int) < 256 + (k : Int) := by omega
            have hi2 : (i2 : Int) < 256 + (k : Int) := by omega
            have HX : Hid (64 < s1.size + s2.size ∨ t ∈ out.drop 256 → texts l = ([], 130)) := fun h =>
              texts_none (by omega) HG.out (goTexts_bad2 k out l (by omega) i1 i2 HM1.out HM2.out (by rw [← HT1.out, HTL.out]; exact h))
            have hpart : Maps.has D (litS t) = true ∨ (Maps.has D (litS t) = false ∧ 64 < s1.size + s2.size) ∨ (Maps.has D (litS t) = false ∧ s1.size + s2.size ≤ 64) := by
              cases Maps.has D (litS t) <;> simp; omega
            rcases hpart with hh | ⟨hh, hbg⟩ | ⟨hh, hbg⟩
            · have hin : t ∈ out.drop 256 := by rw [hhas] at hh; simpa using hh
              have HI := Lib.hid hin
              clear hhas hin
              go_wp2_with fail
              go_quiet (fail)
              go_wp2_with (first | (at_lookup; refine wpList_lookup_own_unit _ rfl _ _ 133 rfl 9 134 (string_keyed Try.underlying9) Try.underlying133 (zero48 _) gm k D rfl (map_drewN (hmap.alloc _) _) _ _ rfl hkey ?_))
              go_ret2
              rw [HX.out (.inr HI.out)]
              exact ⟨_, rfl, World.ownsRow_nil _ _ _ _, below_drewN ((hbel2.alloc hsz2 _).alloc (by simp; omega) _) _⟩
            · clear hhas
              go_wp2_with fail
              go_quiet (fail)
              go_wp2_with (first | (at_lookup; refine wpList_lookup_own_unit _ rfl _ _ 133 rfl 9 134 (string_keyed Try.underlying9) Try.underlying133 (zero48 _) gm k D rfl (map_drewN (hmap.alloc _) _) _ _ rfl hkey ?_))
              go_ret2
              rw [HX.out (.inl hbg)]
              exact ⟨_, rfl, World.ownsRow_nil _ _ _ _, below_drewN ((hbel2.alloc hsz2 _).alloc (by simp; omega) _) _⟩
            · have hin : t ∉ out.drop 256 := by rw [hhas] at hh; simpa using hh
              have HI := Lib.hid hin
              clear hhas hin
              have hne := own_map_ne hown2 hmap
              go_wp2_with fail
              go_quiet (fail)
              go_wp2_with (first
                | (at_lookup; refine wpList_lookup_own_unit _ rfl _ _ 133 rfl 9 134 (string_keyed Try.underlying9) Try.underlying133 (zero48 _) gm k D rfl (map_drewN (hmap.alloc _) _) _ _ rfl hkey ?_)
                | (at_mapUpdate; refine wpList_mapUpdate_own _ rfl _ _ _ 133 rfl 9 134 (string_keyed Try.underlying9) Try.underlying133 (unitElem (H := Unit)) gm k D rfl (map_drewN ((hmap.alloc _).alloc _) _) (by unfold maxLen; omega) _ _ _ rfl rfl hkey _ [] unitElem_mk ?_; intro w1 hown1 hgrow1)
                | (at_builtin; refine wpList_app1 w _ rfl (.tmp 86) (.tmp 88) 31 rfl w.heap.size 9 i9 _ 16 Try.underlying31 hi9 hz9 hs9 hb9 rfl _ (256 + k) (strs out) rfl (((own_drewN ((hown2.alloc _).alloc _) _).kept hgrow1 (.inr hne.symm)).alloc _) (((below_drewN ((hbel2.alloc hsz2 _).alloc (by simp; omega) _) _).grown hgrow1 (by simp; omega) (fun j hj => by cases hj; exact hgmB)).alloc (by have := hgrow1.size; simp at this; omega) _) (.string (s1 ++ s2)) _ rfl (by go_simp) rfl (by omega) (by unfold maxLen; omega) (by have := hgrow1.size; simp at this ⊢; omega) ?_; intro v2 w2 hown3 hb3 hg3))
              have hlen : out.length = 256 + k := HL.out
              go_roundw
              case rel => exact ⟨k + 1, out ++ [t], by omega, by go_num, by simp; omega, short64_snoc HS.out (by rw [HTL.out]; omega),
                by rw [HT1.out]; exact HG.out.trans (goTexts_good k out l (by omega) i1 i2 HM1.out HM2.out (by omega) (by omega) (by rw [← HT1.out, HTL.out]; omega) (by rw [← HT1.out]; exact HI.out)),
                by rw [strs_snoc, ← HST.out]; exact hown3, hb3,
                by rw [drop256_snoc _ _ (by omega), List.map_append, List.map_singleton, setOf_snoc, ← HD.out]; exact (hown1.alloc _).kept hg3 hne⟩
              case measure => simp [intOf]; omega
          · obtain rfl : k = n := by omega
            go_wp2_with fail
            go_ret2
            rw [texts_some (by omega) HG.out (goTexts_end k out l (by omega))]
            exact ⟨_, rfl, by rw [HL.out]; exact hown2, hbel2⟩
end Go.Proofs.Ytfjgfabochiflaa.H14
