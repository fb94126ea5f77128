import Derived.Test.YtfjgfabochiflaaProg
import Derived.Test.YtfjgfabochiflaaHPlainTc
import Derived.Test.YtfjgfabochiflaaBase
namespace Go.Proofs.Ytfjgfabochiflaa.H14
open Go.RowKit

def strs (l : List Txt) : List Value := l.map fun t => .string ⟨t.toArray⟩

theorem strs_base_succ (k : Nat) (h : k < 256) : strs (baseTexts.take (k + 1)) = strs (baseTexts.take k) ++ [.string ⟨#[UInt8.ofNat k]⟩] := by
  unfold strs
  rw [List.take_succ_eq_append_getElem (by simpa [baseTexts] using h)]
  simp [baseTexts]
theorem strs_get (out : List Txt) (i : Nat) (h : i < out.length) : (strs out)[i]? = some (.string ⟨(out.getD i []).toArray⟩) := by
  simp [strs, h]
theorem str_eq {t u v : Txt} {a b c : ByteArray} (h1 : a = ⟨t.toArray⟩) (h2 : b = ⟨u.toArray⟩) (h3 : c = ⟨v.toArray⟩) (h : (a.toList == (b ++ c).toList) = true) : t = u ++ v := by
  subst h1 h2 h3
  rw [ByteArray.mk_append_mk, ByteArray.toList_mk, ByteArray.toList_mk] at h
  simpa using h
theorem str_ne {t u v : Txt} {a b c : ByteArray} (h1 : a = ⟨t.toArray⟩) (h2 : b = ⟨u.toArray⟩) (h3 : c = ⟨v.toArray⟩) (h : (a.toList == (b ++ c).toList) = false) : t ≠ u ++ v := by
  subst h1 h2 h3
  rw [ByteArray.mk_append_mk, ByteArray.toList_mk, ByteArray.toList_mk] at h
  simpa using h
theorem str_app {u v : Txt} {b c : ByteArray} (h2 : b = ⟨u.toArray⟩) (h3 : c = ⟨v.toArray⟩) : Value.string (b ++ c) = .string ⟨(u ++ v).toArray⟩ := by
  subst h2 h3
  rw [ByteArray.mk_append_mk]
theorem strs_snoc (l : List Txt) (t : Txt) : strs (l ++ [t]) = strs l ++ [.string ⟨t.toArray⟩] := by simp [strs]
theorem mem_drop256 (out : List Txt) (j : Nat) (h : 256 + j < out.length) : out.getD (256 + j) [] ∈ out.drop 256 := by
  rw [List.mem_iff_getElem]
  exact ⟨j, by simp; omega, by simp [h]⟩
theorem not_mem_drop256 (out : List Txt) (t : Txt) (k : Nat) (hl : out.length = 256 + k) (h : ∀ j, j < k → out.getD (256 + j) [] ≠ t) : t ∉ out.drop 256 := by
  rw [List.mem_iff_getElem]
  rintro ⟨j, hj, e⟩
  have hj' : j < k := by simp at hj; omega
  refine h j hj' ?_
  rw [← e]
  simp [show 256 + j < out.length by omega]
theorem info9 : (Try.prog.info? 9).map (fun i => (i.zero, i.size, i.bytes)) = some (some (.string ByteArray.empty), 1, 16) := by kernel_rfl

set_option maxRecDepth 100000 in
set_option maxHeartbeats 2000000 in
theorem rtexts_any (A : Option Addr) (n c : Nat) (l : List (Int × Int)) (w : World) (hl : l.length = n) (hn : n ≤ 140737488355328)
   (h1 : Arr w w.heap.size 2 A n fun k j => .int .i64 (if j = 0 then (l.getD k (0,0)).1 else (l.getD k (0,0)).2)) :
    Calls Try.prog 40 #[.slice A n c] w fun e w' => ∃ v, e = .returned (.tuple #[v, .int .i64 (texts l).2]) ∧ w'.ownsRow w.heap.size 9 1 v (texts l).1.length (strs (texts l).1) ∧ Below w.heap.size w w' := by
  obtain ⟨i9, hi9, hz9, hs9, hb9⟩ := info_parts info9
  by_cases hbig : 1024 < n
  · go_enter Try.func40, Try.ntmps40
    go_wp2
    go_ret2
    have ht : texts l = ([], 2) := by unfold texts; rw [if_pos (by omega)]
    rw [ht]
    exact ⟨_, rfl, World.ownsRow_nil _ _ _ _, Below.refl _ _⟩
  · have hbase : strs (baseTexts.take 0) = [] := rfl
    have HB := Lib.hid hbase
    clear hbase
    go_enter Try.func40, Try.ntmps40
    go_wp2
    go_loopw [4, 5] (fun v i wr => ∃ k : Nat, k ≤ 256 ∧ i = .int .i64 k ∧ wr.ownsRow w.heap.size 9 1 v k (strs (baseTexts.take k)) ∧ Below w.heap.size w wr) (fun _ i _ => 256 - (intOf i).toNat)
    case atStart => exact ⟨0, by omega, rfl, World.ownsRow_made w #[] 0 (Nat.le_refl _) (by simp [maxLen]) rfl, (Below.refl _ _).alloc (Nat.le_refl _) _⟩
    case round =>
      obtain ⟨k, hk, rfl, hown, hbel⟩ := hrel
      by_cases hlt : k < 256
      · have hcv := fun W : World => run_byte_string (P := Try.prog) W 65 5 9 Try.underlying65 Try.underlying5 Try.underlying9 (k : Int) (by omega) (by omega)
        have hsz := hbel.size
        go_wp2_with (first
          | (at_builtin; refine wpList_app1 w _ rfl (.tmp 18) (.tmp 23) 31 rfl w.heap.size 9 i9 _ 16 Try.underlying31 hi9 hz9 hs9 hb9 rfl _ k (strs (baseTexts.take k)) rfl ((hown.alloc _).alloc _) ((hbel.alloc hsz _).alloc (by simp; omega) _) (.string ⟨#[UInt8.ofNat k]⟩) _ rfl (by go_simp) rfl (by omega) (by unfold maxLen; omega) (by have := hsz; simp; omega) ?_; intro v1 w1 hown1 hb1 hg1))
        go_roundw
        case rel => exact ⟨k + 1, by omega, by go_num, by rw [strs_base_succ k hlt]; exact hown1, hb1⟩
        case measure => simp [intOf]; omega
      · have hown0 : wr.ownsRow w.heap.size 9 1 u4 (256 + 0) (strs baseTexts) := by
          obtain rfl : k = 256 := by omega
          exact hown
        clear hown
        have HT : Hid (texts l = match goTexts 0 baseTexts l with | none => ([], 130) | some out => (out, 0)) := by
          unfold texts; rw [if_neg (by omega)]; exact rfl
        go_wp2_with fail
        obtain ⟨w2, rfl⟩ : ∃ w2 : World, w2 = wr := ⟨_, rfl⟩
        have hlen0 : Hid (baseTexts.length = 256) := by show baseTexts.length = 256; simp [baseTexts]
        have H1 := Lib.hid h1
        clear h1
        go_loopw [4, 27] (fun v i wr => ∃ (k : Nat) (out : List Txt), k ≤ n ∧ i = .int .i64 k ∧ out.length = 256 + k ∧ short64 out ∧ goTexts 0 baseTexts l = goTexts k out (l.drop k) ∧ wr.ownsRow w.heap.size 9 1 v (256 + k) (strs out) ∧ Below w.heap.size w wr) (fun _ i _ => n - (intOf i).toNat)
        case atStart => exact ⟨0, baseTexts, by omega, rfl, hlen0.out, short64_base, rfl, hown0, hbel⟩
        case round =>
          obtain ⟨k, out, hk, rfl, hlo, hsh, hgo, hown2, hbel2⟩ := hrel
          have HS := Lib.hid hsh
          have HG := Lib.hid hgo
          have HL := Lib.hid hlo
          clear hgo hlo hsh hown0 hbel
          by_cases hlt : k < n
          · obtain ⟨b, off, rfl, hadlt, hc0, hc1⟩ := (H1.out.below hbel2).two hlt
            simp only [reduceIte, Nat.succ_ne_zero] at hc0 hc1
            obtain ⟨m1, hm1⟩ : ∃ m1, m1 = (l.getD k (0,0)).1 := ⟨_, rfl⟩
            obtain ⟨m2, hm2⟩ : ∃ m2, m2 = (l.getD k (0,0)).2 := ⟨_, rfl⟩
            rw [← hm1] at hc0
            rw [← hm2] at hc1
            have HM1 := Lib.hid hm1
            have HM2 := Lib.hid hm2
            clear hm1 hm2
            have hpart : m1 < 0 ∨ (0 ≤ m1 ∧ 255 + (k : Int) < m1) ∨ (0 ≤ m1 ∧ m1 ≤ 255 + (k : Int) ∧ m2 < 0) ∨ (0 ≤ m1 ∧ m1 ≤ 255 + (k : Int) ∧ 0 ≤ m2 ∧ 255 + (k : Int) < m2) ∨ (0 ≤ m1 ∧ m1 ≤ 255 + (k : Int) ∧ 0 ≤ m2 ∧ m2 ≤ 255 + (k : Int)) := by omega
            have HX : Hid (m1 < 0 ∨ 255 + (k : Int) < m1 ∨ m2 < 0 ∨ 255 + (k : Int) < m2 → texts l = ([], 130)) :=
              fun h => texts_none (by omega) HG.out (goTexts_bad k out l (by omega) m1 m2 HM1.out HM2.out h)
            rcases hpart with h | ⟨h, h'⟩ | ⟨h, h', h''⟩ | ⟨h, h', h'', h3⟩ | ⟨h, h', h'', h3⟩
            any_goals
              go_wp2_with fail
              go_ret2
              rw [HX.out (by omega)]
              exact ⟨_, rfl, World.ownsRow_nil _ _ _ _, hbel2.alloc hbel2.size _⟩
            clear HX
            obtain ⟨i1, rfl⟩ := Int.eq_ofNat_of_zero_le h
            obtain ⟨i2, rfl⟩ := Int.eq_ofNat_of_zero_le h''
            obtain ⟨g, cap, rfl, hgB, hgl⟩ := hown2.form (by omega)
            obtain ⟨s1, hs1⟩ : ∃ s1 : ByteArray, s1 = ⟨(out.getD i1 []).toArray⟩ := ⟨_, rfl⟩
            obtain ⟨s2, hs2⟩ : ∃ s2 : ByteArray, s2 = ⟨(out.getD i2 []).toArray⟩ := ⟨_, rfl⟩
            have hq1 : wr.cell? ⟨g, i1, none⟩ = some (.string s1) := by
              rw [hown2.cellAt i1 (by omega), hs1, strs_get _ _ (by have := HL.out; omega)]
            have hq2 : wr.cell? ⟨g, i2, none⟩ = some (.string s2) := by
              rw [hown2.cellAt i2 (by omega), hs2, strs_get _ _ (by have := HL.out; omega)]
            have hz1 : s1.size ≤ 64 := by rw [hs1]; exact short64_get HS.out i1
            have hz2 : s2.size ≤ 64 := by rw [hs2]; exact short64_get HS.out i2
            have HS1 := Lib.hid hs1
            have HS2 := Lib.hid hs2
            clear hs1 hs2
            have hi1 : (i1 : Int) < 256 + (k : Int) := by omega
            have hi2 : (i2 : Int) < 256 + (k : Int) := by omega
            by_cases hbg : 64 < s1.size + s2.size
            · go_wp2_with fail
              go_quiet (fail)
              go_wp2_with fail
              go_ret2
              rw [texts_none (by omega) HG.out (goTexts_bad2 k out l (by omega) i1 i2 HM1.out HM2.out (.inl (by
                have e1 : (out.getD i1 []).length = s1.size := by rw [HS1.out]; rfl
                have e2 : (out.getD i2 []).length = s2.size := by rw [HS2.out]; rfl
                rw [List.length_append, e1, e2]; exact hbg)))]
              exact ⟨_, rfl, World.ownsRow_nil _ _ _ _, below_drewN (hbel2.alloc hbel2.size _) _⟩
            · go_wp2_with fail
              go_quiet (fail)
              go_wp2_with fail
              go_loop [9] (fun i => ∃ j : Nat, j ≤ k ∧ i = .int .i64 (256 + j) ∧ ∀ j', j' < j → out.getD (256 + j') [] ≠ out.getD i1 [] ++ out.getD i2 []) (fun i => k + 256 - (intOf i).toNat)
              case atStart => exact ⟨0, by omega, rfl, fun j hj => absurd hj (by omega)⟩
              case round =>
                obtain ⟨j, hj, rfl, hne⟩ := hrel
                have HN := Lib.hid hne
                clear hne
                by_cases hjk : j < k
                · obtain ⟨s3, hs3⟩ : ∃ s3 : ByteArray, s3 = ⟨(out.getD (256 + j) []).toArray⟩ := ⟨_, rfl⟩
                  have hq3 : wr.cell? ⟨g, 256 + j, none⟩ = some (.string s3) := by
                    rw [hown2.cellAt (256 + j) (by omega), hs3, strs_get _ _ (by have := HL.out; omega)]
                  have HS3 := Lib.hid hs3
                  clear hs3
                  go_wp2_with fail
                  · have he := (by assumption : (s3.toList == (s1 ++ s2).toList) = true)
                    go_ret2
                    rw [texts_none (by omega) HG.out (goTexts_bad2 k out l (by omega) i1 i2 HM1.out HM2.out (.inr (by
                      rw [← str_eq HS3.out HS1.out HS2.out he]
                      exact mem_drop256 _ _ (by have := HL.out; omega))))]
                    exact ⟨_, rfl, World.ownsRow_nil _ _ _ _, below_drewN (hbel2.alloc hbel2.size _) _⟩
                  · have he := (by assumption : (s3.toList == (s1 ++ s2).toList) = false)
                    go_round
                    case rel => exact ⟨j + 1, by omega, by go_num, fun j' hj' => by
                                  by_cases hl : j' < j
                                  · exact HN.out j' hl
                                  · obtain rfl : j' = j := by omega
                                    exact str_ne HS3.out HS1.out HS2.out he⟩
                    case measure => simp [intOf]; omega
                · obtain rfl : j = k := by omega
                  have hsz := hbel2.size
                  go_wp2_with (first
                    | (at_builtin; refine wpList_app1 w _ rfl (.tmp 80) (.tmp 82) 31 rfl w.heap.size 9 i9 _ 16 Try.underlying31 hi9 hz9 hs9 hb9 rfl _ (256 + j) (strs out) rfl (own_drewN ((hown2.alloc _).alloc _) _) (below_drewN ((hbel2.alloc hbel2.size _).alloc (by have := hbel2.size; simp; omega) _) _) (.string (s1 ++ s2)) _ rfl (by go_simp) rfl (by omega) (by unfold maxLen; omega) (by have := hsz; simp; omega) ?_; intro v1 w1 hown1 hb1 hg1))
                  go_roundw
                  case rel => exact ⟨j + 1, out ++ [out.getD i1 [] ++ out.getD i2 []], by omega, by go_num, by simp [HL.out]; omega, short64_snoc HS.out (by
                    have e1 : (out.getD i1 []).length = s1.size := by rw [HS1.out]; rfl
                    have e2 : (out.getD i2 []).length = s2.size := by rw [HS2.out]; rfl
                    rw [List.length_append, e1, e2]; omega), HG.out.trans (goTexts_good j out l (by omega) i1 i2 HM1.out HM2.out (by omega) (by omega) (by
                    have e1 : (out.getD i1 []).length = s1.size := by rw [HS1.out]; rfl
                    have e2 : (out.getD i2 []).length = s2.size := by rw [HS2.out]; rfl
                    rw [List.length_append, e1, e2]; omega) (not_mem_drop256 _ _ j HL.out HN.out)), by
                      rw [strs_snoc, ← str_app HS1.out HS2.out]; exact hown1, hb1⟩
                  case measure => simp [intOf]; omega
          · obtain rfl : k = n := by omega
            go_wp2_with fail
            go_ret2
            rw [texts_some (by omega) HG.out (goTexts_end k out l (by omega))]
            exact ⟨_, rfl, by rw [HL.out]; exact hown2, hbel2⟩
end Go.Proofs.Ytfjgfabochiflaa.H14
