/- The reference's Join: the texts of ids, one behind the other. -/
import Derived.Test.YtlfhiehlokedmaaL4
import Derived.Lib.AppendStr
namespace Go.Proofs.Ytlfhiehlokedmaa
open Go.RowKit
open Go.Lib (strCells wpList_append_own_string)

/-- the texts of ids, one behind the other -/
def joinT (T : List Txt) (ids : List Int) : Txt := ids.flatMap fun i => T.getD i.toNat []
theorem joinT_snoc (T : List Txt) (ids : List Int) (i : Int) : joinT T (ids ++ [i]) = joinT T ids ++ T.getD i.toNat [] := by simp [joinT, List.flatMap_append]
theorem info5 : (Try.prog.info? 5).map (fun i => (i.zero, i.size, i.bytes)) = some (some (.int .u8 0), 1, 1) := by kernel_rfl

/-- 'string(s)' of a row of bytes of the call's own -/
theorem conv_own {w : World} {base n : Nat} {v : Value} {t : Txt} (h : w.ownsRow base 5 1 v n (strCells ⟨t.toArray⟩)) : (convert 46 9 v).run Try.prog w = .ok (.string ⟨t.toArray⟩) w := by
  have hl : t.length = n := by have := h.1; simpa [strCells, ByteArray.size] using this
  rcases h.2 with ⟨rfl, rfl⟩ | ⟨g, cap, cur, rfl, _⟩
  · obtain rfl : t = [] := List.eq_nil_of_length_eq_zero hl
    rw [run_convert_bytes_string w 46 9 5 none 0 0 Try.underlying46 Try.underlying5 Try.underlying9]
    rfl
  · rw [← hl]
    refine run_convert_bytes_back w 46 9 5 ⟨g, 0, none⟩ cap t Try.underlying46 Try.underlying5 Try.underlying9 fun j hj => ?_
    have := h.cells (g := g) rfl j (.int .u8 (t[j].toNat : Int)) (by simp [strCells, hj])
    exact this

set_option maxRecDepth 100000 in
set_option maxHeartbeats 4000000 in
theorem join_any (A1 A2 : Option Addr) (n1 n2 c1 c2 : Nat) (T : List Txt) (ids : List Int) (w : World) (hi : ids.length = n2) (hn2 : n2 ≤ 1024) (hsh : short64 T)
    (hbd : ∀ i, i < ids.length → 0 ≤ ids.getD i 0 ∧ ids.getD i 0 < (n1 : Int)) (h1 : Arr w w.heap.size 1 A1 n1 (StrC T)) (h2 : Arr w w.heap.size 1 A2 n2 (IntC ids)) :
    Calls Try.prog 17 #[.slice A1 n1 c1, .slice A2 n2 c2] w fun e w' => e = .returned (.string ⟨(joinT T ids).toArray⟩) ∧ Below w.heap.size w w' := by
  obtain ⟨i5, hi5, hz5, hsz5, hbt5⟩ := info_parts info5
  have H1 := Lib.hid h1
  have H2 := Lib.hid h2
  have HBD := Lib.hid hbd
  have HSH := Lib.hid hsh
  clear h1 h2 hbd hsh
  go_enter Try.func17, Try.ntmps17
  go_wp2_with fail
  go_loopw [5, 11] (fun v i wr => ∃ k m : Nat, k ≤ n2 ∧ i = .int .i64 k ∧ m ≤ 64 * k ∧ wr.ownsRow w.heap.size 5 1 v m (strCells ⟨(joinT T (ids.take k)).toArray⟩) ∧ Below w.heap.size w wr) (fun _ i _ => n2 - (intOf i).toNat)
  case atStart => exact ⟨0, 0, by omega, rfl, by omega, World.ownsRow_made w #[] 0 (Nat.le_refl _) (by simp [maxLen]) rfl, (Below.refl _ _).alloc (Nat.le_refl _) _⟩
  case round =>
    obtain ⟨k, m, hk, rfl, hm, hown, hbel⟩ := hrel
    have hsz := hbel.size
    by_cases hlt : k < n2
    · obtain ⟨b, o, rfl, hbl, hc⟩ := (H2.out.below hbel).one hlt
      unfold IntC at hc
      obtain ⟨x, hx⟩ : ∃ x, x = ids.getD k 0 := ⟨_, rfl⟩
      have hb := HBD.out k (by omega)
      rw [← hx] at hc hb
      have HX := Lib.hid hx
      obtain ⟨hb0, hb1⟩ := hb
      obtain ⟨j, rfl⟩ := Int.eq_ofNat_of_zero_le hb0
      obtain ⟨b', o', rfl, hbl', hc'⟩ := (H1.out.below hbel).one (k := j) (by omega)
      unfold StrC at hc'
      obtain ⟨s, hs⟩ : ∃ s : ByteArray, s = ⟨(T.getD j []).toArray⟩ := ⟨_, rfl⟩
      rw [← hs] at hc'
      have hss : s.size ≤ 64 := by rw [hs]; exact short64_get HSH.out j
      have HS := Lib.hid hs
      clear hx hs
      go_wp2_with (first
        | (at_builtin; refine wpList_append_own_string _ rfl (.tmp 15) (.tmp 19) 46 9 rfl w.heap.size 5 i5 Try.underlying46 Try.underlying9 hi5 hz5 hsz5 hbt5 _ m _ rfl hown s rfl (by unfold maxLen; omega) (by omega) hsz ?_; intro v1 w1 hown1 hg1 _))
      go_roundw
      case rel => exact ⟨k + 1, m + s.size, by omega, by go_num, by omega, by
        have e : strCells ⟨(joinT T (ids.take (k + 1))).toArray⟩ = strCells ⟨(joinT T (ids.take k)).toArray⟩ ++ strCells s := by
          rw [getD_take _ _ (by omega), joinT_snoc, ← HX.out, HS.out]
          simp [strCells]
        rw [e]; exact hown1, hbel.grown hg1 hsz (fun j hj => (hown.lt j hj).1)⟩
      case measure => simp [intOf]; omega
    · have hown0 : wr.ownsRow w.heap.size 5 1 u5 m (strCells ⟨(joinT T ids).toArray⟩) := by
        rw [List.take_of_length_le (by omega)] at hown
        exact hown
      have hconv := conv_own hown0
      clear hown hown0
      go_wp2_with fail
      go_ret
      exact ⟨rfl, hbel⟩
end Go.Proofs.Ytlfhiehlokedmaa
