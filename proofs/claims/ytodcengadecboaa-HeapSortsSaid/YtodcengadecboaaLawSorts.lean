/- HeapSorts returns true for all numbers, and leaves them as they were; no condition. -/
import Derived.Test.YtodcengadecboaaRows
import Derived.Test.YtodcengadecboaaRow
import Derived.Test.YtodcengadecboaaSorted
import Derived.Deep.Cut
import Derived.Lib.SmallJoins
namespace Go.Proofs.Ytodcengadecboaa
open Go.RowKit Go.ChangeShapes Go.WideShapes Go.ChangeAt Go.Deep Go.Joins

theorem Try.own : ownKnob Try.prog.godebug = none := by kernel_rfl
theorem Try.laidOut : laidOutB Try.prog = true := by kernel_rfl
theorem cells3 : Try.prog.cellsOf 3 = 1 := by kernel_rfl
theorem bytes3 : Try.prog.bytesOf 3 = 8 := by kernel_rfl
theorem open_ints {H : Type} {enc : TypeId × Value → H} {W : World} {base : Nat} {spare : Nat → Bool} {held : Bool} {r : Reach} {b0 : Nat} {v : Value} {d : DataW H} {p : List MemPlace}
    (hv : Value.okWide Try.prog W r b0 22 v) (h : DataW.Trod enc Try.prog W base spare held 22 v d p) (hw : Wt Try.prog 22 d) :
    ∃ A n c l, v = .slice A n c ∧ l.length = n ∧ n ≤ 140737488355328 ∧ n ≤ c ∧ Arr W W.heap.size 1 A n (NumC .i64 l) := by
  obtain ⟨a0, len, cap, rfl⟩ := okWide_slice Try.underlying22 hv
  obtain ⟨fuel, hf⟩ := h
  obtain ⟨A, n, c, xs, hcs, hsl, hnc, _, hr⟩ := open_sl (R := fun _ cs a => cs = [.int .i64 a] ∧ (Lit.int .i64 a).wf = true) Try.underlying22 cells3 (by omega) (open_num Try.underlying3) hf hw
  rw [bytes3] at hr
  simp only [reachBytes] at hr
  refine ⟨A, n, c, xs, by simpa [Value.cells] using hcs, hsl.1, by omega, hnc, hsl.arr (by omega) _ (fun k hk cs hr _ j hj => ?_)⟩
  obtain ⟨rfl, _⟩ := hr
  obtain rfl : j = 0 := by omega
  simp [NumC, hk]

theorem arr_take {w : World} {B : Nat} {q : IntKind} {A : Option Addr} {n n0 : Nat} {S : List Int} (h : Arr w B 1 A n0 (NumC q S)) (hn : n ≤ n0) : Arr w B 1 A n (NumC q (S.take n)) := fun h0 => by
  obtain ⟨b, off, e, hb, hc⟩ := h (by omega)
  refine ⟨b, off, e, hb, fun k j hk hj => ?_⟩
  rw [hc k j (by omega) hj]
  simp [NumC, List.getD_eq_getElem?_getD, hk]

set_option maxRecDepth 100000 in
set_option maxHeartbeats 4000000 in
theorem law_sorts (A0 : Option Addr) (n0 c0 : Nat) (S0 : List Int) (w : World) (hS : S0.length = n0) (hn0 : n0 ≤ 140737488355328) (hc0 : n0 ≤ c0) (h0 : Arr w w.heap.size 1 A0 n0 (NumC .i64 S0)) :
    Calls Try.prog 3 #[.slice A0 n0 c0] w fun e w' => e = .returned (.bool true) ∧ Below w.heap.size w w' := by
  have H0 := Lib.hid h0
  clear h0
  go_enter Try.func3, Try.ntmps3
  go_upto_if 8 with (fail)
  go_cut [0] from 6 (fun v wx => ∃ n c, v = .slice A0 n c ∧ n ≤ n0 ∧ n ≤ 300 ∧ wx = w)
  case first =>
    by_cases h : 300 < n0
    · have hd : decide (300 ≤ c0) = true := by simp; omega
      go_wp2_with fail
      go_meet
      exact ⟨300, _, rfl, by omega, by omega, rfl⟩
    · go_wp2_with fail
      go_meet
      exact ⟨n0, c0, rfl, by omega, by omega, rfl⟩
  case rest =>
    obtain ⟨n, c, rfl, hn, hn1, rfl⟩ := hcut
    obtain ⟨w, rfl⟩ : ∃ w : World, w = wc := ⟨_, rfl⟩
    have H1 := Lib.hid (arr_take H0.out hn)
    obtain ⟨S, hSS⟩ : ∃ S, S = S0.take n := ⟨_, rfl⟩
    rw [← hSS] at H1
    have hl : S.length = n := by rw [hSS]; simp; omega
    clear hSS H0
    go_wp2_with fail
    refine (sorted_any A0 n c S w hl hn1 H1.out).mono ?_
    rintro e w1 ⟨A', c', got, rfl, ha, hgl, hp, hr, hb1⟩
    have HA := Lib.hid ha
    have HP := Lib.hid hp
    have HR := Lib.hid hr
    have HB1 := Lib.hid hb1
    clear ha hp hr hb1
    have nn : ((n : Int) != (n : Int)) = false := by simp
    go_wp2_with fail
    refine (rising_any A' n c' got w1 hgl hn1 HR.out HA.out).mono ?_
    rintro e w' ⟨rfl, m, rfl⟩
    go_wp2_with fail
    go_loopw [25] (fun i wr => ∃ k : Nat, k ≤ n ∧ i = .int .i64 k ∧ wr = w1.drewN m) (fun i _ => n - (intOf i).toNat)
    case atStart => exact ⟨0, by omega, rfl, rfl⟩
    case round =>
      obtain ⟨k, hk, rfl, rfl⟩ := hrel
      by_cases hlt : k < n
      · obtain ⟨b, o, rfl, hbl, hc⟩ := (H1.out.below HB1.out).one hlt
        unfold NumC at hc
        obtain ⟨x, hx⟩ : ∃ x, x = S.getD k 0 := ⟨_, rfl⟩
        rw [← hx] at hc
        clear hx
        have hcnt : got.count x = S.count x := HP.out.count_eq x
        obtain ⟨q, hq⟩ : ∃ q, q = S.count x := ⟨_, rfl⟩
        have HQ := Lib.hid (And.intro hcnt hq)
        clear hcnt hq
        have qq : ((q : Int) != (q : Int)) = false := by simp
        go_wp2_with fail
        refine (often_any A' n c' got x _ hgl hn1 (HA.out.drewN m)).mono ?_
        rw [HQ.out.1, ← HQ.out.2]
        rintro e w' ⟨rfl, rfl⟩
        go_wp2_with fail
        refine (often_any _ n c S x _ hl hn1 (((H1.out.below HB1.out).more HB1.out.size).drewN m)).mono ?_
        rw [← HQ.out.2]
        rintro e w' ⟨rfl, rfl⟩
        go_wp2_with fail
        go_roundw
        case rel => exact ⟨k + 1, by omega, by go_num, by first | rfl | trivial⟩
        case measure => simp [intOf]; omega
      · go_wp2_with fail
        go_ret
        exact ⟨rfl, below_drewN HB1.out m⟩

set_option maxRecDepth 100000 in
theorem heapSorts_lifted (os : Os) (started : os.Started) (H : Type) (enc : TypeId × Value → H) :
    ReturnsInHanded {} Try.checked os 3 .any (Rows.heapSortsSpec.pre6 enc Try.prog Try.f3 Rows.heapSortsRow.domain false)
      (Rows.heapSortsSpec.post enc Try.prog Try.f3 Rows.heapSortsRow.apart Rows.heapSortsRow.fresh Rows.heapSortsRow.handsOn Rows.heapSortsRow.again) := by
  refine returnsInHanded_of_change_sized (C := Try.checked) Try.own started (by kernel_rfl) Try.func3
    (ChangeSpec.witness6 (enc := enc) (C := Try.checked) false ⟨#[], #[.slice none 0 0], []⟩ 8 (by kernel_rfl) (by kernel_rfl) (by kernel_rfl) (by kernel_rfl)) ?_
  intro W base args ds gs before hval0 hW _ hsz0 _
  have hsz : (DataW.weightsEach Try.prog (Try.f3.params.toList ++ Rows.heapSortsSpec.plain.varTypes Try.prog) (ds ++ gs)).all (· ≤ reachBytes) = true := hsz0
  clear hsz0
  have hval : ∀ (j : Nat) t v, Try.f3.params[j]? = some t → args[j]? = some v → Value.okWide Try.prog W .any base t v := hval0
  have hW' := hW
  obtain ⟨p, q, hA0, hV, rfl, _, _⟩ := hW
  have hA : DataW.TrodAll enc Try.prog W 0 (fun _ => true) true Try.f3.params.toList args.toList ds p := hA0
  rw [Try.params3] at hA hval hsz
  obtain ⟨v0, d0, rfl, rfl, h0⟩ := trodAll_one hA
  obtain ⟨rfl, rfl⟩ := trodVars_none hV
  clear hA0 hval0
  obtain ⟨A0, n0, c0, S, hv0, hl, hn0, hc0, ha⟩ := open_ints (hval 0 22 v0 rfl rfl) h0 (Wt.of_arg hsz (j := 0) rfl rfl)
  rw [hv0] at hW' ⊢
  refine (law_sorts A0 n0 c0 S W hl hn0 hc0 ha).mono fun e W' ⟨he, hb⟩ => ?_
  subst he
  exact ⟨_, rfl, law_post (tb := 4) Try.laidOut (by rw [Try.params3]; intro t ht; simp at ht; subst ht; exact ⟨by kernel_rfl, of_decide_eq_true (by kernel_rfl)⟩) rfl rfl Try.underlying4 hW' rfl rfl rfl hb⟩

theorem heapSorts_holds : Rows.HeapSortsSaid :=
  OpenClaim.holds_of_wide 3 Try.f3 rfl rfl rfl rfl rfl rfl rfl ⟨rfl, rfl, rfl, rfl, rfl⟩ rfl rfl rfl rfl rfl (by kernel_rfl) Try.func3 (by kernel_rfl)
    (of_decide_eq_true (by kernel_rfl)) (by unfold Func.isWrapper; first | (rw [if_pos (by decide +kernel)]; kernel_rfl) | (rw [if_neg (by decide +kernel)]; exact ⟨rfl, rfl⟩))
    (fun os started H enc _ => heapSorts_lifted os started H enc)

end Go.Proofs.Ytodcengadecboaa
