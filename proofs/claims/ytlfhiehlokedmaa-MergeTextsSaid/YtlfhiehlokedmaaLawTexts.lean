/- MergeTexts returns true for every slice of merges, and leaves it as it was; no condition. -/
import Derived.Test.YtlfhiehlokedmaaRows
import Derived.Test.YtlfhiehlokedmaaMT
import Derived.Test.YtlfhiehlokedmaaSmall
import Derived.Test.YtlfhiehlokedmaaRow
namespace Go.Proofs.Ytlfhiehlokedmaa
open Go.RowKit Go.ChangeShapes Go.WideShapes Go.ChangeAt Go.Deep

def PairC (l : List (Int × Int)) (k j : Nat) : Value := .int .i64 (if j = 0 then (l.getD k (0,0)).1 else (l.getD k (0,0)).2)

theorem own_strs {w : World} {base : Nat} {v : Value} {n : Nat} {xs : List Txt} {e : TypeId} (h : w.ownsRow base e 1 v n (strs xs)) : xs.length = n ∧ ∃ A c, v = .slice A n c ∧ Arr w w.heap.size 1 A n (StrC xs) := by
  have hl : xs.length = n := by have := h.1; simpa [strs] using this
  refine ⟨hl, ?_⟩
  have key : ∀ A c, v = .slice A n c → Arr w w.heap.size 1 A n (StrC xs) := by
    rintro A c rfl
    intro hn
    obtain ⟨b, off, hA, hb, hc⟩ := Arr.of_own h hn
    refine ⟨b, off, hA, hb, fun k j hk hj => ?_⟩
    rw [hc k j hk hj, StrC]
    have : k < (strs xs).length := by simp [strs]; omega
    simp [strs, List.getD, show k < xs.length by omega]
  rcases h.2 with ⟨rfl, h0⟩ | ⟨g, cap, cur, hv, _⟩
  · subst h0
    exact ⟨none, 0, rfl, key _ _ rfl⟩
  · exact ⟨_, _, hv, key _ _ hv⟩

theorem goTexts_len : ∀ (ms : List (Int × Int)) (k : Nat) (out o : List Txt), goTexts k out ms = some o → o.length = out.length + ms.length
  | [], k, out, o, h => by simp [goTexts] at h; subst h; simp
  | m :: ms, k, out, o, h => by
    rw [goTexts] at h
    split at h
    · cases h
    · dsimp only at h
      split at h
      · cases h
      · have := goTexts_len ms _ _ _ h
        simp at this
        simp; omega
theorem texts_le (l : List (Int × Int)) (h : l.length ≤ 9223372036854775000) : (texts l).1.length ≤ 9223372036854775807 := by
  unfold texts
  split
  · simp
  · cases hg : goTexts 0 baseTexts l with
    | none => simp
    | some o =>
      have := goTexts_len _ _ _ _ hg
      simp [baseTexts] at this
      simp; omega

theorem right_any (A : Option Addr) (n c : Nat) (l : List (Int × Int)) (w : World) (hl : l.length = n) (hn : n ≤ 140737488355328) (h1 : Arr w w.heap.size 2 A n (PairC l)) :
    Calls Try.prog 10 #[.slice A n c] w fun e w' => e = .returned (.int .i64 (texts l).2) ∧ Below w.heap.size w w' := by
  go_enter Try.func10, Try.ntmps10
  go_wp2_with fail
  refine (mtexts_any A n c l w hl hn h1).mono ?_
  rintro e w' ⟨v, rfl, hown, hb⟩
  go_wp2_with fail
  go_ret
  exact ⟨rfl, hb⟩

theorem law_texts (A : Option Addr) (n c : Nat) (l : List (Int × Int)) (w : World) (hl : l.length = n) (hn : n ≤ 140737488355328) (h1 : Arr w w.heap.size 2 A n (PairC l)) :
    Calls Try.prog 3 #[.slice A n c] w fun e w' => e = .returned (.bool true) ∧ Below w.heap.size w w' := by
  go_enter Try.func3, Try.ntmps3
  go_wp2_with fail
  refine (mtexts_any A n c l w hl hn h1).mono ?_
  rintro e w1 ⟨v, rfl, hown, hb⟩
  obtain ⟨-, A1, c1, rfl, ha1⟩ := own_strs hown
  have h2 := (h1.below hb).more hb.size
  go_wp2_with fail
  refine (rtexts_any A n c l w1 hl hn h2).mono ?_
  rintro e w2 ⟨v, rfl, hown2, hb2⟩
  obtain ⟨-, A2, c2, rfl, ha2⟩ := own_strs hown2
  have h3 := (h2.below hb2).more hb2.size
  have ha3 := (ha1.below hb2).more hb2.size
  go_wp2_with fail
  refine (right_any A n c l w2 hl hn h3).mono ?_
  rintro e w3 ⟨rfl, hb3⟩
  have ha4 := (ha3.below hb3).more hb3.size
  have ha5 := (ha2.below hb3).more hb3.size
  have hle : (texts l).1.length ≤ 9223372036854775807 := texts_le l (by omega)
  go_wp2_with fail
  refine (like_any A1 A2 _ _ c1 c2 _ _ _ w3 rfl rfl hle hle ha4 ha5).mono ?_
  rintro e w4 ⟨rfl, m, rfl⟩
  go_wp2_with fail
  go_ret
  exact ⟨by simp, below_drewN ((hb.trans (hb2.mono hb.size)).trans (hb3.mono (Nat.le_trans hb.size hb2.size))) _⟩

theorem Try.own : ownKnob Try.prog.godebug = none := by kernel_rfl
theorem Try.laidOut : laidOutB Try.prog = true := by kernel_rfl

theorem cells3 : Try.prog.cellsOf 3 = 1 := by kernel_rfl
theorem cells43 : Try.prog.cellsOf 43 = 2 := by kernel_rfl
theorem bytes43 : Try.prog.bytesOf 43 = 16 := by kernel_rfl
theorem under43 : ∃ f0 f1 : Field, Try.prog.underlying 43 = some (.struct #[f0, f1]) ∧ f0.offset = 0 ∧ f1.offset = 1 ∧ f0.type = 3 ∧ f1.type = 3 := ⟨_, _, Try.underlying43, rfl, rfl, rfl, rfl⟩

/-- an argument that is a slice of merges -/
theorem open_merges {H : Type} {enc : TypeId × Value → H} {W : World} {base : Nat} {spare : Nat → Bool} {held : Bool} {v : Value} {d : DataW H} {p : List MemPlace} (h : DataW.Trod enc Try.prog W base spare held 22 v d p) (hv : v.cells = #[v]) :
    ∃ A n c l, v = .slice A n c ∧ l.length = n ∧ n ≤ maxLen ∧ Arr W W.heap.size 2 A n (PairC l) ∧ (d = .nil ∧ n = 0 ∨ ∃ el sp, d = .slice el sp ∧ el.length = n) := by
  obtain ⟨fuel, hf⟩ := h
  obtain ⟨f0, f1, hu, ho0, ho1, ht0, ht1⟩ := under43
  obtain ⟨A, n, c, xs, hcs, hsl, hn, hc, hd⟩ := open_sl (α := Int × Int) (R := fun _ cs a => cs = [.int .i64 a.1, .int .i64 a.2]) Try.underlying22 cells43 (by omega)
    (fun m cs x hx => open_pair hu ho0 ho1 ht0 ht1 Try.underlying3 cells3 cells43 m cs x hx) hf
  rw [hv] at hcs
  have hv' : v = .slice A n c := by simpa using hcs
  refine ⟨A, n, c, xs, hv', hsl.1, Nat.le_trans hn hc, hsl.arr (by omega) _ (fun k hk cs hr _ j hj => ?_), hd⟩
  subst hr
  match j, hj with
  | 0, _ => simp [PairC, hk]
  | 1, _ => simp [PairC, hk]

set_option maxRecDepth 100000 in
theorem texts_lifted (os : Os) (started : os.Started) (H : Type) (enc : TypeId × Value → H) :
    ReturnsInHanded {} Try.checked os 3 .any (Rows.mergeTextsSpec.pre6 enc Try.prog Try.f3 Rows.mergeTextsRow.domain false)
      (Rows.mergeTextsSpec.post enc Try.prog Try.f3 Rows.mergeTextsRow.apart Rows.mergeTextsRow.fresh Rows.mergeTextsRow.handsOn Rows.mergeTextsRow.again) := by
  refine returnsInHanded_of_change_sized (C := Try.checked) Try.own started (by kernel_rfl) Try.func3
    (ChangeSpec.witness6 (enc := enc) (C := Try.checked) false ⟨#[], #[.slice none 0 0], []⟩ 8 (by kernel_rfl) (by kernel_rfl) (by kernel_rfl) (by kernel_rfl)) ?_
  intro W base args ds gs before hval0 hW _ hsz0 _
  have hsz : (DataW.weightsEach Try.prog (Try.f3.params.toList ++ Rows.mergeTextsSpec.plain.varTypes Try.prog) (ds ++ gs)).all (· ≤ reachBytes) = true := hsz0
  clear hsz0
  have hval : ∀ (j : Nat) t v, Try.f3.params[j]? = some t → args[j]? = some v → Value.okWide Try.prog W .any base t v := hval0
  have hW' := hW
  obtain ⟨p, q, hA0, hV, rfl, _, _⟩ := hW
  have hA : DataW.TrodAll enc Try.prog W 0 (fun _ => true) true Try.f3.params.toList args.toList ds p := hA0
  rw [Try.params3] at hA hval hsz
  obtain ⟨v0, d0, rfl, rfl, h0⟩ := trodAll_one hA
  obtain ⟨rfl, rfl⟩ := trodVars_none hV
  obtain ⟨a0, len, cap, rfl⟩ := okWide_slice Try.underlying22 (hval 0 22 v0 rfl rfl)
  obtain ⟨A, n, c, l, hv, hl, hn, harr, hd⟩ := open_merges h0 rfl
  have hreach : n ≤ 140737488355328 := by
    rcases hd with ⟨_, rfl⟩ | ⟨el, sp, rfl, hel⟩
    · omega
    · have := sized_slice hsz (j := 0) (t := 22) (e := 43) rfl rfl Try.underlying22
      rw [bytes43] at this
      simp only [reachBytes] at this
      omega
  rw [hv] at hW' ⊢
  refine (law_texts A n c l W hl hreach harr).mono fun e W' ⟨he, hb⟩ => ?_
  subst he
  exact ⟨_, rfl, law_post (tb := 4) Try.laidOut (by rw [Try.params3]; intro t ht; simp at ht; subst ht; exact ⟨by kernel_rfl, of_decide_eq_true (by kernel_rfl)⟩) rfl rfl Try.underlying4 hW' rfl rfl rfl hb⟩

theorem texts_holds : Rows.MergeTextsSaid :=
  OpenClaim.holds_of_wide 3 Try.f3 rfl rfl rfl rfl rfl rfl rfl ⟨rfl, rfl, rfl, rfl, rfl⟩ rfl rfl rfl rfl rfl (by kernel_rfl) Try.func3 (by kernel_rfl)
    (of_decide_eq_true (by kernel_rfl)) (by unfold Func.isWrapper; first | (rw [if_pos (by decide +kernel)]; kernel_rfl) | (rw [if_neg (by decide +kernel)]; exact ⟨rfl, rfl⟩))
    (fun os started H enc _ => texts_lifted os started H enc)
end Go.Proofs.Ytlfhiehlokedmaa
