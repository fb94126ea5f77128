/- Sorted: a heap's numbers, the least first. -/
import Derived.Test.YtodcengadecboaaTake
namespace Go.Proofs.Ytodcengadecboaa
open Go.RowKit

theorem run_store_fn {P : Program} {w : World} {a : Addr} {m : Mode} (f : Fn) (x y : Array Value) : (store a (.func f x y) m).run P w = stored P w a (.func f x y) m := run_store P w a _ m rfl
attribute [local go_sem] run_store_fn

section
variable {g0 : Nat} {w0 w w' : World} {t e : TypeId} {x1 a : Value} {na : Nat} {la : List Value}
/-- another row is appended to -/
theorem HB.other (h : HB g0 w0 w t e x1 a na la) {row : Option Nat} (hg : w.grownBy w' row) (h0 : ∀ k, row = some k → g0 < k ∧ a.ownBlock ≠ some k) : HB g0 w0 w' t e x1 a na la :=
  ⟨h.below.grown hg (Nat.le_of_lt h.lt) (fun k hk => Nat.le_of_lt (h0 k hk).1), (hg.block g0 h.lt (fun e => by have := (h0 g0 e.symm).1; omega)).trans h.box,
   h.own.kept hg (by
    cases hv : a.ownBlock with
    | none => exact .inl rfl
    | some g => exact .inr (fun e => (h0 g e.symm).2 hv))⟩
theorem HB.alloc (h : HB g0 w0 w t e x1 a na la) (o : Obj) : HB g0 w0 (w.alloc o) t e x1 a na la :=
  h.other (World.grownBy_alloc w o none) (fun k hk => by cases hk)
theorem own_far {g base : Nat} {v : Value} {n : Nat} {xs : List Value} (h : w.ownsRow base e 1 v n xs) (hf : Far g0 g w w') (h0 : g0 < base) (hg : v.ownBlock ≠ some g) : w'.ownsRow base e 1 v n xs := by
  rcases h.2 with ⟨rfl, rfl⟩ | ⟨g', cap, cur, rfl, hb, hh, hr⟩
  · exact ⟨h.1, .inl ⟨rfl, rfl⟩⟩
  · have hlt := (h.lt g' rfl).2
    exact ⟨h.1, .inr ⟨g', cap, cur, rfl, hb, (hf.block g' hlt (by omega) (fun e => hg (by rw [e]; rfl))).trans hh, hr⟩⟩
end

def slen : Value → Nat | .slice _ n _ => n | _ => 0
theorem own_slen {w : World} {base : Nat} {e : TypeId} {v : Value} {n : Nat} {xs : List Value} (h : w.ownsRow base e 1 v n xs) : slen v = n := by
  rcases h.2 with ⟨rfl, rfl⟩ | ⟨g', cap, cur, rfl, _⟩ <;> rfl
theorem own_slice {w : World} {base : Nat} {e : TypeId} {v : Value} {n : Nat} {xs : List Value} (h : w.ownsRow base e 1 v n xs) : ∃ A c, v = .slice A n c := by
  rcases h.2 with ⟨rfl, rfl⟩ | ⟨g', cap, cur, rfl, _⟩
  · exact ⟨_, _, rfl⟩
  · exact ⟨_, _, rfl⟩

theorem take2 (g0 : Nat) (w0 w : World) (a : Value) (xs : List Int) (hn : xs.length ≤ 300) (hh : Heap xs) (h : HB g0 w0 w 28 3 F7 a xs.length (numsV .i64 xs)) (ha : ∃ A c, a = .slice A xs.length c) :
    Calls Try.prog 9 #[.pointer (some ⟨g0, 0, none⟩)] w fun e w' => ∃ (xv : Int) (bv : Bool) (ys : List Int) (v : Value), e = .returned (.tuple #[.int .i64 xv, .bool bv]) ∧ HB g0 w0 w' 28 3 F7 v ys.length (numsV .i64 ys) ∧ (∃ A c, v = .slice A ys.length c) ∧ Heap ys ∧
      xs.Perm (if bv then xv :: ys else []) ∧ (∀ y ∈ ys, xv ≤ y) ∧ (bv = false → ys = []) ∧ v.ownBlock = a.ownBlock ∧ w.heap.size ≤ w'.heap.size ∧
      (∀ base v n l, g0 < base → w.ownsRow base 3 1 v n l → (∀ k, v.ownBlock = some k → a.ownBlock ≠ some k) → w'.ownsRow base 3 1 v n l) := by
  refine (take_any g0 xs.length w0 w a xs rfl hn hh h ha).mono ?_
  rintro e w' (⟨h0, rfl, rfl⟩ | ⟨h0, rfl, ys, g, c, rfl, hB, hf, hh', hl, hp⟩)
  · obtain rfl : xs = [] := List.eq_nil_of_length_eq_zero h0
    exact ⟨0, false, [], a, rfl, h, ha, hh, List.Perm.refl _, fun y hy => by simp at hy, fun _ => rfl, rfl, Nat.le_refl _, fun _ _ _ _ _ h _ => h⟩
  · refine ⟨xs.getD 0 0, true, ys, .slice (some ⟨g, 0, none⟩) (xs.length - 1) c, rfl, by rw [hl]; exact hB, ⟨some ⟨g, 0, none⟩, c, by rw [hl]⟩, hh', hp, fun y hy => hh.min_mem y (hp.mem_iff.mpr (by simp [hy])), fun e => (by cases e), rfl, hf.size, fun base v n l hb ho hne => own_far ho hf hb (fun e => hne g e rfl)⟩

/-- the loop that takes out: what was taken, what is left -/
structure Outs (S : List Int) (W w : World) (o x b : Value) (out ys : List Int) (v : Value) (xv : Int) (bv : Bool) : Prop where
  hx : x = .int .i64 xv
  hb : b = .bool bv
  heap : HB W.heap.size W w 28 3 F7 v ys.length (numsV .i64 ys)
  form : ∃ A c, v = .slice A ys.length c
  isheap : Heap ys
  own : w.ownsRow (W.heap.size + 1) 3 1 o out.length (numsV .i64 out)
  ne : ∀ k, o.ownBlock = some k → v.ownBlock ≠ some k
  outs : Out out (if bv then xv :: ys else []) S
  le : ∀ y ∈ ys, xv ≤ y
  no : bv = false → ys = []

set_option maxRecDepth 100000 in
set_option maxHeartbeats 8000000 in
theorem sorted_any (A : Option Addr) (n c : Nat) (S : List Int) (w : World) (hl : S.length = n) (hn : n ≤ 300) (h : Arr w w.heap.size 1 A n (NumC .i64 S)) :
    Calls Try.prog 4 #[.slice A n c] w fun e w' => ∃ A' c' got, e = .returned (.slice A' n c') ∧ Arr w' w'.heap.size 1 A' n (NumC .i64 got) ∧ got.length = n ∧ got.Perm S ∧ Rises got ∧ Below w.heap.size w w' := by
  obtain ⟨i3, hi3, hz3, hsz3, hbt3⟩ := info_parts info3
  have H0 := Lib.hid h
  have hx0 : HB w.heap.size w (w.alloc (.cells #[.slice none 0 0, F7] 28)) 28 3 F7 (.slice none 0 0) 0 [] :=
    ⟨(Below.refl _ _).alloc (Nat.le_refl _) _, heap_alloc_new w _, World.ownsRow_nil _ _ _ _⟩
  have HX0 := Lib.hid hx0
  clear h hx0
  go_enter Try.func4, Try.ntmps4
  go_wp2_with fail
  go_loopw [12] (fun i wr => ∃ (k : Nat) (v : Value) (ys : List Int), k ≤ n ∧ i = .int .i64 k ∧ HB w.heap.size w wr 28 3 F7 v k (numsV .i64 ys) ∧ (∃ A c, v = .slice A k c) ∧ ys.length = k ∧ Heap ys ∧ ys.Perm (S.take k)) (fun i _ => n - (intOf i).toNat)
  case atStart => exact ⟨0, _, [], by omega, rfl, HX0.out, ⟨_, _, rfl⟩, rfl, fun k _ h => by simp at h, by simp⟩
  case round =>
    obtain ⟨k, v, ys, hk, rfl, hB, hf, hyl, hh, hp⟩ := hrel
    have H := Lib.hid hB
    have HP := Lib.hid hp
    have HH := Lib.hid hh
    have HF := Lib.hid hf
    have hgl := hB.lt
    clear hB hp hh hf
    obtain ⟨w1, rfl⟩ : ∃ w1 : World, w1 = wr := ⟨_, rfl⟩
    by_cases hlt : k < n
    · obtain ⟨b, o, rfl, _, hc⟩ := (H0.out.below H.out.below).one hlt
      unfold NumC at hc
      obtain ⟨x, hx⟩ : ∃ x, x = S.getD k 0 := ⟨_, rfl⟩
      rw [← hx] at hc
      have HXX := Lib.hid hx
      clear hx
      go_wp2_with fail
      refine (put_any w.heap.size k w w1 v ys x hyl (by omega) HH.out H.out).mono ?_
      rintro e w2 ⟨rfl, a', zs, hB2, hh2, hp2⟩
      have H2 := Lib.hid hB2
      have HP2 := Lib.hid hp2
      have HH2 := Lib.hid hh2
      obtain ⟨g, cap, hv⟩ := hB2.form (by omega)
      clear hB2 hp2 hh2
      go_wp2_with fail
      go_roundw
      case rel =>
        refine ⟨k + 1, a', zs, by omega, by go_num, H2.out, ⟨_, _, hv⟩, by rw [HP2.out.length_eq]; simp [hyl], HH2.out, HP2.out.trans ?_⟩
        rw [List.take_succ_eq_append_getElem (by omega)]
        have : S[k]'(by omega) = x := by rw [HXX.out]; simp [(by omega : k < S.length)]
        rw [this]
        exact HP.out.append_right _
      case measure => simp [intOf]; omega
    · obtain rfl : k = n := by omega
      go_wp2_with fail
      obtain ⟨A1, c1, hv1⟩ := HF.out
      refine (take2 w.heap.size w w1 v ys (by omega) HH.out (by rw [hyl]; exact H.out) ⟨A1, c1, by rw [hyl]; exact hv1⟩).mono ?_
      rintro e w2 ⟨xv, bv, zs, v2, rfl, hB2, hf2, hh2, hp2, hle2, hno2, _, _, _⟩
      have hO : Outs S w w2 (.slice none 0 0) (.int .i64 xv) (.bool bv) [] zs v2 xv bv :=
        ⟨rfl, rfl, hB2, hf2, hh2, World.ownsRow_nil _ _ _ _, fun k h => (by cases h), Out.new S _ (hp2.symm.trans (HP.out.trans (by rw [List.take_of_length_le (by omega)]))), hle2, hno2⟩
      have HO := Lib.hid hO
      clear hB2 hf2 hh2 hp2 hle2 hno2 hO
      go_wp2_with fail
      go_loopw [6, 7, 8] (fun o x b wr => ∃ (out ys : List Int) (v : Value) (xv : Int) (bv : Bool), Outs S w wr o x b out ys v xv bv) (fun o _ _ _ => 301 - slen o)
      case atStart => exact ⟨_, _, _, _, _, HO.out⟩
      case round =>
        clear HO H HP HH HF
        obtain ⟨out, us, vv, xv, bv, hO⟩ := hrel
        obtain rfl := hO.hx
        obtain rfl := hO.hb
        have HO := Lib.hid hO
        clear hO
        obtain ⟨w3, rfl⟩ : ∃ w3 : World, w3 = wr := ⟨_, rfl⟩
        have hpl := HO.out.outs.perm.length_eq
        simp only [List.length_append] at hpl
        obtain ⟨A2, c2, ho2⟩ := own_slice HO.out.own
        subst ho2
        cases bv with
        | false =>
          simp only [Bool.false_eq_true, if_false, List.length_nil, Nat.add_zero] at hpl
          go_wp2_with fail
          go_returns
          have hO := HO.out
          have hp := hO.outs.perm
          simp only [Bool.false_eq_true, if_false, List.append_nil] at hp
          have hA := own_num hO.own
          rw [hpl, hl] at hA
          exact ⟨A2, c2, out, by first | rfl | exact congrArg (fun m => Ending.returned (.slice A2 m c2)) (by omega) | exact congrArg (fun m => Ending.returned (.slice A2 m c2)) (show out.length = k by omega), hA, by omega, hp, hO.outs.rises, hO.heap.below⟩
        | true =>
          simp only [if_true, List.length_cons] at hpl
          have hol : out.length < 300 := by omega
          have y1 : (0 : Nat) < 1 := by omega
          have y2 : out.length + 1 ≤ maxLen := by unfold maxLen; omega
          have y3 : (out.length + 1) * 8 ≤ 140737488355328 := by omega
          have y4 : ∀ u ∈ [Value.int .i64 xv], u.oneCell' = true := by intro u hu; simp at hu; subst hu; rfl
          have hg3 := HO.out.heap.lt
          go_wp2_with (first
            | (at_builtin
               go_loud (refine wpList_append_lies _ rfl _ _ _ rfl (w.heap.size + 1) 3 i3 _ 1 8 Try.underlying22 hi3 hz3 hsz3 hbt3 rfl y1 (.slice A2 out.length c2) out.length (numsV .i64 out) rfl (HO.out.own.alloc _) ⟨_, 0, none⟩ 1 1 [.int .i64 xv] rfl rfl (one_news (by simp)) y4 y1 y2 y3 (by simp; omega) _ rfl ?_)
               intro g cap w4 hown4 hgrow4 hat4 hlt4))
          have hne := HO.out.ne
          have hH4 := (HO.out.heap.alloc (.cells #[.int .i64 xv] 3)).other hgrow4 (fun k hk => ⟨by have := (HO.out.own.lt k hk).1; omega, fun e => hne k hk e⟩)
          have hv4 := fun k (hk : vv.ownBlock = some k) => (HO.out.heap.own.lt k hk).2
          have HH4 := Lib.hid hH4
          have HO4 := Lib.hid hown4
          have hg4 : g = w3.heap.size + 1 ∨ Value.ownBlock (.slice A2 out.length c2) = some g := by
            rcases hat4 with h1 | h1
            · exact .inr h1
            · left; simpa using h1
          have HG4 := Lib.hid hg4
          clear hH4 hown4 hat4 hg4 hgrow4
          go_wp2_with fail
          refine (take2 w.heap.size w w4 vv us (by omega) HO.out.isheap HH4.out HO.out.form).mono ?_
          rintro e w5 ⟨xv5, bv5, zs, v5, rfl, hB5, hf5, hh5, hp5, hle5, hno5, hb5, hs5, ho5⟩
          have hne4 : ∀ k, Value.ownBlock (.slice (some ⟨g, 0, none⟩) (out.length + 1) cap) = some k → vv.ownBlock ≠ some k := by
            intro k hk hv
            injection hk with hk
            subst hk
            rcases HG4.out with h1 | h1
            · have := hv4 _ hv; simp at this; omega
            · exact hne _ h1 hv
          have hO5 : Outs S w w5 (.slice (some ⟨g, 0, none⟩) (out.length + 1) cap) (.int .i64 xv5) (.bool bv5) (out ++ [xv]) zs v5 xv5 bv5 := by
            refine ⟨rfl, rfl, hB5, hf5, hh5, ?_, fun k hk => by rw [hb5]; exact hne4 k hk, ?_, hle5, hno5⟩
            · rw [List.length_append, numsV_snoc]
              exact ho5 _ _ _ _ (by omega) HO4.out hne4
            · have h1 := HO.out.outs
              have h2 := h1.take (left' := us) (x := xv) (by simp) (fun y hy => by
                simp at hy
                rcases hy with rfl | hy
                · exact Int.le_refl _
                · exact HO.out.le y hy)
              exact ⟨h2.rises, fun a ha y hy => h2.le a ha y (hp5.mem_iff.mpr hy), (List.Perm.append_left _ hp5.symm).trans h2.perm⟩
          have HO5 := Lib.hid hO5
          clear hB5 hf5 hh5 hp5 hle5 hno5 hb5 hs5 ho5 hO5 hne4
          go_wp2_with fail
          go_roundw
          case rel => exact ⟨_, _, _, _, _, HO5.out⟩
          case measure => simp [slen]; omega
end Go.Proofs.Ytodcengadecboaa
