/- The reference's Apply. -/
import Derived.Test.YthjnkpoalbddkaaTellsY
import Derived.Test.YthjnkpoalbddkaaApplyY
namespace Go.Proofs.Ythjnkpoalbddkaa
open Go.RowKit

theorem conv_own {w : World} {base n : Nat} {v : Value} {t : Bs} (h : w.ownsRow base 5 1 v n (Lib.byteCells t)) : (convert 54 9 v).run Try.prog w = .ok (.string ⟨t.toArray⟩) w := by
  have hl : t.length = n := by have := h.1; simpa [Lib.byteCells] using this
  rcases h.2 with ⟨rfl, rfl⟩ | ⟨g, cap, cur, rfl, _⟩
  · obtain rfl : t = [] := List.eq_nil_of_length_eq_zero hl
    rw [run_convert_bytes_string w 54 9 5 none 0 0 Try.underlying54 Try.underlying5 Try.underlying9]
    rfl
  · rw [← hl]
    refine run_convert_bytes_back w 54 9 5 ⟨g, 0, none⟩ cap t Try.underlying54 Try.underlying5 Try.underlying9 fun j hj => ?_
    exact h.cells (g := g) rfl j (.int .u8 (t[j].toNat : Int)) (by simp [Lib.byteCells, hj])
theorem own_below {w w' : World} {base : Nat} {e : TypeId} {v : Value} {n : Nat} {xs : List Value} (h : w.ownsRow base e 1 v n xs) (hb : Below w.heap.size w w') : w'.ownsRow base e 1 v n xs :=
  h.kept (row := none) ⟨hb.os, hb.tape, hb.output, hb.size, fun k hk _ => hb.block k hk⟩ (by cases v.ownBlock <;> simp)
theorem box_set2 {w : World} {g : Nat} {a b x y : Value} {T : TypeId} (h : w.heap[g]? = some (.cells #[a, b] T (0, 0))) :
    ((w.setCell ⟨g, 0, none⟩ x).setCell ⟨g, 1, none⟩ y).heap[g]? = some (.cells #[x, y] T (0, 0)) := by
  have h1 := heap_setCell_same w g 0 _ T x h
  have h2 := heap_setCell_same (w.setCell ⟨g, 0, none⟩ x) g 1 _ T y h1
  rw [h2]; rfl

/-- the best of the first k rules at a text's beginning; an empty one: none -/
structure Bst (l : List SR) (rest : Bs) (k : Nat) (bf bt : ByteArray) : Prop where
  most : ∀ a, a < k → (l.getD a noRule).1.data.toList <+: rest → (l.getD a noRule).1.size ≤ bf.size
  one : bf.size = 0 ∨ ∃ j, j < k ∧ bf = (l.getD j noRule).1 ∧ bt = (l.getD j noRule).2 ∧ bf.data.toList <+: rest
theorem Bst.none {l : List SR} {rest : Bs} {n : Nat} {bf bt : ByteArray} (h : Bst l rest n bf bt) (hok : AllOk l) (hl : l.length = n) (h0 : bf.size = 0) : None (rulesOf l) rest := fun r hr hp => by
  obtain ⟨k, hk, rfl⟩ := mem_rulesOf.mp hr
  have h1 := h.most k (by omega) hp
  have h2 := (hok.2 k hk).some
  omega
theorem Bst.best {l : List SR} {rest : Bs} {n : Nat} {bf bt : ByteArray} (h : Bst l rest n bf bt) (hl : l.length = n) (h0 : bf.size ≠ 0) : Best (rulesOf l) rest (bf.data.toList, bt.data.toList) := by
  rcases h.one with h1 | ⟨j, hj, rfl, rfl, hp⟩
  · exact absurd h1 h0
  · exact ⟨mem_rulesOf.mpr ⟨j, by omega, rfl⟩, hp, fun q hq hqp => by
      obtain ⟨k, hk, rfl⟩ := mem_rulesOf.mp hq
      have := h.most k (by omega) hqp
      simp only [size_data]
      exact this⟩
theorem Bst.few {l : List SR} {rest : Bs} {n : Nat} {bf bt : ByteArray} (h : Bst l rest n bf bt) (hok : AllOk l) (hl : l.length = n) (h0 : bf.size ≠ 0) : bt.size ≤ 32 ∧ bf.size ≤ rest.length := by
  rcases h.one with h1 | ⟨j, hj, rfl, rfl, hp⟩
  · exact absurd h1 h0
  · exact ⟨(hok.2 j (by omega)).few2, by have := hp.length_le; rwa [size_data] at this⟩

structure ROut (l : List SR) (s : ByteArray) (w : World) (i : Nat) (out : Bs) (v : Value) (wr : World) : Prop where
  le : i ≤ s.size
  sofar : Sofar (rulesOf l) s.data.toList out (s.data.toList.drop i)
  few : out.length ≤ 32 * i
  own : wr.ownsRow w.heap.size 5 1 v out.length (Lib.byteCells out)
  below : Below w.heap.size w wr

set_option maxRecDepth 100000 in
set_option maxHeartbeats 8000000 in
theorem rapply_ok (A : Option Addr) (n c : Nat) (l : List SR) (s : ByteArray) (w : World) (hl : l.length = n) (h : Arr w w.heap.size 2 A n (RuleC l)) (hok : AllOk l) (hs : s.size ≤ 262144) :
    Calls Try.prog 18 #[.slice A n c, .string s] w fun e w' => ∃ o : Bs, Rew (rulesOf l) s.data.toList o ∧ e = .returned (.string ⟨o.toArray⟩) ∧ Below w.heap.size w w' := by
  obtain ⟨i0, hi0, hz0, hz1, hz2⟩ := info_parts info5
  have H := Lib.hid h
  have hn := hok.1
  have HOK := Lib.hid hok
  have hini : ROut l s w 0 [] (.slice (some ⟨w.heap.size, 0, none⟩) 0 0) (w.alloc (.cells #[] 5)) :=
    ⟨by omega, Sofar.new _ _, by simp, World.ownsRow_lit w #[] 0 (Nat.le_refl _) (by simp) rfl, (Below.refl _ _).alloc (Nat.le_refl _) _⟩
  have HINI := Lib.hid hini
  clear h hok hini
  go_enter Try.func18, Try.ntmps18
  go_wp2_with fail
  go_loopw [5, 6] (fun v x wr => ∃ (i : Nat) (out : Bs), x = .int .i64 i ∧ ROut l s w i out v wr) (fun _ x _ => s.size - (intOf x).toNat)
  case atStart => exact ⟨0, [], rfl, HINI.out⟩
  case round =>
    obtain ⟨i, out, rfl, hO⟩ := hrel
    have HO := Lib.hid hO
    have hil := hO.le
    have hfew := hO.few
    have hws := hO.below.size
    clear hO HINI
    obtain ⟨w2, rfl⟩ : ∃ w2 : World, w2 = wr := ⟨_, rfl⟩
    obtain ⟨v, rfl⟩ : ∃ v : Value, v = u5 := ⟨_, rfl⟩
    by_cases hlt : i < s.size
    · obtain ⟨rest, hrest⟩ : ∃ rest, rest = s.data.toList.drop i := ⟨_, rfl⟩
      have hrl : rest.length = s.size - i := by rw [hrest, List.length_drop, size_data]
      have HRS := Lib.hid hrest
      clear hrest
      have hbox0 : (w2.alloc (.cells #[.string ⟨#[]⟩, .string ⟨#[]⟩] 34)).heap[w2.heap.size]? = some (.cells #[.string ⟨#[]⟩, .string ⟨#[]⟩] 34 (0, 0)) := heap_alloc_new w2 _
      have HBX := Lib.hid hbox0
      clear hbox0
      go_wp2_with fail
      go_loopw [18] (fun y wx => ∃ (k : Nat) (bf bt : ByteArray), k ≤ n ∧ y = .int .i64 k ∧ Bst l rest k bf bt ∧ wx.heap[w2.heap.size]? = some (.cells #[.string bf, .string bt] 34 (0, 0)) ∧ Below w2.heap.size w2 wx ∧ bf.size ≤ maxLen) (fun y _ => n - (intOf y).toNat)
      case atStart => exact ⟨0, ⟨#[]⟩, ⟨#[]⟩, by omega, rfl, ⟨fun a ha => absurd ha (by omega), .inl rfl⟩, HBX.out, (Below.refl _ _).alloc (Nat.le_refl _) _, by decide⟩
      case round =>
        obtain ⟨k, bf, bt, hk, rfl, hbst, hbox, hb2, hbm⟩ := hrel
        have HBST := Lib.hid hbst
        have HBOX := Lib.hid hbox
        have HB2 := Lib.hid hb2
        have hglt : w2.heap.size < wr.heap.size := by
          rcases Nat.lt_or_ge w2.heap.size wr.heap.size with h' | h'
          · exact h'
          · rw [Array.getElem?_eq_none h'] at hbox; cases hbox
        have c0 : wr.cell? ⟨w2.heap.size, 0, none⟩ = some (.string bf) := by rw [cell_of_row wr _ 0 _ _ _ hbox]; rfl
        have c1 : wr.cell? ⟨w2.heap.size, 1, none⟩ = some (.string bt) := by rw [cell_of_row wr _ 1 _ _ _ hbox]; rfl
        have f0 := frozen_of_row wr w2.heap.size 0 _ _ hbox
        have f1 := frozen_of_row wr w2.heap.size 1 _ _ hbox
        have m1 : wr.heap.size ≠ w2.heap.size := by omega
        clear hbst hbox hb2 HBX
        obtain ⟨w3, rfl⟩ : ∃ w3 : World, w3 = wr := ⟨_, rfl⟩
        by_cases hlk : k < n
        · obtain ⟨b, o, rfl, hbl, hc0, hc1⟩ := ((H.out.below HO.out.below).below (HB2.out.mono hws)).two hlk
          simp only [RuleC, if_true, if_neg (show ¬ (1 : Nat) = 0 by omega)] at hc0 hc1
          have hf16 := (HOK.out.2 k (by omega)).few
          obtain ⟨f, hf⟩ : ∃ f, f = (l.getD k noRule).1 := ⟨_, rfl⟩
          obtain ⟨t, ht⟩ : ∃ t, t = (l.getD k noRule).2 := ⟨_, rfl⟩
          rw [← hf] at hc0 hf16
          rw [← ht] at hc1
          have HF := Lib.hid (And.intro hf ht)
          clear hf ht
          go_wp2_with fail
          refine (begins_any s f i _ hil hs (by omega)).mono ?_
          rw [← HRS.out]
          by_cases hpre : f.data.toList <+: rest
          · rw [decide_eq_true hpre]
            have HPRE := Lib.hid hpre
            clear hpre
            rintro e w' ⟨rfl, rfl⟩
            by_cases hbig : bf.size < f.size
            · have d1 : decide ((bf.size : Int) < (f.size : Int)) = true := by simp; omega
              go_wp2_with fail
              go_roundw
              case rel => exact ⟨k + 1, f, t, by omega, by go_num, ⟨fun a ha hp => by
                            by_cases e : a = k
                            · rw [e, ← HF.out.1]; exact Nat.le_refl _
                            · have := HBST.out.most a (by omega) hp; omega, .inr ⟨k, by omega, HF.out.1, HF.out.2, HPRE.out⟩⟩,
                            ((World.grownBy_alloc _ _ none).block _ (by simp; omega) (by simp)).trans (box_set2 HBOX.out),
                            (((HB2.out.setCell (p := ⟨w2.heap.size, 0, none⟩) (Nat.le_refl _) _).setCell (p := ⟨w2.heap.size, 1, none⟩) (Nat.le_refl _) _).alloc (by simp; omega) _), by unfold maxLen; omega⟩
              case measure => simp [intOf]; omega
            · have d1 : decide ((bf.size : Int) < (f.size : Int)) = false := by simp; omega
              go_wp2_with fail
              go_roundw
              case rel => exact ⟨k + 1, bf, bt, by omega, by go_num, ⟨fun a ha hp => by
                            by_cases e : a = k
                            · rw [e, ← HF.out.1]; omega
                            · exact HBST.out.most a (by omega) hp, HBST.out.one.imp id fun ⟨j, hj, h1⟩ => ⟨j, by omega, h1⟩⟩,
                            ((World.grownBy_alloc w3 _ none).block _ hglt (by simp)).trans HBOX.out, HB2.out.alloc (by omega) _, hbm⟩
              case measure => simp [intOf]; omega
          · rw [decide_eq_false hpre]
            have HPRE := Lib.hid hpre
            clear hpre
            rintro e w' ⟨rfl, rfl⟩
            go_wp2_with fail
            go_roundw
            case rel => exact ⟨k + 1, bf, bt, by omega, by go_num, ⟨fun a ha hp => by
                          by_cases e : a = k
                          · rw [e, ← HF.out.1] at hp; exact absurd hp HPRE.out
                          · exact HBST.out.most a (by omega) hp, HBST.out.one.imp id fun ⟨j, hj, h1⟩ => ⟨j, by omega, h1⟩⟩,
                          ((World.grownBy_alloc w3 _ none).block _ hglt (by simp)).trans HBOX.out, HB2.out.alloc (by omega) _, hbm⟩
            case measure => simp [intOf]; omega
        · obtain rfl : k = n := by omega
          have hemp := strB bf
          have HOWN := Lib.hid (own_below HO.out.own HB2.out)
          have HBW := Lib.hid (HO.out.below.trans (HB2.out.mono hws))
          have hb2s := HBW.out.size
          by_cases hz : bf.size = 0
          · have e1 : bf.toList.isEmpty = true := by rw [hemp]; exact decide_eq_true hz
            have hnone := HBST.out.none HOK.out hl hz
            obtain ⟨cc, tt, hdr, hdr1, hidx⟩ := index_byte s i hlt
            have HN := Lib.hid (And.intro hnone (And.intro hdr hdr1))
            clear hnone hdr hdr1 hemp hz
            go_wp2_with (first
              | (at_builtin; refine wpList_append_own _ rfl _ _ 54 rfl w.heap.size 5 i0 (.int .u8 0) 1 1 Try.underlying54 hi0 hz0 hz1 hz2 rfl (by decide) _ _ _ rfl (HOWN.out.alloc _) ⟨w3.heap.size, 0, none⟩ 1 1 [.int .u8 (cc.toNat : Int)] rfl rfl (by intro j u hj; match j, hj with | 0, hj => simp at hj; subst hj; simp [Addr.add]) (by intro u hu; simp at hu; subst hu; rfl) (by unfold maxLen; omega) (by omega) (by have := hb2s; simp; omega) ?_; intro v' w6 hown' hgrow _))
            have hR : ROut l s w (i + 1) (out ++ [cc]) v' w6 := by
              refine ⟨by omega, ?_, by rw [List.length_append, List.length_singleton]; omega, ?_, (HBW.out.alloc hb2s _).grown hgrow (by simp; omega) (fun k hk => (HO.out.own.lt k hk).1)⟩
              · have h1 := HO.out.sofar
                have h3 := HN.out.1
                rw [HRS.out] at h3
                rw [HN.out.2.1] at h1 h3
                rw [HN.out.2.2]
                exact h1.miss h3
              · rw [List.length_append, ← byteCells_append]
                exact hown'
            have HRR := Lib.hid hR
            clear hown' hgrow hR
            go_roundw
            case rel => exact ⟨i + 1, _, by go_num, HRR.out⟩
            case measure => simp [intOf]; omega
          · have e1 : bf.toList.isEmpty = false := by rw [hemp]; exact decide_eq_false hz
            have hbest := HBST.out.best hl hz
            have hbf := HBST.out.few HOK.out hl hz
            have HBE := Lib.hid hbest
            have hbf1 := hbf.1
            have hbf2 := hbf.2
            have hne : some w2.heap.size ≠ v.ownBlock := fun e => by have := (HO.out.own.lt _ e.symm).2; omega
            clear hbest hemp hbf
            go_wp2_with (first
              | (at_builtin; refine Lib.wpList_append_own_string _ rfl _ _ 54 9 rfl w.heap.size 5 i0 Try.underlying54 Try.underlying9 hi0 hz0 hz1 hz2 _ _ _ rfl HOWN.out bt rfl (by unfold maxLen; omega) (by omega) hb2s ?_; intro v' w6 hown' hgrow _; have z0 : w6.cell? ⟨w2.heap.size, 0, none⟩ = some (.string bf) := (hgrow.cell_far _ hglt hne).trans c0))
            have hR : ROut l s w (i + bf.size) (out ++ bt.data.toList) v' w6 := by
              refine ⟨by omega, ?_, by rw [List.length_append, size_data]; omega, ?_, HBW.out.grown hgrow hb2s (fun k hk => (HO.out.own.lt k hk).1)⟩
              · have h1 := HO.out.sofar
                rw [← HRS.out] at h1
                have h2 := h1.hit HBE.out
                simp only [size_data] at h2
                rw [HRS.out, List.drop_drop] at h2
                exact h2
              · rw [List.length_append, size_data, ← byteCells_append]
                exact hown'
            have HRR := Lib.hid hR
            clear hown' hgrow hR
            go_roundw
            case rel => exact ⟨i + bf.size, _, by go_num, HRR.out⟩
            case measure => simp [intOf]; omega
    · obtain rfl : i = s.size := by omega
      have hso := HO.out.sofar
      rw [List.drop_of_length_le (by rw [size_data]; exact Nat.le_refl _)] at hso
      have HS := Lib.hid hso.done
      have hconv := conv_own HO.out.own
      clear hso
      go_wp2_with fail
      go_returns
      exact ⟨out, HS.out, by first | rfl | simp, HO.out.below⟩
end Go.Proofs.Ythjnkpoalbddkaa
