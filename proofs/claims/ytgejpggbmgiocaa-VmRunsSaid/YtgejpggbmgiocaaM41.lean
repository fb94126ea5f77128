/- RD6, RD7 of this seat, in one text. -/
import Derived.Test.YtgejpggbmgiocaaM25
import Derived.Test.YtgejpggbmgiocaaM24
import Derived.Test.YtgejpggbmgiocaaM38
/- The reference's instructions: turn. -/
namespace Go.Proofs.Ytgejpggbmgiocaa
open Go.RowKit
theorem set14 {prg : List Value} (hp : prg.length = 10) (L : List Value) (v : Value) : (prg ++ L).set 14 v = prg ++ L.set 4 v := by
  rw [show 14 = prg.length + 4 by rw [hp], set_app]
theorem RR.turn {B g gr gk : Nat} {w0 W : World} {prg : List Value} {room fuel : Int} {s : St} {vs vp vg vt : Value} (h : RR B g gr gk w0 W prg room fuel s vs vp vg vt) (O : Obj) :
    RR B g gr gk w0 ((((W.setCell ⟨g, 12, none⟩ vp).setCell ⟨g, 14, none⟩ (.slice (some ⟨W.heap.size + 1, 0, none⟩) 0 0)).alloc O).alloc (.cells #[] 5)) prg room fuel { s with src := s.put, put := [] } vp (.slice (some ⟨W.heap.size + 1, 0, none⟩) 0 0) vg vt := by
  obtain ⟨W1, hW1⟩ : ∃ W1, W1 = (W.setCell ⟨g, 12, none⟩ vp).setCell ⟨g, 14, none⟩ (.slice (some ⟨W.heap.size + 1, 0, none⟩) 0 0) := ⟨_, rfl⟩
  have hh : ∀ b, b ≠ g → W1.heap[b]? = W.heap[b]? := fun b hb => by rw [hW1, Below.heap_setCell _ _ _ b hb, Below.heap_setCell _ _ _ b hb]
  have hs1 : W1.heap.size = W.heap.size := by rw [hW1]; simp
  have hb1 := (h.box.set 12 vp).set 14 (.slice (some ⟨W.heap.size + 1, 0, none⟩) 0 0)
  rw [rrs_tail h.pl 2] at hb1
  have hbl : Below B w0 W1 := by rw [hW1]; exact (h.below.setCell (p := ⟨g, 12, none⟩) h.gB _).setCell (p := ⟨g, 14, none⟩) h.gB _
  have hb2 : Blk W1 g 72 (rrc prg gr gk { s with src := s.put, put := [] } vp (.slice (some ⟨W.heap.size + 1, 0, none⟩) 0 0) vg vt room fuel) := by
    rw [hW1]
    rw [set14 h.pl] at hb1
    exact hb1
  rw [← hW1]
  have hal : Below W1.heap.size W1 ((W1.alloc O).alloc (.cells #[] 5)) := ((Below.refl _ _).alloc (Nat.le_refl _) _).alloc (by simp) _
  have hpr := h.lt
  have hrr := h.rb.lt
  have hkr := h.mb.lt
  have hold : ∀ b, b < W.heap.size → b ≠ g → ((W1.alloc O).alloc (.cells #[] 5)).heap[b]? = W.heap[b]? := fun b hb hne => (hal.block b (by omega)).trans (hh b hne)
  refine ⟨h.pl, h.rl, h.ml, hbl.trans (hal.mono (by have := h.Bs; omega)), h.gB, h.grB, h.gkB, (hal.block g (by omega)).trans hb2, (hold gr hrr h.ap.n1.symm).trans h.rb, (hold gk hkr h.ap.n2.symm).trans h.mb, ?_, ?_, ?_, ?_, ?_⟩
  · refine ⟨own_sl h.put, fun b e => ⟨(h.put.lt b e).1, by have := (h.put.lt b e).2; have := hal.size; omega⟩, fun j hj => ?_⟩
    have hj2 : j < s.put.length := hj
    obtain ⟨b, cap, hv, _⟩ := h.put.form (by omega)
    refine ⟨b, ⟨cap, hv⟩, ?_⟩
    have hp := h.put
    rw [hv] at hp
    have hc := hp.cellAt j (by omega)
    have hne : b ≠ g := (h.ap.fp b (by rw [hv]; rfl)).1
    have e1 := hold b (hp.lt b rfl).2 hne
    have e2 : ((W1.alloc O).alloc (.cells #[] 5)).cell? ⟨b, j, none⟩ = W.cell? ⟨b, j, none⟩ := by simp only [World.cell?, e1]
    rw [e2, hc]
    simp [bytesV, hj2]
  · have := World.ownsRow_made (base := B) (size := 1) (e := 5) (W1.alloc O) #[] 0 (by have := h.Bs; simp; omega) (by simp [maxLen]) rfl
    simpa [hs1, bytesV] using this
  · exact own_move h.sgn (fun b _ e ho _ => (hold b (h.sgn.lt b e).2 (h.ap.fg b e).1).trans ho)
  · exact own_move h.told (fun b _ e ho _ => (hold b (h.told.lt b e).2 (h.ap.ft b e).1).trans ho)
  · have hnew : ∀ b, (Value.slice (some ⟨W.heap.size + 1, 0, none⟩) 0 0).ownBlock = some b → b = W.heap.size + 1 := fun b e => by
      have e2 : W.heap.size + 1 = b := by simpa [Value.ownBlock] using e
      exact e2.symm
    refine ⟨h.ap.n1, h.ap.n2, h.ap.n3, h.ap.fp, fun b e => by have := hnew b e; omega, h.ap.fg, h.ap.ft, fun b e e2 => by have := hnew b e2; have := (h.put.lt b e).2; omega, h.ap.apg, h.ap.apt, fun b e e2 => by have := hnew b e; have := (h.sgn.lt b e2).2; omega, fun b e e2 => by have := hnew b e; have := (h.told.lt b e2).2; omega, h.ap.agt⟩
theorem RR.newMarks {B g gr gk : Nat} {w0 W : World} {prg : List Value} {room fuel : Int} {s : St} {vs vp vg vt : Value} (h : RR B g gr gk w0 W prg room fuel s vs vp vg vt) (m : Nat) (hm : m = W.heap.size) :
    RR B g gr m w0 ((W.setCell ⟨g, 11, none⟩ (.slice (some ⟨m, 0, none⟩) 2 2)).alloc (.cells #[.int .i64 0, .int .i64 0] 3)) prg room fuel { s with marks := [0, 0] } vs vp vg vt := by
  subst hm
  have hh : ∀ b, b ≠ g → (W.setCell ⟨g, 11, none⟩ (.slice (some ⟨W.heap.size, 0, none⟩) 2 2)).heap[b]? = W.heap[b]? := fun b hb => Below.heap_setCell _ _ _ b hb
  have hs1 : (W.setCell ⟨g, 11, none⟩ (.slice (some ⟨W.heap.size, 0, none⟩) 2 2)).heap.size = W.heap.size := by simp
  have hb1 := h.box.set 11 (.slice (some ⟨W.heap.size, 0, none⟩) 2 2)
  rw [rrs_tail h.pl 1] at hb1
  have hbl := h.below.setCell (p := ⟨g, 11, none⟩) h.gB (.slice (some ⟨W.heap.size, 0, none⟩) 2 2)
  have hnw := Blk.new (W.setCell ⟨g, 11, none⟩ (.slice (some ⟨W.heap.size, 0, none⟩) 2 2)) 3 [.int .i64 0, .int .i64 0]
  generalize W.setCell ⟨g, 11, none⟩ (.slice (some ⟨W.heap.size, 0, none⟩) 2 2) = W1 at hh hs1 hb1 hbl hnw ⊢
  have hal : Below W1.heap.size W1 (W1.alloc (.cells #[.int .i64 0, .int .i64 0] 3)) := (Below.refl _ _).alloc (Nat.le_refl _) _
  have hold : ∀ b, b < W.heap.size → b ≠ g → (W1.alloc (.cells #[.int .i64 0, .int .i64 0] 3)).heap[b]? = W.heap[b]? := fun b hb hne => (hal.block b (by omega)).trans (hh b hne)
  have hpr := h.lt
  have hrr := h.rb.lt
  rw [hs1] at hnw
  refine ⟨h.pl, h.rl, rfl, hbl.trans (hal.mono (by have := h.Bs; omega)), h.gB, h.grB, h.Bs, (hal.block g (by omega)).trans hb1, (hold gr hrr h.ap.n1.symm).trans h.rb, hnw, ?_, ?_, ?_, ?_, ?_⟩
  · exact h.src.keep (by have := hal.size; omega) (fun b e => hold b (h.src.near b e).2 (h.ap.fs b e).1)
  · exact own_move h.put (fun b _ e ho _ => (hold b (h.put.lt b e).2 (h.ap.fp b e).1).trans ho)
  · exact own_move h.sgn (fun b _ e ho _ => (hold b (h.sgn.lt b e).2 (h.ap.fg b e).1).trans ho)
  · exact own_move h.told (fun b _ e ho _ => (hold b (h.told.lt b e).2 (h.ap.ft b e).1).trans ho)
  · exact ⟨h.ap.n1, by omega, by omega, fun b e => ⟨(h.ap.fs b e).1, (h.ap.fs b e).2.1, by have := (h.src.near b e).2; omega⟩, fun b e => ⟨(h.ap.fp b e).1, (h.ap.fp b e).2.1, by have := (h.put.lt b e).2; omega⟩, fun b e => ⟨(h.ap.fg b e).1, (h.ap.fg b e).2.1, by have := (h.sgn.lt b e).2; omega⟩, fun b e => ⟨(h.ap.ft b e).1, (h.ap.ft b e).2.1, by have := (h.told.lt b e).2; omega⟩, h.ap.asp, h.ap.ass, h.ap.ast, h.ap.apg, h.ap.apt, h.ap.agt⟩
set_option maxRecDepth 100000 in
set_option maxHeartbeats 4000000 in
theorem rdo_14 (B g gr gk : Nat) (w0 W : World) (prg : List Value) (room fuel : Int) (s : St) (vs vp vg vt : Value) (mg : List Int → Option (List Int)) (p : Prog) (i : Ins) (ho : i.op = 14) (hf : fitsF i = true) (h : RR B g gr gk w0 W prg room fuel s vs vp vg vt) :
    Calls Try.prog 35 #[.pointer (some ⟨g, 0, none⟩), insV i] W (ResR B g gr w0 prg room fuel (doF mg p room s i)) := by
  obtain ⟨op, a, b, c, d⟩ := i
  simp only at ho
  subst ho
  have H1 := Lib.hid (h.alloc (.cells #[.int .i64 14, .int .i64 a, .int .i64 b, .int .i64 c, .int .i64 d] 40))
  have hlt := h.lt
  have H := Lib.hid h
  have hT := h.turn (.cells #[.int .i64 14, .int .i64 a, .int .i64 b, .int .i64 c, .int .i64 d] 40)
  have c1 := H.out.cells.vp
  have c2 := H.out.cells.vs
  have c3 := H.out.cells.here
  have c4 := H.out.cells.vk
  have f := H.out.cells.fr
  have f1 := f 12
  have f2 := f 14
  have f3 := f 13
  have f4 := f 11
  obtain ⟨Ap, cp, hvp⟩ := own_sl H.out.put
  obtain ⟨np, hnp⟩ : ∃ n, n = s.put.length := ⟨_, rfl⟩
  rw [← hnp] at hvp
  subst hvp
  have HT := Lib.hid hT
  clear f hnp hT
  clear h hf
  unfold insV
  go_enter Try.func35, Try.ntmps35
  go_upto_region 39 with (fail)
  obtain ⟨W5, hW5⟩ : ∃ W5, W5 = ((((W.setCell ⟨g, 12, none⟩ (.slice Ap np cp)).setCell ⟨g, 14, none⟩ (.slice (some ⟨W.heap.size + 1, 0, none⟩) 0 0)).alloc (.cells #[.int .i64 14, .int .i64 a, .int .i64 b, .int .i64 c, .int .i64 d] 40)).alloc (.cells #[] 5)) := ⟨_, rfl⟩
  rw [← hW5] at HT ⊢
  clear hW5 c1 c2 c3 c4 f1 f2 f3 f4 H1 H
  have c3 := HT.out.cells.here
  have c4 := HT.out.cells.vk
  have f3 := HT.out.cells.fr 13
  have f4 := HT.out.cells.fr 11
  have hlt5 := HT.out.lt
  go_wp2_with fail
  go_returns
  exact ⟨by first | rfl | simp, W5.heap.size, _, _, vg, vt, (HT.out.setHere 0).newMarks _ (by simp)⟩
end Go.Proofs.Ytgejpggbmgiocaa
/- The reference's instructions: a text. -/
namespace Go.Proofs.Ytgejpggbmgiocaa
open Go.RowKit
set_option maxRecDepth 100000 in
set_option maxHeartbeats 4000000 in
theorem rdo_13 (B g gr gk : Nat) (w0 W : World) (prg : List Value) (room fuel : Int) (s : St) (vs vp vg vt : Value) (mg : List Int → Option (List Int)) (p : Prog) (i : Ins) (ho : i.op = 13) (hf : fitsF i = true) (h : RR B g gr gk w0 W prg room fuel s vs vp vg vt) (ht : TextsIn w0 B prg p.texts) (htl : ∀ k, (p.texts.getD k ⟨#[]⟩).size ≤ 140737488351232) (hok : textOk p s i) (hrg : ∀ k, -9223372036854775808 ≤ s.regs.getD k 0 ∧ s.regs.getD k 0 ≤ 9223372036854775807) (hn : s.put.length + (textF p s i).length ≤ 10000000000) :
    Calls Try.prog 35 #[.pointer (some ⟨g, 0, none⟩), insV i] W (ResR B g gr w0 prg room fuel (doF mg p room s i)) := by
  obtain ⟨op, a, b, c, d⟩ := i
  simp only at ho
  subst ho
  have hf2 : isReg b = true ∧ isReg a = true := by simpa [fitsF] using hf
  have H1 := Lib.hid (h.alloc (.cells #[.int .i64 13, .int .i64 a, .int .i64 b, .int .i64 c, .int .i64 d] 40))
  have hlt := h.lt
  have HT := Lib.hid (rtext_any B g gr gk w0 _ prg room fuel s vs vp vg vt p 13 a b c d H1.out ht hf2.2 hf2.1 htl hok hrg)
  obtain ⟨l, hl⟩ : ∃ l, l = textF p s ⟨13, a, b, c, d⟩ := ⟨_, rfl⟩
  rw [← hl] at hn HT
  obtain ⟨m, hm⟩ : ∃ m, m = l.length := ⟨_, rfl⟩
  have e9 : ({ s with put := s.put ++ l } : St) = (doF mg p room s ⟨13, a, b, c, d⟩).1 := by rw [hl]; rfl
  have e8 : (doF mg p room s ⟨13, a, b, c, d⟩).2 = none := rfl
  have HE := Lib.hid (And.intro e9 e8)
  obtain ⟨i9, hi9, hz9, hsz9, hbt9⟩ := info_parts info5
  have HM := Lib.hid hm
  rw [← hm] at hn
  clear h hf hf2 ht htl hok hrg hl e9 e8 hm
  unfold insV
  go_enter Try.func35, Try.ntmps35
  go_wp2_with fail
  refine HT.out.mono ?_
  rintro e w2 ⟨b5, c5, rfl, hat, hb⟩
  have H2 := Lib.hid (H1.out.call hb)
  have HA := Lib.hid hat
  rw [← HM.out]
  have d0 := H2.out.cells.vp
  have hpl := H2.out.put
  have hbs := H2.out.Bs
  have hnw : ∀ ad, (some ⟨b5, 0, none⟩ : Option Addr) = some ad → ∀ j u, (bytesV l)[j]? = some u → w2.cell? (ad.add j) = some u := fun ad e j u hj => by
    obtain rfl : (⟨b5, 0, none⟩ : Addr) = ad := by injection e
    rw [add_plain', Nat.zero_add]
    have hj2 : j < l.length := by have := (List.getElem?_eq_some_iff.1 hj).1; simpa [bytesV] using this
    rw [HA.out.cell j hj2]
    rw [bget l j hj2] at hj
    exact hj
  have HNW := Lib.hid hnw
  have y4 : ∀ u ∈ bytesV l, u.oneCell' = true := by intro u hu; simp only [bytesV, List.mem_map] at hu; obtain ⟨x, _, rfl⟩ := hu; rfl
  have HY := Lib.hid y4
  have HPL := Lib.hid hpl
  obtain ⟨q, hq⟩ : ∃ q, q = s.put.length := ⟨_, rfl⟩
  have HQ := Lib.hid hq
  rw [← hq] at hn
  clear hb hat hnw y4 hpl hq
  have hlt2 := H2.out.lt
  go_wp2_with (first
    | (at_builtin; refine wpList_append_any _ rfl (.tmp 243) (.tmp 244) 62 rfl B 5 i9 _ 1 1 Try.underlying62 hi9 hz9 hsz9 hbt9 rfl (by decide) vp s.put.length (bytesV s.put) rfl HPL.out (some ⟨b5, 0, none⟩) m c5 (bytesV l) rfl (by rw [HM.out]; simp [bytesV]) (fun h9 => by cases h9) HNW.out HY.out (by rw [← HQ.out]; unfold maxLen; omega) (by rw [← HQ.out]; omega) hbs ?_; intro v5 w5 hown5 hgrow5 hor5
       obtain ⟨A5, c6, rfl⟩ := own_sl hown5
       have hbx := RR.midBox H2.out hgrow5 H2.out.putRow
       have d1 := hbx.vp
       have d2 := hbx.fr 14
       have hnx := RR.putApp (v' := .slice A5 (s.put.length + m) c6) H2.out (xs := l) (by rw [← HM.out]; exact hown5) hgrow5 hor5))
  go_returns
  refine ⟨by first | rfl | simp, gk, vs, .slice A5 (s.put.length + m) c6, vg, vt, ?_⟩
  rw [← HE.out.1]
  exact hnx
end Go.Proofs.Ytgejpggbmgiocaa
