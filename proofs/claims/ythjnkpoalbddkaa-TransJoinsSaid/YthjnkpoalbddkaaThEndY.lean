/- Then's end: what the first machine puts at the end of the text goes through the second one, then the second one's end. -/
import Derived.Test.YthjnkpoalbddkaaThStepY
namespace Go.Proofs.Ythjnkpoalbddkaa
open Go.RowKit
structure EndC (W : World) (A2 A3 : Option Addr) (n2 n3 : Nat) (m : Mach) (i b2 o2 b3 o3 en : Nat) : Prop where
  a2 : A2 = some ⟨b2, o2, none⟩
  a3 : A3 = some ⟨b3, o3, none⟩
  c2 : W.cell? ⟨b2, o2 + i, none⟩ = some (.int .i64 en)
  c3 : W.cell? ⟨b3, o3 + en, none⟩ = some (.string (endText m i))
  l2 : i < n2
  l3 : en < n3
  h2 : b2 < W.heap.size
  h3 : b3 < W.heap.size
  sz : (endText m i).size ≤ 4096
theorem end_cells {W : World} {A0 A1 A2 A3 : Option Addr} {n0 n1 n2 n3 : Nat} {m : Mach} {RA : Nat → Option Addr} {rc : Nat → Nat} {PA : Nat → Option Addr} {pc : Nat → Nat} (h : MachIn W A0 A1 A2 A3 n0 n1 n2 n3 m RA rc PA pc) (hr : RightM m) {i : Nat} (hi : i < m.next.length) :
    ∃ b2 o2 b3 o3 en : Nat, EndC W A2 A3 n2 n3 m i b2 o2 b3 o3 en := by
  have hst := hr.states i hi
  have hel0 := h.elen
  have hel3 := h.tlen
  have hends := hr.ends
  have hlo := hst.endlo
  have hhi := hst.endhi
  obtain ⟨b2, o2, e2, hbl2, hc2⟩ := h.earr.one (k := i) (by omega)
  unfold NumC at hc2
  obtain ⟨en, hen⟩ := Int.eq_ofNat_of_zero_le hlo
  obtain ⟨b3, o3, e3, hbl3, hc3⟩ := h.tarr.one (k := en) (by omega)
  unfold StrC at hc3
  rw [hen] at hc2
  have het : endText m i = m.texts.getD en ⟨#[]⟩ := by unfold endText; rw [hen]; rfl
  rw [← het] at hc3
  exact ⟨b2, o2, b3, o3, en, e2, e3, hc2, hc3, by omega, by omega, hbl2, hbl3, endText_len hr hi⟩
theorem EndC.below {w0 W : World} {A2 A3 : Option Addr} {n2 n3 : Nat} {m : Mach} {i b2 o2 b3 o3 en : Nat} (h : EndC w0 A2 A3 n2 n3 m i b2 o2 b3 o3 en) (hb : Below w0.heap.size w0 W) :
    W.cell? ⟨b2, o2 + i, none⟩ = some (.int .i64 en) ∧ W.cell? ⟨b3, o3 + en, none⟩ = some (.string (endText m i)) := ⟨(hb.cell (p := ⟨b2, o2 + i, none⟩) h.h2).trans h.c2, (hb.cell (p := ⟨b3, o3 + en, none⟩) h.h3).trans h.c3⟩
theorem But.cell {S : Nat → Prop} {w w1 : World} {b o : Nat} (h : But S w w1) (hb : b < w.heap.size) (hn : ¬ S b) : w1.cell? ⟨b, o, none⟩ = w.cell? ⟨b, o, none⟩ := by
  simp only [World.cell?, h.block b hb hn]
set_option maxRecDepth 100000 in
set_option maxHeartbeats 8000000 in
theorem thend_any (w0 : World) (a b : Mach) (Aa Ab : Nat → Option Addr) (na nb ca cb : Nat → Nat) (RAa : Nat → Option Addr) (rca : Nat → Nat) (PAa : Nat → Option Addr) (pca : Nat → Nat) (RAb : Nat → Option Addr) (rcb : Nat → Nat) (PAb : Nat → Option Addr) (pcb : Nat → Nat) (ba bb bL bf : Nat) (fl : Bool) (W : World)
    (h : TCtx w0 a b Aa Ab na nb ca cb RAa rca PAa pca RAb rcb PAb pcb ba bb bL bf fl W) (s : Int × Int) (hs : PairOk a b s) :
    Calls Try.prog 57 #[.agg #[.int .i64 s.1, .int .i64 s.2], .pointer (some ⟨bf, 0, none⟩), .pointer (some ⟨ba, 0, none⟩), .pointer (some ⟨bb, 0, none⟩)] W fun e W' =>
      e = .returned (.string ⟨(finT a b s).toArray⟩) ∧ But (fun k => k = bL) W W' ∧ TCtx w0 a b Aa Ab na nb ca cb RAa rca PAa pca RAb rcb PAb pcb ba bb bL bf (fl || lgE b a s) W' := by
  obtain ⟨x, y⟩ := s
  obtain ⟨i, hi⟩ := Int.eq_ofNat_of_zero_le hs.l1
  obtain ⟨j, hj⟩ := Int.eq_ofNat_of_zero_le hs.l2
  simp only at hi hj
  subst hi
  subst hj
  have hia : i < a.next.length := by simpa using hs.h1
  have hjb : j < b.next.length := by simpa using hs.h2
  obtain ⟨W1, hW1⟩ : ∃ W1, W1 = W.alloc (.cells #[.int .i64 (i : Int), .int .i64 (j : Int)] 89) := ⟨_, rfl⟩
  have hbW : Below W.heap.size W W1 := by rw [hW1]; exact (Below.refl _ _).alloc (Nat.le_refl _) _
  have h1 := h.go hbW
  have hx1 : Blk W1 W.heap.size 89 [.int .i64 (i : Int), .int .i64 (j : Int)] := by rw [hW1]; exact Blk.new W 89 _
  obtain ⟨b2, o2, b3, o3, en, he⟩ := end_cells h.ma h.ra hia
  have a2 := h1.xa.cell 2
  have a3 := h1.xa.cell 3
  have x0 := hx1.cell 0
  have x1 := hx1.cell 1
  have f0 := h1.xf.cell 0
  simp only [List.getElem?_cons_zero, List.getElem?_cons_succ] at a2 a3 x0 x1 f0
  rw [he.a2] at a2
  rw [he.a3] at a3
  obtain ⟨c2, c3⟩ := he.below h1.bel
  obtain ⟨t, ht⟩ : ∃ t, t = endText a i := ⟨_, rfl⟩
  rw [← ht] at c3
  have hx2 : (i : Int) < (na 2 : Int) := by have := he.l2; omega
  have hx3 : (en : Int) < (na 3 : Int) := by have := he.l3; omega
  have hot : t.size ≤ 1000000 := by rw [ht]; have := he.sz; omega
  have h1d := h1.go ((Below.refl W1.heap.size W1).drew)
  have hi9 : i < na 2 := he.l2
  have hc9 : en < na 3 := he.l3
  have HB := Lib.hid (behind_any (Ab 0) (Ab 1) (Ab 2) (Ab 3) (nb 0) (nb 1) (nb 2) (nb 3) (cb 0) (cb 1) (cb 2) (cb 3) b RAb rcb PAb pcb t W1.drew bb bL j fl (h1d.mb.keep h1d.bel) h1d.rb hot ⟨h1d.xb⟩ h1d.xL hjb)
  have hn2 : ¬ b2 = bL := fun e => by have := h1.lL; have := he.h2; omega
  have hn3 : ¬ b3 = bL := fun e => by have := h1.lL; have := he.h3; omega
  have hna : ¬ ba = bL := blk_ne h1.xa h1.xL (by decide)
  have hnx : ¬ W.heap.size = bL := blk_ne hx1 h1.xL (by decide)
  have hnf : ¬ bf = bL := blk_ne h1.xf h1.xL (by decide)
  have hl2 : b2 < W1.heap.size := Nat.lt_of_lt_of_le he.h2 h1.bel.size
  have hl3 : b3 < W1.heap.size := Nat.lt_of_lt_of_le he.h3 h1.bel.size
  have hla := h1.xa.lt
  have hlx := hx1.lt
  have hlf := h1.xf.lt
  have HN := Lib.hid (And.intro hn2 (And.intro hn3 (And.intro hna (And.intro hnx hnf))))
  have HN2 := Lib.hid (And.intro hl2 (And.intro hl3 (And.intro hla (And.intro hlx hlf))))
  have H1 := Lib.hid (And.intro h1 (And.intro hx1 hbW))
  have H0 := Lib.hid h
  have HE := Lib.hid he
  have HT := Lib.hid ht
  have HI := Lib.hid (And.intro hia hjb)
  clear h h1 hx1 hs hbW h1d he ht hia hjb hn2 hn3 hna hnx hnf hl2 hl3 hla hlx hlf hot
  go_enter Try.func57, Try.ntmps57
  go_upto_region 1 with (fail)
  rw [← hW1]
  clear hW1
  go_region_held3 (fun w' => w'.cell? ⟨bf, 0, none⟩ = some (.func (.func 53) #[] #[.pointer (some ⟨bb, 0, none⟩), .pointer (some ⟨bL, 0, none⟩)]) ∧ w'.cell? ⟨W.heap.size, 0, none⟩ = some (.int .i64 (i : Int)) ∧ w'.cell? ⟨W.heap.size, 1, none⟩ = some (.int .i64 (j : Int)) ∧ w'.cell? ⟨ba, 2, none⟩ = some (.slice (some ⟨b2, o2, none⟩) (na 2) (ca 2)) ∧ w'.cell? ⟨ba, 3, none⟩ = some (.slice (some ⟨b3, o3, none⟩) (na 3) (ca 3)) ∧ w'.cell? ⟨b2, o2 + i, none⟩ = some (.int .i64 en) ∧ w'.cell? ⟨b3, o3 + en, none⟩ = some (.string t))
    (first
      | assumption
      | exact ⟨t1, t2, t3, t4, t5, t6, t7⟩
      | exact ⟨f0, x0, x1, a2, a3, c2, c3⟩)
    (first
      | (go_at_call 53; refine HB.out.mono ?_; rintro e w9 ⟨rfl, hb9, hL9⟩; have t1 := (hb9.cell (o := 0) HN2.out.2.2.2.2 HN.out.2.2.2.2).trans f0; have t2 := (hb9.cell (o := 0) HN2.out.2.2.2.1 HN.out.2.2.2.1).trans x0; have t3 := (hb9.cell (o := 1) HN2.out.2.2.2.1 HN.out.2.2.2.1).trans x1; have t4 := (hb9.cell (o := 2) HN2.out.2.2.1 HN.out.2.2.1).trans a2; have t5 := (hb9.cell (o := 3) HN2.out.2.2.1 HN.out.2.2.1).trans a3; have t6 := (hb9.cell (o := o2 + i) HN2.out.1 HN.out.1).trans c2; have t7 := (hb9.cell (o := o3 + en) HN2.out.2.1 HN.out.2.1).trans c3))
  have hbe := (((But.of_below H1.out.2.2).mono (S' := fun k => k = bL) (fun k h9 e => by omega)).trans (S := fun k => k = bL) (But.of_below ((Below.refl W1.heap.size W1).drew)) (fun k h9 e => by have := H1.out.2.2.size; omega)).trans (S := fun k => k = bL) hb9 (fun k h9 e => e)
  have h9 := H0.out.mark hbe hL9
  have hj9 := behG_lt h9.rb HI.out.2 t.data.toList
  obtain ⟨b4, o4, b5, o5, en', he⟩ := end_cells h9.mb h9.rb hj9
  have y2 := h9.xb.cell 2
  have y3 := h9.xb.cell 3
  simp only [List.getElem?_cons_zero, List.getElem?_cons_succ] at y2 y3
  rw [he.a2] at y2
  rw [he.a3] at y3
  obtain ⟨d2, d3⟩ := he.below h9.bel
  obtain ⟨j', hj'⟩ : ∃ j', j' = (behG b j t.data.toList).2 := ⟨_, rfl⟩
  obtain ⟨t', ht'⟩ : ∃ t', t' = endText b j' := ⟨_, rfl⟩
  rw [← hj'] at d2 d3
  rw [← ht'] at d3
  have hx4 : (j' : Int) < (nb 2 : Int) := by have := he.l2; omega
  have hx5 : (en' : Int) < (nb 3 : Int) := by have := he.l3; omega
  have hi4 : j' < nb 2 := by have := he.l2; omega
  have hi5 : en' < nb 3 := he.l3
  obtain ⟨ot, hot⟩ : ∃ ot, ot = (behG b j t.data.toList).1 := ⟨_, rfl⟩
  have h10 : (⟨ot.toArray⟩ : ByteArray).size ≤ 4097 := by
    rw [hot]
    have := behG_len (m := b) (st := j) t.data.toList
    simp [ByteArray.size]; omega
  have h11 : t'.size ≤ 4096 := by rw [ht', hj']; exact he.sz
  rw [← hj', ← hot]
  have H9 := Lib.hid (And.intro h9 (And.intro hbe (And.intro hj' (And.intro hot ht'))))
  clear h9 hbe hj9 he hj' ht' hot hb9 hL9 t1 t2 t3 t4 t5 t6 t7 HB HN HN2
  go_wp2_with fail
  go_quiet (fail)
  go_wp2_with fail
  go_returns
  have hd9 := below_drewN (Below.refl w9.heap.size w9) nq
  refine ⟨?_, H9.out.2.1.trans (S := fun k => k = bL) (But.of_below hd9) (fun k h8 e => by have := H9.out.2.1.size; omega), by have h7 := H9.out.1.go hd9; rw [HT.out] at h7; exact h7⟩
  have hf : finT a b ((i : Int), (j : Int)) = ot ++ t'.data.toList := by
    unfold finT
    show (behG b j (endText a i).data.toList).1 ++ (endText b (behG b j (endText a i).data.toList).2).data.toList = _
    rw [← HT.out, ← H9.out.2.2.1, ← H9.out.2.2.2.1, ← H9.out.2.2.2.2]
  rw [hf]
  show Ending.returned (.string (⟨ot.toArray⟩ ++ t')) = _
  congr 2
end Go.Proofs.Ythjnkpoalbddkaa
