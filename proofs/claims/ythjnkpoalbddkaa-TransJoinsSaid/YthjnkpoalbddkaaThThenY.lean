/- Then: a made machine in memory; what the run is told; the walk. -/
import Derived.Test.YthjnkpoalbddkaaMPMem3Y
import Derived.Test.YthjnkpoalbddkaaThEndY
import Derived.Test.YthjnkpoalbddkaaMPRun0Y
import Derived.Test.YthjnkpoalbddkaaMPMadeY
import Derived.Test.YthjnkpoalbddkaaMPRunY
namespace Go.Proofs.Ythjnkpoalbddkaa.MP
open Go.RowKit Go.Maps Go.WideMaps
section
variable {W : World} {B bk : Nat} {m : Mk St} {vn vp ve vt va : Value} {gno gtx : Nat} {D1 D2 : DataW Unit} {RN RP : Nat → Nat}
theorem rows_of {v : Value} {A : Option Addr} {c : Nat} {rows : List (List Int)} {R : Nat → Nat} (h : RowsM W B v ve rows R) (hv : v = .slice A rows.length c) (hn : rows.length ≤ 2000) : RowsIn W A rows.length rows (fun i => some ⟨R i, 0, none⟩) (fun _ => 256) := by
  subst hv
  refine ⟨rfl, by omega, fun hp => ?_, fun k hk hp => ?_, fun k hk => ?_⟩
  · obtain ⟨b, off, e, hl, hc⟩ := Arr.of_own h.own hp
    refine ⟨b, off, e, hl, fun k j hk hj => ?_⟩
    rw [hc k j hk hj]
    unfold RowC slV
    rw [h.len k hk]
    simp [hk]
  · refine ⟨R k, 0, rfl, (h.blk k hk).2.1.lt, fun j i hj hi => ?_⟩
    obtain rfl : i = 0 := by omega
    rw [(h.blk k hk).2.1.cell]
    unfold NumC numsV
    simp at hj
    simp [List.getElem?_eq_getElem hj]
  · have := h.len k hk
    omega
theorem MkIn.mach {A0 A1 A2 A3 : Option Addr} {c0 c1 c2 c3 : Nat} (h : MkIn W B bk m vn vp ve vt va gno gtx D1 D2 RN RP) (h0 : vn = .slice A0 m.next.length c0) (h1 : vp = .slice A1 m.put.length c1) (h2 : ve = .slice A2 m.ends.length c2) (h3 : vt = .slice A3 m.texts.length c3)
    (l0 : m.next.length ≤ 2000) (l1 : m.put.length ≤ 2000) (l2 : m.ends.length ≤ 2000) (l3 : m.texts.length ≤ 10000) :
    MachIn W A0 A1 A2 A3 m.next.length m.put.length m.ends.length m.texts.length m.mach (fun i => some ⟨RN i, 0, none⟩) (fun _ => 256) (fun i => some ⟨RP i, 0, none⟩) (fun _ => 256) := by
  subst h2 h3
  refine ⟨rows_of h.nx h0 l0, rows_of h.pt h1 l1, rfl, by omega, own_ints h.oe, by simp [Mk.mach], by omega, fun hp => ?_⟩
  obtain ⟨b, off, e, hl, hc⟩ := Arr.of_own h.ot hp
  refine ⟨b, off, e, hl, fun k j hk hj => ?_⟩
  rw [hc k j hk hj]
  unfold StrC Mk.mach txV
  simp [List.getElem?_eq_getElem hk]
end
end Go.Proofs.Ythjnkpoalbddkaa.MP
namespace Go.Proofs.Ythjnkpoalbddkaa
open Go.RowKit
/-- nothing is ever too long -/
def NoLong (a b : Mach) : Prop := ∀ s, PairOk a b s → (∀ c, lgT b a s c = false) ∧ lgE b a s = false
section
variable {w0 : World} {a b : Mach} {Aa Ab : Nat → Option Addr} {na nb ca cb : Nat → Nat} {RAa : Nat → Option Addr} {rca : Nat → Nat} {PAa : Nat → Option Addr} {pca : Nat → Nat} {RAb : Nat → Option Addr} {rcb : Nat → Nat} {PAb : Nat → Option Addr} {pcb : Nat → Nat} {ba bb bL bf gr B : Nat}
theorem then_env (ha : RightM a) (hb : RightM b) (hw : w0.heap.size ≤ B) (h1 : ba < B) (h2 : bb < B) (h3 : bL < B) (h4 : bf < B) (h5 : gr < B) :
    MP.Env 56 57 B (fun fl W => TCtx w0 a b Aa Ab na nb ca cb RAa rca PAa pca RAb rcb PAb pcb ba bb bL bf fl W ∧ (NoLong a b → fl = false) ∧ Blk W gr 42 MP.z4) [.pointer (some ⟨ba, 0, none⟩), .pointer (some ⟨bf, 0, none⟩)] [.pointer (some ⟨bf, 0, none⟩), .pointer (some ⟨ba, 0, none⟩), .pointer (some ⟨bb, 0, none⟩)]
      (stepT a b) (finT a b) (PairOk a b) (lgT b a) (lgE b a) := by
  refine ⟨fun fl W W' hc hB hbt => ⟨hc.1.but hbt (fun k hk => ⟨by omega, by omega, by omega, by omega, by omega⟩), hc.2.1, hbt.blk hc.2.2 (by omega)⟩, fun fl W s c hc hB hs => ?_, fun fl W s hc hB hs => ?_, fun s c hs => hs.step ha hb c, fun s hs => ?_, fun s c _ => by have := step_len (a := a) (b := b) s c; omega, fun s hs => by have := fin_len hb hs; omega⟩
  · refine (thstep_any w0 a b Aa Ab na nb ca cb RAa rca PAa pca RAb rcb PAb pcb ba bb bL bf fl W hc.1 s hs c).mono ?_
    rintro e W' ⟨he, hbt, hctx⟩
    exact ⟨he, hbt.mono (fun k _ hk => by omega), hctx, fun hn => by rw [hc.2.1 hn, (hn s hs).1 c]; rfl, hbt.blk hc.2.2 (blk_ne hc.2.2 hc.1.xL (by decide))⟩
  · refine (thend_any w0 a b Aa Ab na nb ca cb RAa rca PAa pca RAb rcb PAb pcb ba bb bL bf fl W hc.1 s hs).mono ?_
    rintro e W' ⟨he, hbt, hctx⟩
    exact ⟨he, hbt.mono (fun k _ hk => by omega), hctx, fun hn => by rw [hc.2.1 hn, (hn s hs).2]; rfl, hbt.blk hc.2.2 (blk_ne hc.2.2 hc.1.xL (by decide))⟩
  · have e1 := ha.hi
    have e2 := hb.hi
    have := hs.l1; have := hs.h1; have := hs.l2; have := hs.h2
    exact ⟨i64_of _ (by omega) (by omega), i64_of _ (by omega) (by omega)⟩
end
end Go.Proofs.Ythjnkpoalbddkaa
namespace Go.Proofs.Ythjnkpoalbddkaa
open Go.RowKit
/-- what Then comes to, of machines that may be -/
def ThRes (a b : Mach) (w : World) (e : Ending) (w' : World) : Prop :=
  (e = .returned (.tuple #[.agg #[.slice none 0 0, .slice none 0 0, .slice none 0 0, .slice none 0 0], .int .i64 80]) ∧ Below w.heap.size w w' ∧
    ((∃ m k c fl, RunI (stepT a b) (finT a b) (0, 0) (PairOk a b) (lgT b a) (lgE b a) m k c fl ∧ (k < m.all.length ∧ c ≤ 256 ∨ c = 0) ∧ m.bad = true) ∨ ¬ NoLong a b)) ∨
  (∃ m A0 A1 A2 A3 n0 n1 n2 n3 c0 c1 c2 c3 RA rc PA pc, e = .returned (.tuple #[.agg #[.slice A0 n0 c0, .slice A1 n1 c1, .slice A2 n2 c2, .slice A3 n3 c3], .int .i64 0]) ∧ Below w.heap.size w w' ∧
    RunI (stepT a b) (finT a b) (0, 0) (PairOk a b) (lgT b a) (lgE b a) m m.all.length 0 false ∧ m.bad = false ∧ MachIn w' A0 A1 A2 A3 n0 n1 n2 n3 m.mach RA rc PA pc)
theorem run_store_fn {P : Program} {w : World} {a : Addr} {m : Mode} (f : Fn) (x y : Array Value) : (store a (.func f x y) m).run P w = stored P w a (.func f x y) m := run_store P w a _ m rfl
attribute [local go_sem] run_store_fn
theorem pair_first {a b : Mach} (ha : RightM a) (hb : RightM b) : PairOk a b (0, 0) := ⟨by simp, by have := ha.lo; show 0 < a.next.length; omega, by simp, by have := hb.lo; show 0 < b.next.length; omega⟩
set_option maxRecDepth 100000 in
set_option maxHeartbeats 8000000 in
theorem tthen_ok (a b : Mach) (Aa Ab : Nat → Option Addr) (na nb ca cb : Nat → Nat) (RAa : Nat → Option Addr) (rca : Nat → Nat) (PAa : Nat → Option Addr) (pca : Nat → Nat) (RAb : Nat → Option Addr) (rcb : Nat → Nat) (PAb : Nat → Option Addr) (pcb : Nat → Nat) (w : World)
    (hma : MachIn w (Aa 0) (Aa 1) (Aa 2) (Aa 3) (na 0) (na 1) (na 2) (na 3) a RAa rca PAa pca) (hmb : MachIn w (Ab 0) (Ab 1) (Ab 2) (Ab 3) (nb 0) (nb 1) (nb 2) (nb 3) b RAb rcb PAb pcb) (ha : RightM a) (hb : RightM b) :
    Calls Try.prog 32 #[.agg #[.slice (Aa 0) (na 0) (ca 0), .slice (Aa 1) (na 1) (ca 1), .slice (Aa 2) (na 2) (ca 2), .slice (Aa 3) (na 3) (ca 3)], .agg #[.slice (Ab 0) (nb 0) (cb 0), .slice (Ab 1) (nb 1) (cb 1), .slice (Ab 2) (nb 2) (cb 2), .slice (Ab 3) (nb 3) (cb 3)]] w (ThRes a b w) := by
  obtain ⟨W1, hW1⟩ : ∃ W1, W1 = ((w.alloc (.cells #[.slice (Aa 0) (na 0) (ca 0), .slice (Aa 1) (na 1) (ca 1), .slice (Aa 2) (na 2) (ca 2), .slice (Aa 3) (na 3) (ca 3)] 42)).alloc (.cells #[.slice (Ab 0) (nb 0) (cb 0), .slice (Ab 1) (nb 1) (cb 1), .slice (Ab 2) (nb 2) (cb 2), .slice (Ab 3) (nb 3) (cb 3)] 42)).alloc (.cells MP.z4.toArray 42) := ⟨_, rfl⟩
  have hs1 : (w.alloc (.cells #[.slice (Aa 0) (na 0) (ca 0), .slice (Aa 1) (na 1) (ca 1), .slice (Aa 2) (na 2) (ca 2), .slice (Aa 3) (na 3) (ca 3)] 42)).heap.size = w.heap.size + 1 := by simp
  have hbel : Below w.heap.size w W1 := by rw [hW1]; exact (((Below.refl _ _).alloc (Nat.le_refl _) _).alloc (by simp) _).alloc (by simp; omega) _
  have hxa : Blk W1 w.heap.size 42 [.slice (Aa 0) (na 0) (ca 0), .slice (Aa 1) (na 1) (ca 1), .slice (Aa 2) (na 2) (ca 2), .slice (Aa 3) (na 3) (ca 3)] := by rw [hW1]; exact ((Blk.new w 42 _).alloc _).alloc _
  have hxb : Blk W1 (w.heap.size + 1) 42 [.slice (Ab 0) (nb 0) (cb 0), .slice (Ab 1) (nb 1) (cb 1), .slice (Ab 2) (nb 2) (cb 2), .slice (Ab 3) (nb 3) (cb 3)] := by
    rw [hW1]
    refine Blk.alloc ?_ _
    have := Blk.new (w.alloc (.cells #[.slice (Aa 0) (na 0) (ca 0), .slice (Aa 1) (na 1) (ca 1), .slice (Aa 2) (na 2) (ca 2), .slice (Aa 3) (na 3) (ca 3)] 42)) 42 [.slice (Ab 0) (nb 0) (cb 0), .slice (Ab 1) (nb 1) (cb 1), .slice (Ab 2) (nb 2) (cb 2), .slice (Ab 3) (nb 3) (cb 3)]
    rw [hs1] at this
    exact this
  have hxr : Blk W1 (w.heap.size + 1 + 1) 42 MP.z4 := by
    rw [hW1]
    have := Blk.new ((w.alloc (.cells #[.slice (Aa 0) (na 0) (ca 0), .slice (Aa 1) (na 1) (ca 1), .slice (Aa 2) (na 2) (ca 2), .slice (Aa 3) (na 3) (ca 3)] 42)).alloc (.cells #[.slice (Ab 0) (nb 0) (cb 0), .slice (Ab 1) (nb 1) (cb 1), .slice (Ab 2) (nb 2) (cb 2), .slice (Ab 3) (nb 3) (cb 3)] 42)) 42 MP.z4
    simpa using this
  have H0 := Lib.hid (And.intro hbel (And.intro hxa (And.intro hxb hxr)))
  have HA := Lib.hid (And.intro hma ha)
  have HB := Lib.hid (And.intro hmb hb)
  have a0 := hxa.cell 0
  have a1 := hxa.cell 1
  have a2 := hxa.cell 2
  have a3 := hxa.cell 3
  simp only [List.getElem?_cons_zero, List.getElem?_cons_succ] at a0 a1 a2 a3
  have HW1 := Lib.hid hW1
  clear hbel hxa hxb hxr hma ha hmb hb hs1 hW1
  go_enter Try.func32, Try.ntmps32
  go_upto_region 1 with (fail)
  rw [show ((w.alloc (.cells #[.slice (Aa 0) (na 0) (ca 0), .slice (Aa 1) (na 1) (ca 1), .slice (Aa 2) (na 2) (ca 2), .slice (Aa 3) (na 3) (ca 3)] 42)).alloc (.cells #[.slice (Ab 0) (nb 0) (cb 0), .slice (Ab 1) (nb 1) (cb 1), .slice (Ab 2) (nb 2) (cb 2), .slice (Ab 3) (nb 3) (cb 3)] 42)).alloc (.cells #[.slice none 0 0, .slice none 0 0, .slice none 0 0, .slice none 0 0] 42) = W1 from HW1.out.symm]
  clear HW1
  go_wp2_with fail
  refine (tright_any _ _ _ _ _ _ _ _ (ca 0) (ca 1) (ca 2) (ca 3) a RAa rca PAa pca _ (HA.out.1.keep H0.out.1)).mono ?_
  rw [rightM_yes HA.out.2]
  rintro e W2 ⟨rfl, hb2⟩
  have H2 := Lib.hid (And.intro (H0.out.1.trans (hb2.mono H0.out.1.size)) (And.intro (H0.out.2.1.below hb2 H0.out.2.1.lt) (And.intro (H0.out.2.2.1.below hb2 H0.out.2.2.1.lt) (H0.out.2.2.2.below hb2 H0.out.2.2.2.lt))))
  have b0 := H2.out.2.2.1.cell 0
  have b1 := H2.out.2.2.1.cell 1
  have b2 := H2.out.2.2.1.cell 2
  have b3 := H2.out.2.2.1.cell 3
  simp only [List.getElem?_cons_zero, List.getElem?_cons_succ] at b0 b1 b2 b3
  clear hb2 a0 a1 a2 a3 H0
  go_wp2_with fail
  refine (tright_any _ _ _ _ _ _ _ _ (cb 0) (cb 1) (cb 2) (cb 3) b RAb rcb PAb pcb _ (HB.out.1.keep H2.out.1)).mono ?_
  rw [rightM_yes HB.out.2]
  rintro e W3 ⟨rfl, hb3⟩
  have H3 := Lib.hid (And.intro (H2.out.1.trans (hb3.mono H2.out.1.size)) (And.intro (H2.out.2.1.below hb3 H2.out.2.1.lt) (And.intro (H2.out.2.2.1.below hb3 H2.out.2.2.1.lt) (H2.out.2.2.2.below hb3 H2.out.2.2.2.lt))))
  clear hb3 b0 b1 b2 b3 H2
  go_upto_region 5 with (fail)
  obtain ⟨W4, hW4⟩ : ∃ W4, W4 = (W3.alloc (.cells #[.bool false] 4)).alloc (.cells #[.func (.func 53) #[] #[.pointer (some ⟨w.heap.size + 1, 0, none⟩), .pointer (some ⟨W3.heap.size, 0, none⟩)]] 86) := ⟨_, rfl⟩
  have hb4 : Below W3.heap.size W3 W4 := by rw [hW4]; exact ((Below.refl _ _).alloc (Nat.le_refl _) _).alloc (by simp) _
  have hxL : Blk W4 W3.heap.size 4 [.bool false] := by rw [hW4]; exact (Blk.new W3 4 _).alloc _
  have hxf : Blk W4 (W3.heap.size + 1) 86 [.func (.func 53) #[] #[.pointer (some ⟨w.heap.size + 1, 0, none⟩), .pointer (some ⟨W3.heap.size, 0, none⟩)]] := by
    rw [hW4]
    have := Blk.new (W3.alloc (.cells #[.bool false] 4)) 86 [.func (.func 53) #[] #[.pointer (some ⟨w.heap.size + 1, 0, none⟩), .pointer (some ⟨W3.heap.size, 0, none⟩)]]
    simpa using this
  have hctx : TCtx w a b Aa Ab na nb ca cb RAa rca PAa pca RAb rcb PAb pcb w.heap.size (w.heap.size + 1) W3.heap.size (W3.heap.size + 1) false W4 :=
    ⟨H3.out.1.trans (hb4.mono H3.out.1.size), HA.out.1, HB.out.1, HA.out.2, HB.out.2, H3.out.2.1.below hb4 H3.out.2.1.lt, H3.out.2.2.1.below hb4 H3.out.2.2.1.lt, hxL, hxf, Nat.le_refl _, by omega, H3.out.1.size, by have := H3.out.1.size; omega⟩
  have HC := Lib.hid (And.intro hctx (H3.out.2.2.2.below hb4 H3.out.2.2.2.lt))
  rw [← hW4]
  clear hb4 hxL hxf hctx
  obtain ⟨bL, hbL⟩ : ∃ bL, bL = W3.heap.size := ⟨_, rfl⟩
  obtain ⟨bf, hbf⟩ : ∃ bf, bf = W3.heap.size + 1 := ⟨_, rfl⟩
  obtain ⟨ba, hba⟩ : ∃ ba, ba = w.heap.size := ⟨_, rfl⟩
  obtain ⟨bb, hbb⟩ : ∃ bb, bb = w.heap.size + 1 := ⟨_, rfl⟩
  obtain ⟨gr, hgr⟩ : ∃ gr, gr = w.heap.size + 1 + 1 := ⟨_, rfl⟩
  rw [← hbf, ← hbL, ← hgr, ← hbb] at HC ⊢
  have HC : Hid (TCtx w a b Aa Ab na nb ca cb RAa rca PAa pca RAb rcb PAb pcb ba bb bL bf false W4 ∧ Blk W4 gr 42 MP.z4) := hba ▸ HC
  rw [← hba]
  have HG := Lib.hid hgr
  clear hbL hbf hba hbb hgr hW4 H3
  have HMD := Lib.hid (MP.made_any W4 (0, 0) ⟨i64_of 0 (by omega) (by omega), i64_of 0 (by omega) (by omega)⟩)
  go_wp2_with fail
  refine HMD.out.mono ?_
  rintro e W5 ⟨bk, va, vt, gno, gtx, D1, D2, rfl, hb5, hmk⟩
  have hl1 := HC.out.1.xa.lt
  have hl2 := HC.out.1.xb.lt
  have hl3 := HC.out.1.xL.lt
  have hl4 := HC.out.1.xf.lt
  have hl5 := HC.out.2.lt
  have henv := then_env (w0 := w) (a := a) (b := b) (Aa := Aa) (Ab := Ab) (na := na) (nb := nb) (ca := ca) (cb := cb) (RAa := RAa) (rca := rca) (PAa := PAa) (pca := pca) (RAb := RAb) (rcb := rcb) (PAb := PAb) (pcb := pcb) HA.out.2 HB.out.2 HC.out.1.bel.size hl1 hl2 hl3 hl4 hl5
  have hst := RunI.start (step := stepT a b) (fin := finT a b) (lg := lgT b a) (lge := lgE b a) (pair_first HA.out.2 HB.out.2)
  have hl6 : (MP.mk0 (0, 0)).all.length ≤ 1200 := by unfold MP.mk0; rw [addT_all]; have := addS_len MP.mkE ((0, 0) : Int × Int); simp [MP.mkE] at this ⊢; omega
  have hl7 : (MP.mk0 (0, 0)).texts.length ≤ 4097 := by unfold MP.mk0; have := addT_len (MP.mkE.addS ((0, 0) : Int × Int)) []; rw [addS_texts] at this; simp [MP.mkE] at this ⊢; omega
  have HRN := Lib.hid (MP.run_any W4.heap.size bk _ _ _ _ _ _ _ _ _ _ gno gtx henv W5 (MP.mk0 (0, 0)) false _ _ _ vt va D1 D2 _ _ hst hmk ⟨HC.out.1.go hb5, fun _ => rfl, HC.out.2.below hb5 hl5⟩ hl6 hl7)
  clear hb5 hmk henv hst hl6 hl7 HMD
  go_wp2_with fail
  refine HRN.out.mono ?_
  rintro e W6 h6
  rcases h6 with ⟨m, k, c, fl, rfl, hrn, hkc, hbad, hcx⟩ | ⟨m, fl, vn, vp, ve, vt, va, D1, D2, RN, RP, rfl, hrn, hmk, hcx, hbad⟩
  · have HRN := Lib.hid (And.intro hrn (And.intro hkc hbad))
    have HX := Lib.hid (And.intro (hcx.1.go ((Below.refl W6.heap.size W6).alloc (Nat.le_refl _) (.cells #[.slice none 0 0, .slice none 0 0, .slice none 0 0, .slice none 0 0] 42))) (hcx.2.2.alloc (.cells #[.slice none 0 0, .slice none 0 0, .slice none 0 0, .slice none 0 0] 42)))
    have HN := Lib.hid hcx.2.1
    have l0 := HX.out.1.xL.cell 0
    have r0 := HX.out.2.cell 0
    have r1 := HX.out.2.cell 1
    have r2 := HX.out.2.cell 2
    have r3 := HX.out.2.cell 3
    have e0 := HX.out.2.frozen 0
    have e1 := HX.out.2.frozen 1
    have e2 := HX.out.2.frozen 2
    have e3 := HX.out.2.frozen 3
    simp only [MP.z4, List.getElem?_cons_zero, List.getElem?_cons_succ] at l0 r0 r1 r2 r3
    clear hcx hrn hkc hbad
    have HZ := Lib.hid (MP.four_set HX.out.2 (.slice none 0 0) (.slice none 0 0) (.slice none 0 0) (.slice none 0 0))
    have hgrw : w.heap.size ≤ gr := by rw [HG.out]; omega
    have HBL := Lib.hid (HX.out.1.bel.trans (HZ.out.2.below HX.out.1.bel.size (fun k hk => by rw [hk]; exact hgrw)))
    clear hgrw
    cases fl
    all_goals
      go_wp2_with fail
      refine bodyPost_ret (MP.res_mach rfl _ rfl HZ.out.1) rfl ?_
      exact .inl ⟨rfl, HBL.out, .inl ⟨m, k, c, _, HRN.out.1, HRN.out.2.1, HRN.out.2.2⟩⟩
  · obtain ⟨A0, c0, hvn⟩ := own_sl hmk.nx.own
    obtain ⟨A1, c1, hvp⟩ := own_sl hmk.pt.own
    obtain ⟨A2, c2, hve⟩ := own_sl hmk.oe
    obtain ⟨A3, c3, hvt⟩ := own_sl hmk.ot
    subst hvn hvp hve hvt
    have HRN := Lib.hid (And.intro hrn hbad)
    have HMK := Lib.hid (hmk.alloc (.cells #[.slice A0 m.next.length c0, .slice A1 m.put.length c1, .slice A2 m.ends.length c2, .slice A3 m.texts.length c3] 42))
    have HBX := Lib.hid (Blk.new W6 42 [.slice A0 m.next.length c0, .slice A1 m.put.length c1, .slice A2 m.ends.length c2, .slice A3 m.texts.length c3])
    have HX := Lib.hid (And.intro (hcx.1.go ((Below.refl W6.heap.size W6).alloc (Nat.le_refl _) (.cells #[.slice A0 m.next.length c0, .slice A1 m.put.length c1, .slice A2 m.ends.length c2, .slice A3 m.texts.length c3] 42))) (hcx.2.2.alloc (.cells #[.slice A0 m.next.length c0, .slice A1 m.put.length c1, .slice A2 m.ends.length c2, .slice A3 m.texts.length c3] 42)))
    have HN := Lib.hid hcx.2.1
    have l0 := HX.out.1.xL.cell 0
    have r0 := HX.out.2.cell 0
    have r1 := HX.out.2.cell 1
    have r2 := HX.out.2.cell 2
    have r3 := HX.out.2.cell 3
    have e0 := HX.out.2.frozen 0
    have e1 := HX.out.2.frozen 1
    have e2 := HX.out.2.frozen 2
    have e3 := HX.out.2.frozen 3
    simp only [MP.z4, List.getElem?_cons_zero, List.getElem?_cons_succ] at l0 r0 r1 r2 r3
    have x0 := HBX.out.cell 0
    have x1 := HBX.out.cell 1
    have x2 := HBX.out.cell 2
    have x3 := HBX.out.cell 3
    simp only [List.getElem?_cons_zero, List.getElem?_cons_succ] at x0 x1 x2 x3
    have hgrw : w.heap.size ≤ gr := by rw [HG.out]; omega
    have HGW := Lib.hid hgrw
    clear hcx hrn hbad hmk hgrw
    cases fl with
    | true =>
      have HZ := Lib.hid (MP.four_set HX.out.2 (.slice none 0 0) (.slice none 0 0) (.slice none 0 0) (.slice none 0 0))
      have HBL := Lib.hid (HX.out.1.bel.trans (HZ.out.2.below HX.out.1.bel.size (fun k hk => by rw [hk]; exact HGW.out)))
      go_wp2_with fail
      refine bodyPost_ret (MP.res_mach rfl _ rfl HZ.out.1) rfl ?_
      exact .inl ⟨rfl, HBL.out, .inr (fun hn => by have := HN.out hn; cases this)⟩
    | false =>
      have HZ := Lib.hid (MP.four_set HX.out.2 (.slice A0 m.next.length c0) (.slice A1 m.put.length c1) (.slice A2 m.ends.length c2) (.slice A3 m.texts.length c3))
      have HBL := Lib.hid (HX.out.1.bel.trans (HZ.out.2.below HX.out.1.bel.size (fun k hk => by rw [hk]; exact HGW.out)))
      have hf := MP.fits_of HRN.out.1.ok HRN.out.2
      have e1 := HRN.out.1.ok.nl
      have e2 := HRN.out.1.ok.pl
      have e3 := HRN.out.1.ok.el
      have hmm := (HMK.out.but HZ.out.2 (fun k hk => by have := hl5; omega)).mach rfl rfl rfl rfl (by omega) (by omega) (by omega) (by omega)
      have HMM := Lib.hid hmm
      clear hmm hf e1 e2 e3
      have e1 := HX.out.2.frozen 1
      have e2 := HX.out.2.frozen 2
      have e3 := HX.out.2.frozen 3
      go_wp2_with fail
      refine bodyPost_ret (MP.res_mach rfl _ rfl HZ.out.1) rfl ?_
      exact .inr ⟨m, A0, A1, A2, A3, _, _, _, _, c0, c1, c2, c3, _, _, _, _, rfl, HBL.out, HRN.out.1, HRN.out.2, HMM.out⟩
end Go.Proofs.Ythjnkpoalbddkaa
