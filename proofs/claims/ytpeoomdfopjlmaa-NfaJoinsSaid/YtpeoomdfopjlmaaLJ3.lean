/- NfaJoins, with the trees and the text laid open. -/
import Derived.Test.YtpeoomdfopjlmaaLJ2
import Derived.BigRegion
import Derived.Deep.Cut
import Derived.Deep.CutRange
import Derived.Deep.CutBlock
namespace Go.Proofs.Ytpeoomdfopjlmaa
open Go.RowKit
attribute [local go_sem ↓] Go.wp_at_zero Go.wp_at_succ

/-- an automaton in a box -/
structure NB (w : World) (g : Nat) (S a z : Int) (E : List Ed) (A : Option Addr) (m c : Nat) : Prop where
  box : Blk w g 31 [.int .i64 S, .int .i64 a, .int .i64 z, .slice A m c]
  nfa : NfaIn w A m ⟨S, a, z, E⟩
theorem NB.keep {w w' : World} {g : Nat} {S a z : Int} {E : List Ed} {A : Option Addr} {m c : Nat} (h : NB w g S a z E A m c) (hb : Below w.heap.size w w') : NB w' g S a z E A m c := ⟨h.box.below hb h.box.lt, h.nfa.keep hb⟩
theorem NB.new {w : World} {S a z : Int} {E : List Ed} {A : Option Addr} {m c : Nat} (h : NfaIn w A m ⟨S, a, z, E⟩) : NB (w.alloc (.cells #[.int .i64 S, .int .i64 a, .int .i64 z, .slice A m c] 31)) w.heap.size S a z E A m c :=
  ⟨Blk.new w 31 _, h.keep ((Below.refl _ _).alloc (Nat.le_refl _) _)⟩
theorem NB.cells {w : World} {g : Nat} {S a z : Int} {E : List Ed} {A : Option Addr} {m c : Nat} (h : NB w g S a z E A m c) : w.cell? ⟨g, 0, none⟩ = some (.int .i64 S) ∧ w.cell? ⟨g, 1, none⟩ = some (.int .i64 a) ∧ w.cell? ⟨g, 2, none⟩ = some (.int .i64 z) ∧ w.cell? ⟨g, 3, none⟩ = some (.slice A m c) :=
  ⟨h.box.cell 0, h.box.cell 1, h.box.cell 2, h.box.cell 3⟩
/-- the two trees in their boxes -/
structure JB (W : World) (a b : Tr) (A B : Option Addr) (n m c d : Nat) (w : World) : Prop where
  bel : Below W.heap.size W w
  ba : Blk w W.heap.size 28 (reV a A n c)
  bb : Blk w (W.heap.size + 1) 28 (reV b B m d)
  ta : TrIn w a A n
  tb : TrIn w b B m
section
variable {W w w' : World} {a b : Tr} {A B : Option Addr} {n m c d : Nat}
theorem JB.keep (h : JB W a b A B n m c d w) (hb : Below w.heap.size w w') : JB W a b A B n m c d w' :=
  ⟨h.bel.trans (hb.mono h.bel.size), h.ba.below hb h.ba.lt, h.bb.below hb h.bb.lt, h.ta.keep hb, h.tb.keep hb⟩
theorem JB.ca (h : JB W a b A B n m c d w) : w.cell? ⟨W.heap.size, 0, none⟩ = some (.int .i64 a.kind) ∧ w.cell? ⟨W.heap.size, 1, none⟩ = some (.int .u64 a.s0) ∧ w.cell? ⟨W.heap.size, 2, none⟩ = some (.int .u64 a.s1) ∧ w.cell? ⟨W.heap.size, 3, none⟩ = some (.int .u64 a.s2) ∧ w.cell? ⟨W.heap.size, 4, none⟩ = some (.int .u64 a.s3) ∧ w.cell? ⟨W.heap.size, 5, none⟩ = some (.int .i64 a.lo) ∧ w.cell? ⟨W.heap.size, 6, none⟩ = some (.int .i64 a.hi) ∧ w.cell? ⟨W.heap.size, 7, none⟩ = some (.slice A n c) :=
  ⟨h.ba.cell 0, h.ba.cell 1, h.ba.cell 2, h.ba.cell 3, h.ba.cell 4, h.ba.cell 5, h.ba.cell 6, h.ba.cell 7⟩
theorem JB.cb (h : JB W a b A B n m c d w) : w.cell? ⟨W.heap.size + 1, 0, none⟩ = some (.int .i64 b.kind) ∧ w.cell? ⟨W.heap.size + 1, 1, none⟩ = some (.int .u64 b.s0) ∧ w.cell? ⟨W.heap.size + 1, 2, none⟩ = some (.int .u64 b.s1) ∧ w.cell? ⟨W.heap.size + 1, 3, none⟩ = some (.int .u64 b.s2) ∧ w.cell? ⟨W.heap.size + 1, 4, none⟩ = some (.int .u64 b.s3) ∧ w.cell? ⟨W.heap.size + 1, 5, none⟩ = some (.int .i64 b.lo) ∧ w.cell? ⟨W.heap.size + 1, 6, none⟩ = some (.int .i64 b.hi) ∧ w.cell? ⟨W.heap.size + 1, 7, none⟩ = some (.slice B m d) :=
  ⟨h.bb.cell 0, h.bb.cell 1, h.bb.cell 2, h.bb.cell 3, h.bb.cell 4, h.bb.cell 5, h.bb.cell 6, h.bb.cell 7⟩
theorem JB.start (ha : TrIn W a A n) (hb : TrIn W b B m) : JB W a b A B n m c d ((W.alloc (tbox a A n c)).alloc (tbox b B m d)) := by
  have h0 : Below W.heap.size W ((W.alloc (tbox a A n c)).alloc (tbox b B m d)) := ((Below.refl _ _).alloc (Nat.le_refl _) _).alloc (by simp) _
  refine ⟨h0, (Blk.new W 28 (reV a A n c)).alloc _, ?_, ha.keep h0, hb.keep h0⟩
  have := Blk.new (W.alloc (tbox a A n c)) 28 (reV b B m d)
  rwa [World.size_alloc] at this
end

/-- the three rows of marks, and whether all is well -/
structure JW (w0 : World) (ge gb gr gk L : Nat) (E B R : Nat → Bool) (w : World) : Prop where
  bel : Below w0.heap.size w0 w
  e : Blk w ge 4 (rowB E L)
  b : Blk w gb 4 (rowB B L)
  r : Blk w gr 4 (rowB R L)
  k : Blk w gk 4 [.bool true]
structure JD (w0 : World) (ge gb gr gk : Nat) : Prop where
  eb : ge ≠ gb
  er : ge ≠ gr
  br : gb ≠ gr
  ek : ge ≠ gk
  bk : gb ≠ gk
  rk : gr ≠ gk
  le : w0.heap.size ≤ ge
  lb : w0.heap.size ≤ gb
  lr : w0.heap.size ≤ gr
/-- a list of places, read only, that is none of the rows -/
def AL (ge gb gr : Nat) (w : World) (A : Option Addr) (n : Nat) (l : List Int) : Prop :=
  Arr w w.heap.size 1 A n (NumC .i64 l) ∧ (0 < n → ∀ x, A = some x → x.block ≠ ge ∧ x.block ≠ gb ∧ x.block ≠ gr)
section
variable {w0 w w' : World} {ge gb gr gk L q : Nat} {E B R : Nat → Bool} {A : Option Addr} {n : Nat} {l : List Int}
theorem JW.call (h : JW w0 ge gb gr gk L E B R w) (hb : Below w.heap.size w w') : JW w0 ge gb gr gk L E B R w' :=
  ⟨h.bel.trans (hb.mono h.bel.size), h.e.below hb h.e.lt, h.b.below hb h.b.lt, h.r.below hb h.r.lt, h.k.below hb h.k.lt⟩
theorem JW.me (h : JW w0 ge gb gr gk L E B R w) (d : JD w0 ge gb gr gk) : JW w0 ge gb gr gk L (updB E q true) B R (w.setCell ⟨ge, q, none⟩ (.bool true)) :=
  ⟨below_setCell_same h.bel d.le _, h.e.putB q true, h.b.other d.eb.symm _ _, h.r.other d.er.symm _ _, h.k.other d.ek.symm _ _⟩
theorem JW.mb (h : JW w0 ge gb gr gk L E B R w) (d : JD w0 ge gb gr gk) : JW w0 ge gb gr gk L E (updB B q true) R (w.setCell ⟨gb, q, none⟩ (.bool true)) :=
  ⟨below_setCell_same h.bel d.lb _, h.e.other d.eb _ _, h.b.putB q true, h.r.other d.br.symm _ _, h.k.other d.bk.symm _ _⟩
theorem JW.mr (h : JW w0 ge gb gr gk L E B R w) (d : JD w0 ge gb gr gk) : JW w0 ge gb gr gk L E B (updB R q true) (w.setCell ⟨gr, q, none⟩ (.bool true)) :=
  ⟨below_setCell_same h.bel d.lr _, h.e.other d.er _ _, h.b.other d.br _ _, h.r.putB q true, h.k.other d.rk.symm _ _⟩
theorem arr_apart {g : Nat} {X : Nat → Bool} (h : Arr w w.heap.size 1 A n (NumC .i64 l)) (hb : Blk w g 4 (rowB X L)) (hn : 0 < n) (x : Addr) (hx : A = some x) : x.block ≠ g := by
  intro e
  obtain ⟨b, off, hA, _, hc⟩ := h hn
  rw [hx] at hA
  cases hA
  have h1 := hc 0 0 hn (by omega)
  have e : b = g := e
  rw [e, hb.cell] at h1
  by_cases hl : off + (0 * 1 + 0) < L
  · rw [rowB_get _ hl] at h1; cases h1
  · rw [List.getElem?_eq_none (by rw [rowB_len]; omega)] at h1; cases h1
theorem AL.of (h : Arr w w.heap.size 1 A n (NumC .i64 l)) (j : JW w0 ge gb gr gk L E B R w) : AL ge gb gr w A n l := ⟨h, fun hn x hx => ⟨arr_apart h j.e hn x hx, arr_apart h j.b hn x hx, arr_apart h j.r hn x hx⟩⟩
theorem AL.call (h : AL ge gb gr w A n l) (hb : Below w.heap.size w w') : AL ge gb gr w' A n l := ⟨(h.1.below hb).more hb.size, h.2⟩
theorem AL.mark (h : AL ge gb gr w A n l) {g : Nat} (hg : g = ge ∨ g = gb ∨ g = gr) (k : Nat) (v : Value) : AL ge gb gr (w.setCell ⟨g, k, none⟩ v) A n l :=
  ⟨(h.1.keepB (fun x hx hn => Below.heap_setCell _ _ _ _ (by
    have := h.2 hn x hx
    rcases hg with rfl | rfl | rfl
    · exact this.1
    · exact this.2.1
    · exact this.2.2))).more (by simp), h.2⟩
theorem AL.at_ (h : AL ge gb gr w A n l) {k : Nat} (hk : k < n) : ∃ b off, A = some ⟨b, off, none⟩ ∧ w.cell? ⟨b, off + k, none⟩ = some (.int .i64 (l.getD k 0)) := by
  obtain ⟨b, off, h1, _, h2⟩ := h.1.one hk
  exact ⟨b, off, h1, h2⟩
end
theorem ends_t {t : Tr} {S : Nat} {E : List Ed} (hm : Made t S E) (s : ByteArray) (hs : s.size ≤ 40) (p : Nat) (hp : p ≤ s.size) (A : Option Addr) (m c : Nat) (w : World) (h : NfaIn w A m ⟨(S : Int), 0, 1, E⟩) :
    Calls Try.prog 10 #[.agg #[.int .i64 (S : Int), .int .i64 0, .int .i64 1, .slice A m c], .string s, .int .i64 (p : Int)] w fun e w' => ∃ A9 c9, e = .returned (.slice A9 (endsT s t p).length c9) ∧ Arr w' w'.heap.size 1 A9 (endsT s t p).length (NumC .i64 (endsT s t p)) ∧ Below w.heap.size w w' := by
  have := ends_ok A m c S 0 1 E s p w h hm.right hm.wf hp (by omega)
  rw [hm.ends s p] at this
  exact this
theorem ends_0 {t : Tr} {S : Nat} {E : List Ed} (hm : Made t S E) (s : ByteArray) (hs : s.size ≤ 40) (A : Option Addr) (m c : Nat) (w : World) (h : NfaIn w A m ⟨(S : Int), 0, 1, E⟩) :
    Calls Try.prog 10 #[.agg #[.int .i64 (S : Int), .int .i64 0, .int .i64 1, .slice A m c], .string s, .int .i64 0] w fun e w' => ∃ A9 c9, e = .returned (.slice A9 (endsT s t 0).length c9) ∧ Arr w' w'.heap.size 1 A9 (endsT s t 0).length (NumC .i64 (endsT s t 0)) ∧ Below w.heap.size w w' :=
  ends_t hm s hs 0 (Nat.zero_le _) A m c w h
/-- behind: what the second takes behind what the first takes -/
def Beh (K : Lg) (l : List Int) (O : Nat → Bool) : Prop := ∀ j : Nat, O j = true ↔ ∃ x : Nat, (x : Int) ∈ l ∧ K x j
theorem Beh.nil (K : Lg) : Beh K [] (fun _ => false) := fun j => by simp
theorem Beh.next {s : ByteArray} {t : Tr} {l : List Int} {k q : Nat} {O O' : Nat → Bool} (hsh : Shp t) (h : Beh (t.lang s) (l.take k) O) (hk : k < l.length) (hq : l.getD k 0 = (q : Int)) (hqs : q ≤ s.size) (hp : Plus O (endsT s t q) O') : Beh (t.lang s) (l.take (k + 1)) O' := fun j => by
  rw [hp j, h j, take_next l k 0 hk, hq, mem_endsT hsh hqs]
  constructor
  · rintro (⟨x, h1, h2⟩ | ⟨y, h1, h2⟩)
    · exact ⟨x, List.mem_append.2 (.inl h1), h2⟩
    · obtain rfl : j = y := by omega
      exact ⟨q, by simp, h2⟩
  · rintro ⟨x, h1, h2⟩
    rcases List.mem_append.1 h1 with h9 | h9
    · exact .inl ⟨x, h9, h2⟩
    · have : (x : Int) = (q : Int) := by simpa using h9
      obtain rfl : x = q := by omega
      exact .inr ⟨j, rfl, h2⟩

theorem three_made (w : World) (L g0 g1 g2 : Nat) (h0 : g0 = w.heap.size) (h1 : g1 = w.heap.size + 1) (h2 : g2 = w.heap.size + 2) :
    let w' := ((w.drew.alloc (.cells (Array.replicate L (.bool false)) 4)).alloc (.cells (Array.replicate L (.bool false)) 4)).alloc (.cells (Array.replicate L (.bool false)) 4)
    Blk w' g0 4 (rowB (fun _ => false) L) ∧ Blk w' g1 4 (rowB (fun _ => false) L) ∧ Blk w' g2 4 (rowB (fun _ => false) L) ∧ Below w.heap.size w w' := by
  subst h0 h1 h2
  refine ⟨((blk_madeB w.drew L).alloc _).alloc _, ?_, ?_, ((((Below.refl _ _).drew).alloc (Nat.le_refl _) _).alloc (by simp) _).alloc (by simp; omega) _⟩
  · have := (blk_madeB (w.drew.alloc (.cells (Array.replicate L (.bool false)) 4)) L).alloc (.cells (Array.replicate L (.bool false)) 4)
    rw [World.size_alloc] at this
    exact this
  · have := blk_madeB ((w.drew.alloc (.cells (Array.replicate L (.bool false)) 4)).alloc (.cells (Array.replicate L (.bool false)) 4)) L
    rw [World.size_alloc, World.size_alloc] at this
    exact this

set_option maxRecDepth 100000 in
set_option maxHeartbeats 32000000 in
theorem law_joins (a : Tr) (A : Option Addr) (n c : Nat) (b : Tr) (B : Option Addr) (m d : Nat) (s : ByteArray) (W : World) (hta : TrIn W a A n) (hwa : TrWf a) (htb : TrIn W b B m) (hwb : TrWf b) :
    Calls Try.prog 4 #[.agg #[.int .i64 a.kind, .int .u64 a.s0, .int .u64 a.s1, .int .u64 a.s2, .int .u64 a.s3, .int .i64 a.lo, .int .i64 a.hi, .slice A n c], .agg #[.int .i64 b.kind, .int .u64 b.s0, .int .u64 b.s1, .int .u64 b.s2, .int .u64 b.s3, .int .i64 b.lo, .int .i64 b.hi, .slice B m d], .string s] W fun e w' => e = .returned (.bool true) ∧ Below W.heap.size W w' := by
  have J1 := Lib.hid (JB.start (c := c) (d := d) hta htb)
  have HBA := Lib.hid (fun w (h : TrIn w a A n) => builds a A n c w h hwa)
  have HBB := Lib.hid (fun w (h : TrIn w b B m) => builds b B m d w h hwb)
  have HWF := Lib.hid (And.intro hwa hwb)
  have hcs := cutS_le s 40
  have HSS := Lib.hid (fun W => short_any s 40 (by omega) W)
  obtain ⟨s', hs'⟩ : ∃ s', s' = cutS s 40 := ⟨_, rfl⟩
  rw [← hs'] at hcs HSS
  clear hs' hta htb hwa hwb
  go_enter Try.func4, Try.ntmps4
  go_upto_region 2 with (go_at_call 9; refine (HSS.out _).mono ?_; rintro e w5 ⟨rfl, rfl⟩)
  generalize (W.alloc (tbox a A n c)).alloc (tbox b B m d) = w1 at J1 ⊢
  obtain ⟨q0, q1, q2, q3, q4, q5, q6, q7⟩ := J1.out.ca
  go_upto_region 3 with (go_at_call 5; refine (HBA.out _ J1.out.ta).mono ?_; rintro e w2 ⟨⟨Sx, ax, zx, ex, Ex, Ax, mx, cx, rfl, hn, hok, _⟩, hb2⟩; have N2 := Lib.hid (And.intro (NB.new (c := cx) hn) hok); have J2 := Lib.hid ((J1.out.keep hb2).keep ((Below.refl _ _).alloc (Nat.le_refl _) (.cells #[.int .i64 Sx, .int .i64 ax, .int .i64 zx, .slice Ax mx cx] 31))); clear hn hok hb2)
  clear q0 q1 q2 q3 q4 q5 q6 q7 J1
  obtain ⟨gx, hgx⟩ : ∃ gx, gx = w2.heap.size := ⟨_, rfl⟩
  rw [← hgx] at N2 ⊢
  generalize w2.alloc (.cells #[.int .i64 Sx, .int .i64 ax, .int .i64 zx, .slice Ax mx cx] 31) = w3 at N2 J2 ⊢
  clear hgx
  obtain ⟨q0, q1, q2, q3, q4, q5, q6, q7⟩ := J2.out.cb
  go_upto_region 4 with (go_at_call 5; refine (HBB.out _ J2.out.tb).mono ?_; rintro e w4 ⟨⟨Sy, ay, zy, ey, Ey, Ay, my, cy, rfl, hn, hok, _⟩, hb2⟩; have N4 := Lib.hid (And.intro (NB.new (c := cy) hn) hok); have X4 := Lib.hid ((N2.out.1.keep hb2).keep ((Below.refl _ _).alloc (Nat.le_refl _) (.cells #[.int .i64 Sy, .int .i64 ay, .int .i64 zy, .slice Ay my cy] 31))); have J4 := Lib.hid ((J2.out.keep hb2).keep ((Below.refl _ _).alloc (Nat.le_refl _) (.cells #[.int .i64 Sy, .int .i64 ay, .int .i64 zy, .slice Ay my cy] 31))); clear hn hok hb2)
  clear q0 q1 q2 q3 q4 q5 q6 q7 J2
  obtain ⟨gy, hgy⟩ : ∃ gy, gy = w4.heap.size := ⟨_, rfl⟩
  rw [← hgy] at N4 ⊢
  generalize w4.alloc (.cells #[.int .i64 Sy, .int .i64 ay, .int .i64 zy, .slice Ay my cy] 31) = w5 at N4 X4 J4 ⊢
  clear hgy HBA HBB
  have HX := Lib.hid N2.out.2
  have HY := Lib.hid N4.out.2
  have Y4 := Lib.hid N4.out.1
  clear N2 N4
  obtain ⟨q0, q1, q2, q3, q4, q5, q6, q7⟩ := J4.out.ca
  obtain ⟨r0, r1, r2, r3, r4, r5, r6, r7⟩ := J4.out.cb
  by_cases h0 : ex ≠ 0
  · have k0 : (ex != 0) = true := by simpa using h0
    clear h0
    go_wp2_with fail
    go_returns
    exact ⟨by first | rfl | simp, J4.out.bel⟩
  have k0 : (ex != 0) = false := by simpa using h0
  by_cases h1 : ey ≠ 0
  · have k1 : (ey != 0) = true := by simpa using h1
    clear h1
    go_wp2_with fail
    go_returns
    exact ⟨by first | rfl | simp, J4.out.bel⟩
  have k1 : (ey != 0) = false := by simpa using h1
  obtain rfl : ex = 0 := by simpa using h0
  obtain rfl : ey = 0 := by simpa using h1
  obtain ⟨hra, Nx, rfl, rfl, rfl, hmx⟩ := HX.out rfl
  obtain ⟨hrb, Ny, rfl, rfl, rfl, hmy⟩ := HY.out rfl
  have HMX := Lib.hid (And.intro hra hmx)
  have HMY := Lib.hid (And.intro hrb hmy)
  clear hra hmx hrb hmy HX HY k0 k1 h0 h1
  by_cases h2 : a.kind = 3
  · have k2 : (a.kind == 3) = true := by simpa using h2
    clear h2
    go_wp2_with fail
    go_returns
    exact ⟨by first | rfl | simp, J4.out.bel⟩
  have k2 : (a.kind == 3) = false := by simpa using h2
  by_cases h3 : b.kind = 3
  · have k3 : (b.kind == 3) = true := by simpa using h3
    clear h3
    go_wp2_with fail
    go_returns
    exact ⟨by first | rfl | simp, J4.out.bel⟩
  have k3 : (b.kind == 3) = false := by simpa using h3
  by_cases h4 : a.kind = 2
  · have k4 : (a.kind == 2) = true := by simpa using h4
    clear h4
    go_wp2_with fail
    go_returns
    exact ⟨by first | rfl | simp, J4.out.bel⟩
  have k4 : (a.kind == 2) = false := by simpa using h4
  by_cases h5 : b.kind = 2
  · have k5 : (b.kind == 2) = true := by simpa using h5
    clear h5
    go_wp2_with fail
    go_returns
    exact ⟨by first | rfl | simp, J4.out.bel⟩
  have k5 : (b.kind == 2) = false := by simpa using h5
  have HK := Lib.hid (And.intro (And.intro h2 h4) (And.intro h3 h5))
  clear h2 h3 h4 h5
  have HSA := Lib.hid (wrong_shp HMX.out.1).1
  have HSB := Lib.hid (wrong_shp HMY.out.1).1
  have HDA := Lib.hid (fun w (h : TrIn w a A n) => rdeep_any a 29 A n c w (by omega) (by omega) h)
  have HDB := Lib.hid (fun w (h : TrIn w b B m) => rdeep_any b 29 B m d w (by omega) (by omega) h)
  have HNA := Lib.hid (fun w (h : TrIn w a A n) => rnodes_any a 200 A n c w (by omega) (by omega) h)
  have HNB := Lib.hid (fun w (h : TrIn w b B m) => rnodes_any b 200 B m d w (by omega) (by omega) h)
  have HZA := Lib.hid (fun w (h : TrIn w a A n) => size_any a 400 A n c w (by omega) (by omega) HSA.out h)
  have HZB := Lib.hid (fun w (h : TrIn w b B m) => size_any b 400 B m d w (by omega) (by omega) HSB.out h)
  obtain ⟨da, hda⟩ : ∃ x, x = min a.height 29 := ⟨_, rfl⟩
  obtain ⟨db, hdb⟩ : ∃ x, x = min b.height 29 := ⟨_, rfl⟩
  obtain ⟨na, hna⟩ : ∃ x, x = min a.nodes 200 := ⟨_, rfl⟩
  obtain ⟨nb, hnb⟩ : ∃ x, x = min b.nodes 200 := ⟨_, rfl⟩
  obtain ⟨za, hza⟩ : ∃ x, x = min a.size 400 := ⟨_, rfl⟩
  obtain ⟨zb, hzb⟩ : ∃ x, x = min b.size 400 := ⟨_, rfl⟩
  rw [← hda] at HDA
  rw [← hdb] at HDB
  rw [← hna] at HNA
  rw [← hnb] at HNB
  rw [← hza] at HZA
  rw [← hzb] at HZB
  have HD := Lib.hid (And.intro (And.intro hda hdb) (And.intro (And.intro hna hnb) (And.intro hza hzb)))
  clear hda hdb hna hnb hza hzb
  by_cases t0 : 29 ≤ da
  · have u0 : decide (29 ≤ (da : Int)) = true := by simp; omega
    have u0b : decide (29 ≤ da) = true := by simpa using t0
    clear t0
    go_wp2_with (first
      | (go_at_call 11; refine (HDA.out _ J4.out.ta).mono ?_; rintro e v0 ⟨rfl, hb⟩; have hj := J4.out.keep hb; obtain ⟨a0, a1, a2, a3, a4, a5, a6, a7⟩ := hj.ca; obtain ⟨b0, b1, b2, b3, b4, b5, b6, b7⟩ := hj.cb; have JJ0 := Lib.hid hj; have JK0 := Lib.hid hb; clear hj hb))
    go_returns
    exact ⟨by first | rfl | simp, JJ0.out.bel⟩
  have u0 : decide (29 ≤ (da : Int)) = false := by simp; omega
  have u0b : decide (29 ≤ da) = false := by simpa using t0
  by_cases t1 : 29 ≤ db
  · have u1 : decide (29 ≤ (db : Int)) = true := by simp; omega
    have u1b : decide (29 ≤ db) = true := by simpa using t1
    clear t1
    go_wp2_with (first
      | (go_at_call 11; refine (HDB.out _ JJ0.out.tb).mono ?_; rintro e v1 ⟨rfl, hb⟩; have hj := JJ0.out.keep hb; obtain ⟨a0, a1, a2, a3, a4, a5, a6, a7⟩ := hj.ca; obtain ⟨b0, b1, b2, b3, b4, b5, b6, b7⟩ := hj.cb; have JJ1 := Lib.hid hj; have JK1 := Lib.hid (JK0.out.trans (hb.mono JK0.out.size)); clear hj hb)
      | (go_at_call 11; refine (HDA.out _ J4.out.ta).mono ?_; rintro e v0 ⟨rfl, hb⟩; have hj := J4.out.keep hb; obtain ⟨a0, a1, a2, a3, a4, a5, a6, a7⟩ := hj.ca; obtain ⟨b0, b1, b2, b3, b4, b5, b6, b7⟩ := hj.cb; have JJ0 := Lib.hid hj; have JK0 := Lib.hid hb; clear hj hb))
    go_returns
    exact ⟨by first | rfl | simp, JJ1.out.bel⟩
  have u1 : decide (29 ≤ (db : Int)) = false := by simp; omega
  have u1b : decide (29 ≤ db) = false := by simpa using t1
  by_cases t2 : 200 ≤ na
  · have u2 : decide (200 ≤ (na : Int)) = true := by simp; omega
    have u2b : decide (200 ≤ na) = true := by simpa using t2
    clear t2
    go_wp2_with (first
      | (go_at_call 14; refine (HNA.out _ JJ1.out.ta).mono ?_; rintro e v2 ⟨rfl, hb⟩; have hj := JJ1.out.keep hb; obtain ⟨a0, a1, a2, a3, a4, a5, a6, a7⟩ := hj.ca; obtain ⟨b0, b1, b2, b3, b4, b5, b6, b7⟩ := hj.cb; have JJ2 := Lib.hid hj; have JK2 := Lib.hid (JK1.out.trans (hb.mono JK1.out.size)); clear hj hb)
      | (go_at_call 11; refine (HDB.out _ JJ0.out.tb).mono ?_; rintro e v1 ⟨rfl, hb⟩; have hj := JJ0.out.keep hb; obtain ⟨a0, a1, a2, a3, a4, a5, a6, a7⟩ := hj.ca; obtain ⟨b0, b1, b2, b3, b4, b5, b6, b7⟩ := hj.cb; have JJ1 := Lib.hid hj; have JK1 := Lib.hid (JK0.out.trans (hb.mono JK0.out.size)); clear hj hb)
      | (go_at_call 11; refine (HDA.out _ J4.out.ta).mono ?_; rintro e v0 ⟨rfl, hb⟩; have hj := J4.out.keep hb; obtain ⟨a0, a1, a2, a3, a4, a5, a6, a7⟩ := hj.ca; obtain ⟨b0, b1, b2, b3, b4, b5, b6, b7⟩ := hj.cb; have JJ0 := Lib.hid hj; have JK0 := Lib.hid hb; clear hj hb))
    go_returns
    exact ⟨by first | rfl | simp, JJ2.out.bel⟩
  have u2 : decide (200 ≤ (na : Int)) = false := by simp; omega
  have u2b : decide (200 ≤ na) = false := by simpa using t2
  by_cases t3 : 200 ≤ nb
  · have u3 : decide (200 ≤ (nb : Int)) = true := by simp; omega
    have u3b : decide (200 ≤ nb) = true := by simpa using t3
    clear t3
    go_wp2_with (first
      | (go_at_call 14; refine (HNB.out _ JJ2.out.tb).mono ?_; rintro e v3 ⟨rfl, hb⟩; have hj := JJ2.out.keep hb; obtain ⟨a0, a1, a2, a3, a4, a5, a6, a7⟩ := hj.ca; obtain ⟨b0, b1, b2, b3, b4, b5, b6, b7⟩ := hj.cb; have JJ3 := Lib.hid hj; have JK3 := Lib.hid (JK2.out.trans (hb.mono JK2.out.size)); clear hj hb)
      | (go_at_call 14; refine (HNA.out _ JJ1.out.ta).mono ?_; rintro e v2 ⟨rfl, hb⟩; have hj := JJ1.out.keep hb; obtain ⟨a0, a1, a2, a3, a4, a5, a6, a7⟩ := hj.ca; obtain ⟨b0, b1, b2, b3, b4, b5, b6, b7⟩ := hj.cb; have JJ2 := Lib.hid hj; have JK2 := Lib.hid (JK1.out.trans (hb.mono JK1.out.size)); clear hj hb)
      | (go_at_call 11; refine (HDB.out _ JJ0.out.tb).mono ?_; rintro e v1 ⟨rfl, hb⟩; have hj := JJ0.out.keep hb; obtain ⟨a0, a1, a2, a3, a4, a5, a6, a7⟩ := hj.ca; obtain ⟨b0, b1, b2, b3, b4, b5, b6, b7⟩ := hj.cb; have JJ1 := Lib.hid hj; have JK1 := Lib.hid (JK0.out.trans (hb.mono JK0.out.size)); clear hj hb)
      | (go_at_call 11; refine (HDA.out _ J4.out.ta).mono ?_; rintro e v0 ⟨rfl, hb⟩; have hj := J4.out.keep hb; obtain ⟨a0, a1, a2, a3, a4, a5, a6, a7⟩ := hj.ca; obtain ⟨b0, b1, b2, b3, b4, b5, b6, b7⟩ := hj.cb; have JJ0 := Lib.hid hj; have JK0 := Lib.hid hb; clear hj hb))
    go_returns
    exact ⟨by first | rfl | simp, JJ3.out.bel⟩
  have u3 : decide (200 ≤ (nb : Int)) = false := by simp; omega
  have u3b : decide (200 ≤ nb) = false := by simpa using t3
  by_cases t4 : 400 ≤ za
  · have u4 : decide (400 ≤ (za : Int)) = true := by simp; omega
    have u4b : decide (400 ≤ za) = true := by simpa using t4
    clear t4
    go_wp2_with (first
      | (go_at_call 7; refine (HZA.out _ JJ3.out.ta).mono ?_; rintro e v4 ⟨rfl, hb⟩; have hj := JJ3.out.keep hb; obtain ⟨a0, a1, a2, a3, a4, a5, a6, a7⟩ := hj.ca; obtain ⟨b0, b1, b2, b3, b4, b5, b6, b7⟩ := hj.cb; have JJ4 := Lib.hid hj; have JK4 := Lib.hid (JK3.out.trans (hb.mono JK3.out.size)); clear hj hb)
      | (go_at_call 14; refine (HNB.out _ JJ2.out.tb).mono ?_; rintro e v3 ⟨rfl, hb⟩; have hj := JJ2.out.keep hb; obtain ⟨a0, a1, a2, a3, a4, a5, a6, a7⟩ := hj.ca; obtain ⟨b0, b1, b2, b3, b4, b5, b6, b7⟩ := hj.cb; have JJ3 := Lib.hid hj; have JK3 := Lib.hid (JK2.out.trans (hb.mono JK2.out.size)); clear hj hb)
      | (go_at_call 14; refine (HNA.out _ JJ1.out.ta).mono ?_; rintro e v2 ⟨rfl, hb⟩; have hj := JJ1.out.keep hb; obtain ⟨a0, a1, a2, a3, a4, a5, a6, a7⟩ := hj.ca; obtain ⟨b0, b1, b2, b3, b4, b5, b6, b7⟩ := hj.cb; have JJ2 := Lib.hid hj; have JK2 := Lib.hid (JK1.out.trans (hb.mono JK1.out.size)); clear hj hb)
      | (go_at_call 11; refine (HDB.out _ JJ0.out.tb).mono ?_; rintro e v1 ⟨rfl, hb⟩; have hj := JJ0.out.keep hb; obtain ⟨a0, a1, a2, a3, a4, a5, a6, a7⟩ := hj.ca; obtain ⟨b0, b1, b2, b3, b4, b5, b6, b7⟩ := hj.cb; have JJ1 := Lib.hid hj; have JK1 := Lib.hid (JK0.out.trans (hb.mono JK0.out.size)); clear hj hb)
      | (go_at_call 11; refine (HDA.out _ J4.out.ta).mono ?_; rintro e v0 ⟨rfl, hb⟩; have hj := J4.out.keep hb; obtain ⟨a0, a1, a2, a3, a4, a5, a6, a7⟩ := hj.ca; obtain ⟨b0, b1, b2, b3, b4, b5, b6, b7⟩ := hj.cb; have JJ0 := Lib.hid hj; have JK0 := Lib.hid hb; clear hj hb))
    go_returns
    exact ⟨by first | rfl | simp, JJ4.out.bel⟩
  have u4 : decide (400 ≤ (za : Int)) = false := by simp; omega
  have u4b : decide (400 ≤ za) = false := by simpa using t4
  by_cases t5 : 400 ≤ zb
  · have u5 : decide (400 ≤ (zb : Int)) = true := by simp; omega
    have u5b : decide (400 ≤ zb) = true := by simpa using t5
    clear t5
    go_wp2_with (first
      | (go_at_call 7; refine (HZB.out _ JJ4.out.tb).mono ?_; rintro e v5 ⟨rfl, hb⟩; have hj := JJ4.out.keep hb; obtain ⟨a0, a1, a2, a3, a4, a5, a6, a7⟩ := hj.ca; obtain ⟨b0, b1, b2, b3, b4, b5, b6, b7⟩ := hj.cb; have JJ5 := Lib.hid hj; have JK5 := Lib.hid (JK4.out.trans (hb.mono JK4.out.size)); clear hj hb)
      | (go_at_call 7; refine (HZA.out _ JJ3.out.ta).mono ?_; rintro e v4 ⟨rfl, hb⟩; have hj := JJ3.out.keep hb; obtain ⟨a0, a1, a2, a3, a4, a5, a6, a7⟩ := hj.ca; obtain ⟨b0, b1, b2, b3, b4, b5, b6, b7⟩ := hj.cb; have JJ4 := Lib.hid hj; have JK4 := Lib.hid (JK3.out.trans (hb.mono JK3.out.size)); clear hj hb)
      | (go_at_call 14; refine (HNB.out _ JJ2.out.tb).mono ?_; rintro e v3 ⟨rfl, hb⟩; have hj := JJ2.out.keep hb; obtain ⟨a0, a1, a2, a3, a4, a5, a6, a7⟩ := hj.ca; obtain ⟨b0, b1, b2, b3, b4, b5, b6, b7⟩ := hj.cb; have JJ3 := Lib.hid hj; have JK3 := Lib.hid (JK2.out.trans (hb.mono JK2.out.size)); clear hj hb)
      | (go_at_call 14; refine (HNA.out _ JJ1.out.ta).mono ?_; rintro e v2 ⟨rfl, hb⟩; have hj := JJ1.out.keep hb; obtain ⟨a0, a1, a2, a3, a4, a5, a6, a7⟩ := hj.ca; obtain ⟨b0, b1, b2, b3, b4, b5, b6, b7⟩ := hj.cb; have JJ2 := Lib.hid hj; have JK2 := Lib.hid (JK1.out.trans (hb.mono JK1.out.size)); clear hj hb)
      | (go_at_call 11; refine (HDB.out _ JJ0.out.tb).mono ?_; rintro e v1 ⟨rfl, hb⟩; have hj := JJ0.out.keep hb; obtain ⟨a0, a1, a2, a3, a4, a5, a6, a7⟩ := hj.ca; obtain ⟨b0, b1, b2, b3, b4, b5, b6, b7⟩ := hj.cb; have JJ1 := Lib.hid hj; have JK1 := Lib.hid (JK0.out.trans (hb.mono JK0.out.size)); clear hj hb)
      | (go_at_call 11; refine (HDA.out _ J4.out.ta).mono ?_; rintro e v0 ⟨rfl, hb⟩; have hj := J4.out.keep hb; obtain ⟨a0, a1, a2, a3, a4, a5, a6, a7⟩ := hj.ca; obtain ⟨b0, b1, b2, b3, b4, b5, b6, b7⟩ := hj.cb; have JJ0 := Lib.hid hj; have JK0 := Lib.hid hb; clear hj hb))
    go_returns
    exact ⟨by first | rfl | simp, JJ5.out.bel⟩
  have u5 : decide (400 ≤ (zb : Int)) = false := by simp; omega
  have u5b : decide (400 ≤ zb) = false := by simpa using t5
  have HJA := Lib.hid (show Jn a from ⟨HMX.out.1, HK.out.1.2, HK.out.1.1, by have := HD.out.1.1; omega, by have := HD.out.2.1.1; omega, by have := HD.out.2.2.1; omega⟩)
  have HJB := Lib.hid (show Jn b from ⟨HMY.out.1, HK.out.2.2, HK.out.2.1, by have := HD.out.1.2; omega, by have := HD.out.2.1.2; omega, by have := HD.out.2.2.2; omega⟩)
  clear t0 t1 t2 t3 t4 t5 HD HK
  go_upto_region 6 with (first
      | (go_at_call 7; refine (HZB.out _ JJ4.out.tb).mono ?_; rintro e v5 ⟨rfl, hb⟩; have hj := JJ4.out.keep hb; obtain ⟨a0, a1, a2, a3, a4, a5, a6, a7⟩ := hj.ca; obtain ⟨b0, b1, b2, b3, b4, b5, b6, b7⟩ := hj.cb; have JJ5 := Lib.hid hj; have JK5 := Lib.hid (JK4.out.trans (hb.mono JK4.out.size)); clear hj hb)
      | (go_at_call 7; refine (HZA.out _ JJ3.out.ta).mono ?_; rintro e v4 ⟨rfl, hb⟩; have hj := JJ3.out.keep hb; obtain ⟨a0, a1, a2, a3, a4, a5, a6, a7⟩ := hj.ca; obtain ⟨b0, b1, b2, b3, b4, b5, b6, b7⟩ := hj.cb; have JJ4 := Lib.hid hj; have JK4 := Lib.hid (JK3.out.trans (hb.mono JK3.out.size)); clear hj hb)
      | (go_at_call 14; refine (HNB.out _ JJ2.out.tb).mono ?_; rintro e v3 ⟨rfl, hb⟩; have hj := JJ2.out.keep hb; obtain ⟨a0, a1, a2, a3, a4, a5, a6, a7⟩ := hj.ca; obtain ⟨b0, b1, b2, b3, b4, b5, b6, b7⟩ := hj.cb; have JJ3 := Lib.hid hj; have JK3 := Lib.hid (JK2.out.trans (hb.mono JK2.out.size)); clear hj hb)
      | (go_at_call 14; refine (HNA.out _ JJ1.out.ta).mono ?_; rintro e v2 ⟨rfl, hb⟩; have hj := JJ1.out.keep hb; obtain ⟨a0, a1, a2, a3, a4, a5, a6, a7⟩ := hj.ca; obtain ⟨b0, b1, b2, b3, b4, b5, b6, b7⟩ := hj.cb; have JJ2 := Lib.hid hj; have JK2 := Lib.hid (JK1.out.trans (hb.mono JK1.out.size)); clear hj hb)
      | (go_at_call 11; refine (HDB.out _ JJ0.out.tb).mono ?_; rintro e v1 ⟨rfl, hb⟩; have hj := JJ0.out.keep hb; obtain ⟨a0, a1, a2, a3, a4, a5, a6, a7⟩ := hj.ca; obtain ⟨b0, b1, b2, b3, b4, b5, b6, b7⟩ := hj.cb; have JJ1 := Lib.hid hj; have JK1 := Lib.hid (JK0.out.trans (hb.mono JK0.out.size)); clear hj hb)
      | (go_at_call 11; refine (HDA.out _ J4.out.ta).mono ?_; rintro e v0 ⟨rfl, hb⟩; have hj := J4.out.keep hb; obtain ⟨a0, a1, a2, a3, a4, a5, a6, a7⟩ := hj.ca; obtain ⟨b0, b1, b2, b3, b4, b5, b6, b7⟩ := hj.cb; have JJ0 := Lib.hid hj; have JK0 := Lib.hid hb; clear hj hb))
  have X5 := Lib.hid (X4.out.keep JK5.out)
  have Y5 := Lib.hid (Y4.out.keep JK5.out)
  clear JJ0 JJ1 JJ2 JJ3 JJ4 JK0 JK1 JK2 JK3 JK4 JK5 X4 Y4 J4 q0 q1 q2 q3 q4 q5 q6 q7 r0 r1 r2 r3 r4 r5 r6 r7 u0 u1 u2 u3 u4 u5 u0b u1b u2b u3b u4b u5b k2 k3 k4 k5
  clear HDA HDB HNA HNB HZA HZB
  go_upto_region 7 with (go_at_call 5; refine (builds (altT a b) (some ⟨v5.heap.size, 0, none⟩) 2 2 _ (two_in (JJ5.out.ta.keep ((Below.refl _ _).alloc (Nat.le_refl _) _)) (JJ5.out.tb.keep ((Below.refl _ _).alloc (Nat.le_refl _) _)) (Blk.new v5 28 (twoV a b A B n m c d)) 3 0 0) (two_wf HWF.out.1 HWF.out.2 _ _ _)).mono ?_; rintro e wS6 ⟨⟨SS, aS, zS, eS, ES6, AS6, mS6, cS6, rfl, hn, hok, hz⟩, hb⟩; obtain rfl := hz (altT_right HJA.out HJB.out).1 (altT_right HJA.out HJB.out).2; obtain ⟨_, NS6, rfl, rfl, rfl, hm⟩ := hok rfl; have hbb := ((Below.refl _ v5).alloc (Nat.le_refl _) _).trans (hb.mono (by simp)); have hbc := hbb.trans (((Below.refl _ wS6).alloc (Nat.le_refl _) (.cells #[.int .i64 (NS6 : Int), .int .i64 0, .int .i64 1, .slice AS6 mS6 cS6] 31)).mono hbb.size); have MS6 := Lib.hid hm; have NB6 := Lib.hid (NB.new (c := cS6) hn); have BC6 := Lib.hid hbc; have e6 : ((0 : Int) != 0) = false := rfl; clear hn hok hb hbb hbc hm hz)
  clear a0 a1 a2 a3 a4 a5 a6 a7 b0 b1 b2 b3 b4 b5 b6 b7
  obtain ⟨gS6, hgS⟩ : ∃ g, g = wS6.heap.size := ⟨_, rfl⟩
  rw [← hgS] at NB6 ⊢
  generalize wS6.alloc (.cells #[.int .i64 (NS6 : Int), .int .i64 0, .int .i64 1, .slice AS6 mS6 cS6] 31) = wT6 at NB6 BC6 ⊢
  have JT6 := Lib.hid (JJ5.out.keep BC6.out)
  have XX6 := Lib.hid (X5.out.keep BC6.out)
  have YY6 := Lib.hid (Y5.out.keep BC6.out)
  clear BC6 hgS X5 Y5
  obtain ⟨a0, a1, a2, a3, a4, a5, a6, a7⟩ := JT6.out.ca
  obtain ⟨b0, b1, b2, b3, b4, b5, b6, b7⟩ := JT6.out.cb
  go_upto_region 8 with (go_at_call 5; refine (builds (catT a b) (some ⟨wT6.heap.size, 0, none⟩) 2 2 _ (two_in (JT6.out.ta.keep ((Below.refl _ _).alloc (Nat.le_refl _) _)) (JT6.out.tb.keep ((Below.refl _ _).alloc (Nat.le_refl _) _)) (Blk.new wT6 28 (twoV a b A B n m c d)) 2 0 0) (two_wf HWF.out.1 HWF.out.2 _ _ _)).mono ?_; rintro e wS7 ⟨⟨SS, aS, zS, eS, ES7, AS7, mS7, cS7, rfl, hn, hok, hz⟩, hb⟩; obtain rfl := hz (catT_right HJA.out HJB.out).1 (catT_right HJA.out HJB.out).2; obtain ⟨_, NS7, rfl, rfl, rfl, hm⟩ := hok rfl; have hbb := ((Below.refl _ wT6).alloc (Nat.le_refl _) _).trans (hb.mono (by simp)); have hbc := hbb.trans (((Below.refl _ wS7).alloc (Nat.le_refl _) (.cells #[.int .i64 (NS7 : Int), .int .i64 0, .int .i64 1, .slice AS7 mS7 cS7] 31)).mono hbb.size); have MS7 := Lib.hid hm; have NB7 := Lib.hid (NB.new (c := cS7) hn); have BC7 := Lib.hid hbc; have e7 : ((0 : Int) != 0) = false := rfl; clear hn hok hb hbb hbc hm hz)
  clear a0 a1 a2 a3 a4 a5 a6 a7 b0 b1 b2 b3 b4 b5 b6 b7
  obtain ⟨gS7, hgS⟩ : ∃ g, g = wS7.heap.size := ⟨_, rfl⟩
  rw [← hgS] at NB7 ⊢
  generalize wS7.alloc (.cells #[.int .i64 (NS7 : Int), .int .i64 0, .int .i64 1, .slice AS7 mS7 cS7] 31) = wT7 at NB7 BC7 ⊢
  have JT7 := Lib.hid (JT6.out.keep BC7.out)
  have XX7 := Lib.hid (XX6.out.keep BC7.out)
  have YY7 := Lib.hid (YY6.out.keep BC7.out)
  have PP7 := Lib.hid (NB6.out.keep BC7.out)
  clear BC7 hgS XX6 YY6 NB6
  obtain ⟨a0, a1, a2, a3, a4, a5, a6, a7⟩ := JT7.out.ca
  go_upto_region 11 with (go_at_call 5; refine (builds (starT a) (some ⟨wT7.heap.size, 0, none⟩) 1 1 _ (one_in (JT7.out.ta.keep ((Below.refl _ _).alloc (Nat.le_refl _) _)) (Blk.new wT7 28 (reV a A n c)) 4 0 (-1)) (one_wf HWF.out.1 _ _ _)).mono ?_; rintro e wS8 ⟨⟨SS, aS, zS, eS, ES8, AS8, mS8, cS8, rfl, hn, hok, hz⟩, hb⟩; obtain rfl := hz (starT_right HJA.out).1 (starT_right HJA.out).2; obtain ⟨_, NS8, rfl, rfl, rfl, hm⟩ := hok rfl; have hbb := ((Below.refl _ wT7).alloc (Nat.le_refl _) _).trans (hb.mono (by simp)); have hbc := hbb.trans (((Below.refl _ wS8).alloc (Nat.le_refl _) (.cells #[.int .i64 (NS8 : Int), .int .i64 0, .int .i64 1, .slice AS8 mS8 cS8] 31)).mono hbb.size); have MS8 := Lib.hid hm; have NB8 := Lib.hid (NB.new (c := cS8) hn); have BC8 := Lib.hid hbc; have e8 : ((0 : Int) != 0) = false := rfl; clear hn hok hb hbb hbc hm hz)
  clear a0 a1 a2 a3 a4 a5 a6 a7
  obtain ⟨gS8, hgS⟩ : ∃ g, g = wS8.heap.size := ⟨_, rfl⟩
  rw [← hgS] at NB8 ⊢
  generalize wS8.alloc (.cells #[.int .i64 (NS8 : Int), .int .i64 0, .int .i64 1, .slice AS8 mS8 cS8] 31) = wT8 at NB8 BC8 ⊢
  have JT8 := Lib.hid (JT7.out.keep BC8.out)
  have XX8 := Lib.hid (XX7.out.keep BC8.out)
  have YY8 := Lib.hid (YY7.out.keep BC8.out)
  have PP8 := Lib.hid (PP7.out.keep BC8.out)
  have QQ8 := Lib.hid (NB7.out.keep BC8.out)
  clear BC8 hgS XX7 YY7 PP7 NB7
  clear a0 a1 a2 a3 a4 a5 a6 a7
  have hmk : ∀ W, (Instr.makeSlice 44 (.int .i64 ((s'.size : Int) + 1)) (.int .i64 ((s'.size : Int) + 1))).run Try.prog W = .ok (.slice (some ⟨W.heap.size, 0, none⟩) (s'.size + 1) (s'.size + 1)) (W.alloc (.cells (Array.replicate (s'.size + 1) (.bool false)) 4)) :=
    fun W => by have := make_one 44 4 (.bool false) 1 Try.underlying44 info4 (by rfl) (s'.size + 1) (by omega) (by omega) W; simpa using this
  go_cut [17, 18, 19] from 31 (fun ve vb vr wx => ∃ ge gb gr : Nat, ve = .slice (some ⟨ge, 0, none⟩) (s'.size + 1) (s'.size + 1) ∧ vb = .slice (some ⟨gb, 0, none⟩) (s'.size + 1) (s'.size + 1) ∧ vr = .slice (some ⟨gr, 0, none⟩) (s'.size + 1) (s'.size + 1) ∧
    (ge ≠ gb ∧ ge ≠ gr ∧ gb ≠ gr) ∧ (wT8.heap.size ≤ ge ∧ wT8.heap.size ≤ gb ∧ wT8.heap.size ≤ gr) ∧ Blk wx ge 4 (rowB (fun _ => false) (s'.size + 1)) ∧ Blk wx gb 4 (rowB (fun _ => false) (s'.size + 1)) ∧ Blk wx gr 4 (rowB (fun _ => false) (s'.size + 1)) ∧ Below wT8.heap.size wT8 wx)
  case first =>
    have hb3 := Lib.hid (fun (g0 g1 g2 : Nat) (h0 : g0 = wT8.heap.size) (h1 : g1 = wT8.heap.size + 1) (h2 : g2 = wT8.heap.size + 2) => three_made wT8 (s'.size + 1) g0 g1 g2 h0 h1 h2)
    go_region
    all_goals
      go_wp2_with fail
      go_meet
      have hb := hb3.out _ _ _ rfl rfl rfl
      refine ⟨_, _, _, rfl, rfl, rfl, ?_, ?_, ?_, ?_, ?_, ?_⟩
      · simp <;> omega
      · simp <;> omega
      · first | exact hb.1 | exact hb.2.1 | exact hb.2.2.1
      · first | exact hb.1 | exact hb.2.1 | exact hb.2.2.1
      · first | exact hb.1 | exact hb.2.1 | exact hb.2.2.1
      · exact hb.2.2.2
  case rest =>
    obtain ⟨ge, gb, gr, rfl, rfl, rfl, hne, hge, hE0, hB0, hR0, hbl⟩ := hcut
    clear hmk
    have H0 := Lib.hid (And.intro hne (And.intro hge (And.intro hE0 (And.intro hB0 (And.intro hR0 hbl)))))
    have hj0 : JW wT8 ge gb gr wc.heap.size (s'.size + 1) (fun _ => false) (fun _ => false) (fun _ => false) (wc.alloc (.cells #[.bool true] 4)) :=
      ⟨hbl.alloc hbl.size _, hE0.alloc _, hB0.alloc _, hR0.alloc _, Blk.new wc 4 [.bool true]⟩
    have hd : JD wT8 ge gb gr wc.heap.size := ⟨hne.1, hne.2.1, hne.2.2, by have := hE0.lt; omega, by have := hB0.lt; omega, by have := hR0.lt; omega, hge.1, hge.2.1, hge.2.2⟩
    have HJ0 := Lib.hid hj0
    have HD := Lib.hid hd
    clear hne hge hE0 hB0 hR0 hbl hj0 hd
    obtain ⟨gk, hgk⟩ : ∃ gk, gk = wc.heap.size := ⟨_, rfl⟩
    rw [← hgk] at HJ0 HD
    have HGK := Lib.hid hgk
    clear hgk
    have HSA := Lib.hid (wrong_shp HMX.out.1).1
    have HSB := Lib.hid (wrong_shp HMY.out.1).1
    have HEX := Lib.hid (fun (p : Nat) (hp : p ≤ s'.size) (w : World) (hb : Below wT8.heap.size wT8 w) => ends_t HMX.out.2 s' hcs p hp Ax mx cx w (XX8.out.keep hb).nfa)
    have HEY := Lib.hid (fun (p : Nat) (hp : p ≤ s'.size) (w : World) (hb : Below wT8.heap.size wT8 w) => ends_t HMY.out.2 s' hcs p hp Ay my cy w (YY8.out.keep hb).nfa)
    have HEX0 := Lib.hid (fun (w : World) (hb : Below wT8.heap.size wT8 w) => ends_0 HMX.out.2 s' hcs Ax mx cx w (XX8.out.keep hb).nfa)
    have HEY0 := Lib.hid (fun (w : World) (hb : Below wT8.heap.size wT8 w) => ends_0 HMY.out.2 s' hcs Ay my cy w (YY8.out.keep hb).nfa)
    have HE1 := Lib.hid (fun (w : World) (hb : Below wT8.heap.size wT8 w) => ends_0 MS6.out s' hcs AS6 mS6 cS6 w (PP8.out.keep hb).nfa)
    have HE2 := Lib.hid (fun (w : World) (hb : Below wT8.heap.size wT8 w) => ends_0 MS7.out s' hcs AS7 mS7 cS7 w (QQ8.out.keep hb).nfa)
    have HE3 := Lib.hid (fun (w : World) (hb : Below wT8.heap.size wT8 w) => ends_0 MS8.out s' hcs AS8 mS8 cS8 w (NB8.out.keep hb).nfa)
    have HM1 := Lib.hid (fun k (hk : k < (endsT s' a 0).length) => endsT_at HSA.out (Nat.zero_le _) hk)
    have HLA := Lib.hid (endsT_len s' a 0)
    obtain ⟨l1, hl1⟩ : ∃ l, l = endsT s' a 0 := ⟨_, rfl⟩
    rw [← hl1] at HEX0 HM1 HLA
    have HL1 := Lib.hid hl1
    obtain ⟨n1, hn1⟩ : ∃ n, n = l1.length := ⟨_, rfl⟩
    rw [← hn1] at HEX0 HM1 HLA
    have HN1 := Lib.hid hn1
    clear hl1 hn1
    go_upto_region 14 with fail
    rw [← HGK.out]
    generalize wc.alloc (.cells #[.bool true] 4) = w10 at HJ0 ⊢
    clear H0 HGK
    obtain ⟨x0, x1, x2, x3⟩ := (XX8.out.keep HJ0.out.bel).cells
    go_upto_region 15 with (go_at_call 10; refine (HEX0.out _ HJ0.out.bel).mono ?_; rintro e w11 ⟨A1, c1, rfl, harr, hb⟩; have hj1 := HJ0.out.call hb; have HJ1 := Lib.hid hj1; have HAL1 := Lib.hid (AL.of harr hj1); clear harr hb hj1)
    clear x0 x1 x2 x3 HJ0
    have hn1b : n1 ≤ 50 := by have := HLA.out; omega
    go_loopw [149] (fun iv wr => ∃ (k : Nat) (E B : Nat → Bool), k ≤ n1 ∧ iv = .int .i64 (k : Int) ∧ JW wT8 ge gb gr gk (s'.size + 1) E B (fun _ => false) wr ∧ AL ge gb gr wr A1 n1 l1 ∧ Plus (fun _ => false) (l1.take k) E ∧ Beh (b.lang s') (l1.take k) B) (fun iv _ => n1 - (intOf iv).toNat)
    case atStart => exact ⟨0, _, _, by omega, rfl, HJ1.out, HAL1.out, Plus.nil _, Beh.nil _⟩
    case round =>
      obtain ⟨k, E, B', hk, rfl, hj, hal, hpl, hbe⟩ := hrel
      obtain ⟨w12, rfl⟩ : ∃ w : World, w = wr := ⟨_, rfl⟩
      have HQ := Lib.hid (And.intro hj (And.intro hal (And.intro hpl hbe)))
      by_cases hlt : k < n1
      · obtain ⟨ga, oa, rfl, hc⟩ := hal.at_ hlt
        obtain ⟨q, hq, hqL, hqa⟩ := HM1.out k hlt
        rw [hq] at hc
        have HQQ := Lib.hid (And.intro hq hqa)
        have HEYq := Lib.hid (HEY.out q (by omega))
        have HM2 := Lib.hid (fun k (hk : k < (endsT s' b q).length) => endsT_at HSB.out (show q ≤ s'.size by omega) hk)
        have HLB := Lib.hid (endsT_len s' b q)
        have HBN := Lib.hid (fun (B2 : Nat → Bool) (h : Plus B' (endsT s' b q) B2) => Beh.next HSB.out hbe (by have := HN1.out; omega) hq (by omega) h)
        obtain ⟨l2, hl2⟩ : ∃ l, l = endsT s' b q := ⟨_, rfl⟩
        rw [← hl2] at HEYq HM2 HLB HBN
        obtain ⟨n2, hn2⟩ : ∃ n, n = l2.length := ⟨_, rfl⟩
        rw [← hn2] at HEYq HM2 HLB
        have HN2 := Lib.hid hn2
        clear hq hqa hl2 hn2 hj hal hpl hbe
        go_upto_region 19 with (first
          | (go_at_call 10; refine (HEYq.out _ HJ2.out.bel).mono ?_; rintro e w14 ⟨A2, c2, rfl, harr, hb⟩; have hj3 := HJ2.out.call hb; have HJ3 := Lib.hid hj3; have HAL3 := Lib.hid (AL.of harr hj3); have HAL4 := Lib.hid (HAL2.out.call hb); clear harr hb hj3)
          | (go_at_call 15; refine (mark_any ge (s'.size + 1) q gk E _ HQ.out.1.e hqL).mono ?_; rintro e w13 ⟨rfl, rfl⟩; have HJ2 := Lib.hid (HQ.out.1.me (q := q) HD.out); have HAL2 := Lib.hid (HQ.out.2.1.mark (.inl rfl) q (.bool true)); obtain ⟨y0, y1, y2, y3⟩ := (YY8.out.keep HJ2.out.bel).cells))
        clear hc y0 y1 y2 y3
        have hn2b : n2 ≤ 50 := by have := HLB.out; omega
        go_loopw [162] (fun iv wr => ∃ (k2 : Nat) (B2 : Nat → Bool), k2 ≤ n2 ∧ iv = .int .i64 (k2 : Int) ∧ JW wT8 ge gb gr gk (s'.size + 1) (updB E q true) B2 (fun _ => false) wr ∧ AL ge gb gr wr (some ⟨ga, oa, none⟩) n1 l1 ∧ AL ge gb gr wr A2 n2 l2 ∧ Plus B' (l2.take k2) B2) (fun iv _ => n2 - (intOf iv).toNat)
        case atStart => exact ⟨0, _, by omega, rfl, HJ3.out, HAL4.out, HAL3.out, Plus.nil _⟩
        case round =>
          obtain ⟨k2, B2, hk2, rfl, hj, hal, hal2, hpl⟩ := hrel
          obtain ⟨w15, rfl⟩ : ∃ w : World, w = wr := ⟨_, rfl⟩
          have HR := Lib.hid (And.intro hj (And.intro hal (And.intro hal2 hpl)))
          by_cases hlt2 : k2 < n2
          · obtain ⟨ga2, oa2, rfl, hc⟩ := hal2.at_ hlt2
            obtain ⟨q2, hq2, hqL2, _⟩ := HM2.out k2 hlt2
            rw [hq2] at hc
            have HQ2 := Lib.hid hq2
            clear hq2 hj hal hal2 hpl
            go_wp2_with (go_at_call 15; refine (mark_any gb (s'.size + 1) q2 gk B2 _ HR.out.1.b hqL2).mono ?_; rintro e w16 ⟨rfl, rfl⟩)
            go_roundw
            case rel => exact ⟨k2 + 1, updB B2 q2 true, by omega, by go_num, HR.out.1.mb HD.out, HR.out.2.1.mark (.inr (.inl rfl)) _ _, HR.out.2.2.1.mark (.inr (.inl rfl)) _ _, HR.out.2.2.2.put (by have := HN2.out; omega) HQ2.out⟩
            case measure => simp [intOf]; omega
          · obtain rfl : k2 = n2 := by omega
            have HPL := Lib.hid (show Plus B' l2 B2 by have h9 := hpl; rw [List.take_of_length_le (by have := HN2.out; omega)] at h9; exact h9)
            clear hj hal hal2 hpl
            go_wp2_with fail
            go_roundw
            case rel => exact ⟨k + 1, updB E q true, B2, by omega, by go_num, HR.out.1, HR.out.2.1, HQ.out.2.2.1.put (by have := HN1.out; omega) HQQ.out.1, HBN.out B2 HPL.out⟩
            case measure => simp [intOf]; omega
      · obtain rfl : k = n1 := by omega
        rw [List.take_of_length_le (by have := HN1.out; omega)] at hpl hbe
        have HEB := Lib.hid (And.intro hpl hbe)
        have HJ4 := Lib.hid hj
        have HM3 := Lib.hid (fun k (hk : k < (endsT s' b 0).length) => endsT_at HSB.out (Nat.zero_le _) hk)
        have HLB := Lib.hid (endsT_len s' b 0)
        obtain ⟨l3, hl3⟩ : ∃ l, l = endsT s' b 0 := ⟨_, rfl⟩
        rw [← hl3] at HEY0 HM3 HLB
        have HL3 := Lib.hid hl3
        obtain ⟨n3, hn3⟩ : ∃ n, n = l3.length := ⟨_, rfl⟩
        rw [← hn3] at HEY0 HM3 HLB
        have HN3 := Lib.hid hn3
        clear hl3 hn3 hj hal hpl hbe HQ
        go_upto_region 24 with fail
        obtain ⟨y0, y1, y2, y3⟩ := (YY8.out.keep HJ4.out.bel).cells
        go_upto_region 25 with (go_at_call 10; refine (HEY0.out _ HJ4.out.bel).mono ?_; rintro e w17 ⟨A3, c3, rfl, harr, hb⟩; have hj5 := HJ4.out.call hb; have HJ5 := Lib.hid hj5; have HAL5 := Lib.hid (AL.of harr hj5); clear harr hb hj5)
        clear y0 y1 y2 y3 HJ4
        have hn3b : n3 ≤ 50 := by have := HLB.out; omega
        go_loopw [176] (fun iv wr => ∃ (k3 : Nat) (E3 : Nat → Bool), k3 ≤ n3 ∧ iv = .int .i64 (k3 : Int) ∧ JW wT8 ge gb gr gk (s'.size + 1) E3 B' (fun _ => false) wr ∧ AL ge gb gr wr A3 n3 l3 ∧ Plus E (l3.take k3) E3) (fun iv _ => n3 - (intOf iv).toNat)
        case atStart => exact ⟨0, _, by omega, rfl, HJ5.out, HAL5.out, Plus.nil _⟩
        case round =>
          obtain ⟨k3, E3, hk3, rfl, hj, hal, hpl⟩ := hrel
          obtain ⟨w18, rfl⟩ : ∃ w : World, w = wr := ⟨_, rfl⟩
          have HR := Lib.hid (And.intro hj (And.intro hal hpl))
          by_cases hlt3 : k3 < n3
          · obtain ⟨ga, oa, rfl, hc⟩ := hal.at_ hlt3
            obtain ⟨q, hq, hqL, _⟩ := HM3.out k3 hlt3
            rw [hq] at hc
            have HQ2 := Lib.hid hq
            clear hq hj hal hpl
            go_wp2_with (go_at_call 15; refine (mark_any ge (s'.size + 1) q gk E3 _ HR.out.1.e hqL).mono ?_; rintro e w16 ⟨rfl, rfl⟩)
            go_roundw
            case rel => exact ⟨k3 + 1, updB E3 q true, by omega, by go_num, HR.out.1.me HD.out, HR.out.2.1.mark (.inl rfl) _ _, HR.out.2.2.put (by have := HN3.out; omega) HQ2.out⟩
            case measure => simp [intOf]; omega
          · obtain rfl : k3 = n3 := by omega
            rw [List.take_of_length_le (by have := HN3.out; omega)] at hpl
            have HPL := Lib.hid hpl
            have HJ6 := Lib.hid (hj.mr (q := 0) HD.out)
            have c0 := hj.r.cell 0
            rw [rowB_get _ (by omega)] at c0
            have c1 := hj.r.frozen 0
            have hL1 : 0 < s'.size + 1 := by omega
            clear hj hal hpl HR HJ5 HAL5
            go_upto_region 31 with fail
            clear c0 c1
            go_loopw [189] (fun iv wr => ∃ (k : Nat) (R : Nat → Bool), k ≤ s'.size + 1 ∧ iv = .int .i64 (k : Int) ∧ JW wT8 ge gb gr gk (s'.size + 1) E3 B' R wr ∧ StarK (a.lang s') k R) (fun iv _ => s'.size + 1 - (intOf iv).toNat)
            case atStart => exact ⟨0, _, by omega, rfl, HJ6.out, star_begin _⟩
            case round =>
              obtain ⟨k, R, hk, rfl, hj, hst⟩ := hrel
              obtain ⟨w19, rfl⟩ : ∃ w : World, w = wr := ⟨_, rfl⟩
              have HR := Lib.hid (And.intro hj hst)
              by_cases hlt4 : k < s'.size + 1
              · have c0 := hj.r.cell k
                rw [rowB_get _ hlt4] at c0
                obtain ⟨rk, hrk⟩ : ∃ rk, rk = R k := ⟨_, rfl⟩
                rw [← hrk] at c0
                have HRK := Lib.hid hrk
                have hks : k ≤ s'.size := by omega
                clear hj hst hrk
                cases rk
                · go_wp2_with fail
                  go_roundw
                  case rel => exact ⟨k + 1, R, by omega, by go_num, HR.out.1, star_skip (lang_fwd s' a HSA.out) HR.out.2 HRK.out.symm⟩
                  case measure => simp [intOf]; omega
                · obtain ⟨x0, x1, x2, x3⟩ := (XX8.out.keep HR.out.1.bel).cells
                  have HEXk := Lib.hid (HEX.out k hks)
                  have HM5 := Lib.hid (fun i (hi : i < (endsT s' a k).length) => endsT_at HSA.out hks hi)
                  have HLK := Lib.hid (endsT_len s' a k)
                  have HSP := Lib.hid (fun (R' : Nat → Bool) (h : Plus R (endsT s' a k) R') => star_put HSA.out hks HR.out.2 HRK.out.symm h)
                  obtain ⟨l5, hl5⟩ : ∃ l, l = endsT s' a k := ⟨_, rfl⟩
                  rw [← hl5] at HEXk HM5 HLK HSP
                  obtain ⟨n5, hn5⟩ : ∃ n, n = l5.length := ⟨_, rfl⟩
                  rw [← hn5] at HEXk HM5 HLK
                  have HN5 := Lib.hid hn5
                  clear hl5 hn5
                  go_upto_region 35 with (go_at_call 10; refine (HEXk.out _ HR.out.1.bel).mono ?_; rintro e w20 ⟨A5, c5, rfl, harr, hb⟩; have hj7 := HR.out.1.call hb; have HJ7 := Lib.hid hj7; have HAL7 := Lib.hid (AL.of harr hj7); clear harr hb hj7)
                  clear x0 x1 x2 x3 c0
                  have hn5b : n5 ≤ 50 := by have := HLK.out; omega
                  go_loopw [201] (fun iv wr => ∃ (k5 : Nat) (R5 : Nat → Bool), k5 ≤ n5 ∧ iv = .int .i64 (k5 : Int) ∧ JW wT8 ge gb gr gk (s'.size + 1) E3 B' R5 wr ∧ AL ge gb gr wr A5 n5 l5 ∧ Plus R (l5.take k5) R5) (fun iv _ => n5 - (intOf iv).toNat)
                  case atStart => exact ⟨0, _, by omega, rfl, HJ7.out, HAL7.out, Plus.nil _⟩
                  case round =>
                    obtain ⟨k5, R5, hk5, rfl, hj, hal, hpl⟩ := hrel
                    obtain ⟨w21, rfl⟩ : ∃ w : World, w = wr := ⟨_, rfl⟩
                    have HT := Lib.hid (And.intro hj (And.intro hal hpl))
                    by_cases hlt5 : k5 < n5
                    · obtain ⟨ga, oa, rfl, hc⟩ := hal.at_ hlt5
                      obtain ⟨q, hq, hqL, _⟩ := HM5.out k5 hlt5
                      rw [hq] at hc
                      have HQ2 := Lib.hid hq
                      clear hq hj hal hpl
                      go_wp2_with (go_at_call 15; refine (mark_any gr (s'.size + 1) q gk R5 _ HT.out.1.r hqL).mono ?_; rintro e w16 ⟨rfl, rfl⟩)
                      go_roundw
                      case rel => exact ⟨k5 + 1, updB R5 q true, by omega, by go_num, HT.out.1.mr HD.out, HT.out.2.1.mark (.inr (.inr rfl)) _ _, HT.out.2.2.put (by have := HN5.out; omega) HQ2.out⟩
                      case measure => simp [intOf]; omega
                    · obtain rfl : k5 = n5 := by omega
                      rw [List.take_of_length_le (by have := HN5.out; omega)] at hpl
                      have HPL5 := Lib.hid hpl
                      clear hj hal hpl
                      go_wp2_with fail
                      go_roundw
                      case rel => exact ⟨k + 1, R5, by omega, by go_num, HT.out.1, HSP.out R5 HPL5.out⟩
                      case measure => simp [intOf]; omega
              · obtain rfl : k = s'.size + 1 := by omega
                have hE3 : endsT s' (altT a b) 0 = outsTo E3 0 (s'.size + 1) := (endsT_of (wrong_shp (altT_right HJA.out HJB.out).1).1 (Nat.zero_le _) (fun j => by
                  rw [HPL.out j, HEB.out.1 j, HL1.out, HL3.out, mem_endsT HSA.out (Nat.zero_le _), mem_endsT HSB.out (Nat.zero_le _), altT_lang]
                  constructor
                  · rintro ((h | ⟨q, h1, h2⟩) | ⟨q, h1, h2⟩)
                    · cases h
                    · obtain rfl : j = q := by omega
                      exact .inl h2
                    · obtain rfl : j = q := by omega
                      exact .inr h2
                  · rintro (h | h)
                    · exact .inl (.inr ⟨j, rfl, h⟩)
                    · exact .inr ⟨j, rfl, h⟩)).symm
                have hB3 : endsT s' (catT a b) 0 = outsTo B' 0 (s'.size + 1) := (endsT_of (wrong_shp (catT_right HJA.out HJB.out).1).1 (Nat.zero_le _) (fun j => by
                  rw [HEB.out.2 j, HL1.out, catT_lang]
                  constructor
                  · rintro ⟨x, h1, h2⟩
                    obtain ⟨q, h3, h4⟩ := (mem_endsT HSA.out (Nat.zero_le _)).1 h1
                    obtain rfl : x = q := by omega
                    exact ⟨x, h4, h2⟩
                  · rintro ⟨x, h1, h2⟩
                    exact ⟨x, (mem_endsT HSA.out (Nat.zero_le _)).2 ⟨x, rfl, h1⟩, h2⟩)).symm
                have hR3 : endsT s' (starT a) 0 = outsTo R 0 (s'.size + 1) := (endsT_of (wrong_shp (starT_right HJA.out).1).1 (Nat.zero_le _) (fun j => by
                  rw [star_all (lang_fwd s' a HSA.out) HR.out.2 j, starT_lang])).symm
                have HEE := Lib.hid (And.intro hE3 (And.intro hB3 hR3))
                clear hj hst hE3 hB3 hR3
                obtain ⟨m1, hm1⟩ : ∃ l, l = endsT s' (altT a b) 0 := ⟨_, rfl⟩
                obtain ⟨m2, hm2⟩ : ∃ l, l = endsT s' (catT a b) 0 := ⟨_, rfl⟩
                obtain ⟨m3, hm3⟩ : ∃ l, l = endsT s' (starT a) 0 := ⟨_, rfl⟩
                rw [← hm1] at HE1 HEE
                rw [← hm2] at HE2 HEE
                rw [← hm3] at HE3 HEE
                obtain ⟨z1, hz1⟩ : ∃ n, n = m1.length := ⟨_, rfl⟩
                obtain ⟨z2, hz2⟩ : ∃ n, n = m2.length := ⟨_, rfl⟩
                obtain ⟨z3, hz3⟩ : ∃ n, n = m3.length := ⟨_, rfl⟩
                rw [← hz1] at HE1
                rw [← hz2] at HE2
                rw [← hz3] at HE3
                have HZ := Lib.hid (And.intro hz1 (And.intro hz2 hz3))
                clear hm1 hm2 hm3 hz1 hz2 hz3
                go_upto_region 40 with fail
                have c9 := HR.out.1.k.cell 0
                simp at c9
                obtain ⟨y0, y1, y2, y3⟩ := (PP8.out.keep HR.out.1.bel).cells
                go_wp2_with (first
                  | (go_at_call 16; refine (same_any G3 z3 h3 gr (s'.size + 1) R m3 _ HZ.out.2.2 HEE.out.2.2 K5.out.2 K5.out.1.r (by omega)).mono ?_; rintro e v6 ⟨rfl, hb⟩; have K6 := Lib.hid (K5.out.1.call hb); clear hb)
                  | (go_at_call 10; refine (HE3.out _ K4.out.bel).mono ?_; rintro e v5 ⟨G3, h3, rfl, harr, hb⟩; have K5 := Lib.hid (And.intro (K4.out.call hb) harr); clear harr hb)
                  | (go_at_call 16; refine (same_any G2 z2 h2 gb (s'.size + 1) B' m2 _ HZ.out.2.1 HEE.out.2.1 K3.out.2 K3.out.1.b (by omega)).mono ?_; rintro e v4 ⟨rfl, hb⟩; have K4 := Lib.hid (K3.out.1.call hb); obtain ⟨t0, t1, t2, t3⟩ := (NB8.out.keep K4.out.bel).cells; clear hb)
                  | (go_at_call 10; refine (HE2.out _ K2.out.bel).mono ?_; rintro e v3 ⟨G2, h2, rfl, harr, hb⟩; have K3 := Lib.hid (And.intro (K2.out.call hb) harr); clear harr hb)
                  | (go_at_call 16; refine (same_any G1 z1 h1 ge (s'.size + 1) E3 m1 _ HZ.out.1 HEE.out.1 K1.out.2 K1.out.1.e (by omega)).mono ?_; rintro e v2 ⟨rfl, hb⟩; have K2 := Lib.hid (K1.out.1.call hb); obtain ⟨u0, u1, u2, u3⟩ := (QQ8.out.keep K2.out.bel).cells; clear hb)
                  | (go_at_call 10; refine (HE1.out _ HR.out.1.bel).mono ?_; rintro e v1 ⟨G1, h1, rfl, harr, hb⟩; have K1 := Lib.hid (And.intro (HR.out.1.call hb) harr); clear harr hb))
                go_returns
                exact ⟨by first | rfl | simp, JT8.out.bel.trans (K6.out.bel.mono JT8.out.bel.size)⟩
end Go.Proofs.Ytpeoomdfopjlmaa
