/- Ends, Small of this seat, in one text. -/
import Derived.Test.YtfjgfabochiflaaEnMemTc
import Derived.Sort.CutIn
import Derived.Deep.QuietTactic
/- nfa.Ends. -/
namespace Go.Proofs.Ytfjgfabochiflaa
open Go.RowKit Go.Shelf
attribute [local go_sem] Oper.semAt_some

def frE (w : World) (A : Option Addr) (n c S : Nat) (a z : Int) (s : ByteArray) (g eb p0 : Nat) (A2 : Option Addr) (n2 c2 : Nat) (u : Nat → Value) : Array Value :=
  #[.agg #[.int .i64 (S : Int), .int .i64 a, .int .i64 z, .slice A n c], .string s, .int .i64 (p0 : Int), .pointer (some ⟨w.heap.size, 0, none⟩), .pointer (some ⟨w.heap.size + 1, 0, none⟩), .pointer (some ⟨w.heap.size + 2, 0, none⟩), .slice none 0 0, .pointer (some ⟨eb, 0, none⟩), .slice A2 n2 c2, .pointer (some ⟨eb + 2, 0, none⟩), (u 10), (u 11), (u 12), (u 13), (u 14), .agg #[.int .i64 (S : Int), .int .i64 a, .int .i64 z, .slice A n c], .bool true, .bool false, .bool false, .int .i64 (p0 : Int), .bool false, .bool false, .bool false, .int .i64 (p0 : Int), .string s, .int .i64 (s.size : Int), .bool false, .bool false, .agg #[.int .i64 (S : Int), .int .i64 a, .int .i64 z, .slice A n c], .slice (some ⟨g, 0, none⟩) S S, .pointer (some ⟨w.heap.size, 1, none⟩), .int .i64 a, .slice (some ⟨eb + 1, 0, none⟩) 1 1, (u 33), (u 34), (u 35), (u 36), (u 37), (u 38), (u 39), (u 40), (u 41), (u 42), (u 43), (u 44), (u 45), (u 46), (u 47), (u 48), (u 49), (u 50), (u 51), (u 52), (u 53), (u 54), (u 55), (u 56), (u 57), (u 58), (u 59), (u 60), (u 61), (u 62), (u 63), (u 64), (u 65), (u 66), (u 67), (u 68), (u 69), (u 70), (u 71), (u 72), (u 73), (u 74), (u 75), (u 76), (u 77), (u 78), (u 79), (u 80), (u 81), (u 82), (u 83), (u 84), (u 85), (u 86), (u 87), (u 88), (u 89), (u 90), (u 91), (u 92), (u 93), (u 94), (u 95), (u 96), (u 97), (u 98)]
def frB (w : World) (A : Option Addr) (n c S : Nat) (a z : Int) (s : ByteArray) (g eb nx p0 : Nat) (A2 : Option Addr) (n2 c2 : Nat) (x : Int) (u : Nat → Value) : Array Value :=
  #[.agg #[.int .i64 (S : Int), .int .i64 a, .int .i64 z, .slice A n c], .string s, .int .i64 (p0 : Int), .pointer (some ⟨w.heap.size, 0, none⟩), .pointer (some ⟨w.heap.size + 1, 0, none⟩), .pointer (some ⟨w.heap.size + 2, 0, none⟩), .slice none 0 0, .pointer (some ⟨eb, 0, none⟩), .slice A2 n2 c2, .pointer (some ⟨eb + 2, 0, none⟩), .pointer (some ⟨nx, 0, none⟩), .pointer (some ⟨nx + 2, 0, none⟩), .int .i64 x, (u 13), (u 14), .agg #[.int .i64 (S : Int), .int .i64 a, .int .i64 z, .slice A n c], .bool true, .bool false, .bool false, .int .i64 (p0 : Int), .bool false, .bool false, .bool false, .int .i64 (p0 : Int), .string s, .int .i64 (s.size : Int), .bool false, .bool false, .agg #[.int .i64 (S : Int), .int .i64 a, .int .i64 z, .slice A n c], .slice (some ⟨g, 0, none⟩) S S, .pointer (some ⟨w.heap.size, 1, none⟩), .int .i64 a, .slice (some ⟨eb + 1, 0, none⟩) 1 1, (u 33), (u 34), .pointer (some ⟨w.heap.size, 0, none⟩), .int .i64 (S : Int), .slice (some ⟨nx + 1, 0, none⟩) S S, .slice (some ⟨g, 0, none⟩) S S, .slice A2 n2 c2, .func (.func 137) #[] #[.pointer (some ⟨nx + 3, 0, none⟩), .pointer (some ⟨nx + 4, 0, none⟩)], .int .i64 x, (u 42), (u 43), (u 44), (u 45), (u 46), (u 47), (u 48), (u 49), (u 50), (u 51), (u 52), (u 53), (u 54), (u 55), (u 56), (u 57), (u 58), (u 59), (u 60), (u 61), (u 62), (u 63), (u 64), (u 65), (u 66), (u 67), (u 68), (u 69), (u 70), (u 71), (u 72), (u 73), (u 74), (u 75), (u 76), (u 77), (u 78), (u 79), (u 80), (u 81), (u 82), (u 83), (u 84), (u 85), (u 86), (u 87), (u 88), (u 89), (u 90), (u 91), (u 92), (u 93), (u 94), (u 95), (u 96), (u 97), (u 98)]
def mkD (D : Nat) : Deferred := { target := .collected D, args := #[] }
structure MarksD (eb : Nat) (Ds : List Nat) (W : World) : Prop where
  nodup : Ds.Nodup
  at_ : ∀ D ∈ Ds, eb + 3 ≤ D ∧ W.heap[D]? = some (.deferred (some []))
def mAt (b m : Nat) (W : World) : Nat :=
  match W.heap[b + 2]? with
  | some (.cells cs _ _) => (match cs.toList with | [.int _ p] => m - p.toNat | _ => 0)
  | _ => 0
theorem marks_leave {n : Nat} {fn : Func} {tmps : Array Value} {R : Ending → World → Prop} (J : World → Prop) (B : Nat) (hJ : ∀ W D, J W → B ≤ D → W.heap[D]? = some (.deferred (some [])) → J (W.putObj D (.deferred none)))
    (hend : ∀ W, J W → LeavesIn Fence.wide n Try.prog fn tmps R [] .returning W) : ∀ (Ds : List Nat) (W : World), Ds.Nodup → (∀ D ∈ Ds, B ≤ D ∧ W.heap[D]? = some (.deferred (some []))) → J W → LeavesInM Fence.wide n Try.prog fn tmps R (Ds.map mkD) .returning W
  | [], W, _, _, h => hend W h
  | D :: Ds, W, hn, hd, h => by
    obtain ⟨h1, h2⟩ := hd D (by simp)
    rw [List.nodup_cons] at hn
    refine ⟨by simp, .inl ⟨_, _, rfl, run_takeDeferred h2, marks_leave J B hJ hend Ds _ hn.2 (fun D' hD' => ?_) (hJ W D h h1 h2)⟩⟩
    obtain ⟨h3, h4⟩ := hd D' (by simp [hD'])
    exact ⟨h3, (World.putObj_heap_other (fun e => hn.1 (by first | (rw [e]; exact hD') | (rw [← e]; exact hD')))).trans h4⟩
theorem mAt_eq {b m p : Nat} {W : World} (h : Boxed W (b + 2) 3 (.int .i64 (p : Int))) : mAt b m W = m - p := by
  unfold mAt
  rw [show W.heap[b + 2]? = _ from h]
  simp

theorem size_data (s : ByteArray) : s.data.toList.length = s.size := by rw [ByteArray.size, Array.length_toList]
theorem index_at (s : ByteArray) (k : Nat) (h : k < s.size) (W : World) : (Instr.index 9 (.string s) (.int .i64 (k : Int))).run Try.prog W = .ok (.int .u8 (byteAt s k : Int)) W := by
  have h' : k < s.data.toList.length := by rw [size_data]; exact h
  rw [run_index_string W 9 s .i64 _ Try.underlying9, dif_pos ⟨by omega, by omega⟩]
  have e : s.data.toList.getD k 0 = s[k] := by
    rw [List.getD_eq_getElem?_getD, List.getElem?_eq_getElem h']
    rfl
  simp only [byteAt, e, Int.toNat_natCast]
structure S16 (bw nx eB p j : Nat) (S : Nat) (s : ByteArray) (f bq : Bool) (t0 t1 t2 t3 : Int) (W' : World) : Prop where
  a : W'.cell? ⟨bw + 2, 0, none⟩ = some (.int .i64 (p : Int))
  b : W'.cell? ⟨bw + 1, 0, none⟩ = some (.string s)
  c : W'.cell? ⟨eB, 1, none⟩ = some (.int .i64 (j : Int))
  d : W'.cell? ⟨eB, 2, none⟩ = some (.bool f)
  e : W'.cell? ⟨eB, 3, none⟩ = some (.int .u64 t0)
  f : W'.cell? ⟨eB, 4, none⟩ = some (.int .u64 t1)
  g : W'.cell? ⟨eB, 5, none⟩ = some (.int .u64 t2)
  h : W'.cell? ⟨eB, 6, none⟩ = some (.int .u64 t3)
  i : W'.cell? ⟨nx + 2, 0, none⟩ = some (.slice (some ⟨nx + 1, 0, none⟩) S S)
  j : W'.cell? ⟨nx + 1, j, none⟩ = some (.bool bq)

theorem cell_al {W : World} {a : Addr} {v : Value} (h : W.cell? a = some v) (o : Obj) : (W.alloc o).cell? a = some v := (World.cell?_alloc_lt _ _ _ (World.block_lt_of_cell? W a h)).trans h
theorem S16.alloc {bw nx eB p j S : Nat} {s : ByteArray} {f bq : Bool} {t0 t1 t2 t3 : Int} {W : World} (h : S16 bw nx eB p j S s f bq t0 t1 t2 t3 W) (o : Obj) : S16 bw nx eB p j S s f bq t0 t1 t2 t3 (W.alloc o) :=
  ⟨cell_al h.a o, cell_al h.b o, cell_al h.c o, cell_al h.d o, cell_al h.e o, cell_al h.f o, cell_al h.g o, cell_al h.h o, cell_al h.i o, cell_al h.j o⟩

set_option linter.unusedSimpArgs false in
set_option maxRecDepth 100000 in
set_option maxHeartbeats 16000000 in
theorem ends_ok (A : Option Addr) (n c S : Nat) (a z : Int) (E : List Ed) (s : ByteArray) (p0 : Nat) (w : World) (h : NfaIn w A n ⟨(S : Int), a, z, E⟩) (hr : RightN ⟨(S : Int), a, z, E⟩)
    (hu : ∀ e ∈ E, U64w e.s0 ∧ U64w e.s1 ∧ U64w e.s2 ∧ U64w e.s3) (hp : p0 ≤ s.size) (hs : s.size ≤ 1000000) :
    Calls Try.prog 92 #[.agg #[.int .i64 (S : Int), .int .i64 a, .int .i64 z, .slice A n c], .string s, .int .i64 (p0 : Int)] w fun e w' => ∃ A9 c9, e = .returned (.slice A9 (endsN E S a z s p0).length c9) ∧ Arr w' w'.heap.size 1 A9 (endsN E S a z s p0).length (NumC .i64 (endsN E S a z s p0)) ∧ Below w.heap.size w w' := by
  obtain ⟨i3, hi3, hz3, hsz3, hbt3⟩ := info_parts info3
  obtain ⟨W1, hW1⟩ : ∃ W1, W1 = ((w.alloc (.cells #[.int .i64 (S : Int), .int .i64 a, .int .i64 z, .slice A n c] 118)).alloc (.cells #[.string s] 9)).alloc (.cells #[.int .i64 (p0 : Int)] 3) := ⟨_, rfl⟩
  have hs1 : W1.heap.size = w.heap.size + 3 := by rw [hW1]; simp
  have hb1 : Below w.heap.size w W1 := by rw [hW1]; exact (((Below.refl _ _).alloc (Nat.le_refl _) _).alloc (by simp) _).alloc (by simp; omega) _
  have hnb1 : Blk W1 w.heap.size 118 [.int .i64 (S : Int), .int .i64 a, .int .i64 z, .slice A n c] := by rw [hW1]; exact ((Blk.new w 118 _).alloc _).alloc _
  have hsb1 : Boxed W1 (w.heap.size + 1) 9 (.string s) := by
    have := (Boxed.new (w.alloc (.cells #[.int .i64 (S : Int), .int .i64 a, .int .i64 z, .slice A n c] 118)) 9 (.string s)).alloc (.cells #[.int .i64 (p0 : Int)] 3)
    rw [World.size_alloc] at this
    rw [hW1]; exact this
  have hab1 : Boxed W1 (w.heap.size + 2) 3 (.int .i64 (p0 : Int)) := by
    have := Boxed.new ((w.alloc (.cells #[.int .i64 (S : Int), .int .i64 a, .int .i64 z, .slice A n c] 118)).alloc (.cells #[.string s] 9)) 3 (.int .i64 (p0 : Int))
    rw [World.size_alloc, World.size_alloc] at this
    rw [hW1]; exact this
  have HRT := Lib.hid (nright_any A n c S a z E W1 (h.keep hb1))
  rw [rightN_yes hr] at HRT
  have hS : S ≤ 2000 := by have : (S : Int) ≤ 2000 := hr.hi; omega
  have hmk := fun W => make_one 44 4 (.bool false) 1 Try.underlying44 info4 rfl S hS (by omega) W
  have HLV := Lib.hid (fun W (hW : Below w.heap.size w W) => leaving_ok A n c S a z E W (h.keep hW) hr)
  have HCL := Lib.hid (fun g A2 n2 c2 W => closure_any (some ⟨g, 0, none⟩) A2 S S n2 c2 W)
  have HB1 := Lib.hid hb1
  have H := Lib.hid h
  have HR := Lib.hid hr
  have HU := Lib.hid hu
  have HNB1 := Lib.hid (And.intro hnb1 (And.intro hsb1 hab1))
  have d1 : decide ((p0 : Int) < 0) = false := by simp
  have d2 : decide ((s.size : Int) < (p0 : Int)) = false := by simp; omega
  have d3 : decide (s.size < p0) = false := by simp; omega
  clear h hr hb1 hu hnb1 hsb1 hab1
  refine (callsIn_wide (n := 6)).1 ?_
  refine callsIn_of_wp_marks Try.func92 rfl trivial ?_ rfl
  simp only [Try.ntmps92, List.size_toArray, List.length_cons, List.length_nil, Nat.reduceAdd, Nat.reduceSub, Array.replicate_succ, Array.replicate_zero, List.push_toArray, List.append_toArray, List.nil_append, List.cons_append]
  gi_wp2_with (first
    | (refine ⟨trivial, ?_⟩; gi_at_call 90; rw [← hW1]; refine (callsIn_wide.2 HRT.out).mono ?_; rintro e w2 ⟨rfl, hb2⟩;
       have hs2 := hb2.size;
       have hnb2 : Blk w2 w.heap.size 118 [.int .i64 (S : Int), .int .i64 a, .int .i64 z, .slice A n c] := HNB1.out.1.below hb2 HNB1.out.1.lt;
       have hsb2 : Boxed w2 (w.heap.size + 1) 9 (.string s) := (hb2.block _ HNB1.out.2.1.lt).trans HNB1.out.2.1;
       have hab2 : Boxed w2 (w.heap.size + 2) 3 (.int .i64 (p0 : Int)) := (hb2.block _ HNB1.out.2.2.lt).trans HNB1.out.2.2;
       have m0 := hnb2.cell 0; have m1 := hnb2.cell 1; have m2 := hnb2.cell 2; have m3 := hnb2.cell 3;
       simp only [List.getElem?_cons_zero, List.getElem?_cons_succ] at m0 m1 m2 m3;
       have m4 := hsb2.cell; have m5 := hab2.cell;
       have HB2 := Lib.hid (HB1.out.trans (hb2.mono (by omega)));
       have HNB2 := Lib.hid (And.intro hnb2 (And.intro hsb2 hab2)); clear hb2 hnb2 hsb2 hab2)
    | (refine ⟨trivial, ?_⟩; gi_at_call 124; refine (callsIn_wide.2 (HLV.out w2 HB2.out)).mono ?_; rintro e w3 ⟨g, RA, rc, rfl, hrows, hb3, hg1, hg2, hra⟩;
       have HROWS := Lib.hid hrows; have HB3 := Lib.hid hb3; have HG := Lib.hid (And.intro hg1 (And.intro hg2 hra)); clear hrows hg1 hg2 hra;
       have n1 : w3.cell? ⟨w.heap.size, 1, none⟩ = some (.int .i64 a) := (hb3.cell (p := ⟨w.heap.size, 1, none⟩) HNB2.out.1.lt).trans m1;
       have n1' : (w3.alloc (.cells #[.slice (some ⟨g, 0, none⟩) S S] 207)).cell? ⟨w.heap.size, 1, none⟩ = some (.int .i64 a) := (World.cell?_alloc_lt _ _ _ (Nat.lt_of_lt_of_le HNB2.out.1.lt hb3.size)).trans n1; clear hb3 m0 m1 m2 m3 m4 m5))
  -- LOOP
  obtain ⟨eb, heb⟩ : ∃ eb, eb = w3.heap.size := ⟨_, rfl⟩
  rw [show w.heap.size + 1 + 1 = w.heap.size + 2 from rfl, show w3.heap.size + 1 + 1 = w3.heap.size + 2 from rfl, ← heb]
  obtain ⟨W0, hW0⟩ : ∃ W0, W0 = ((w3.alloc (.cells #[.slice (some ⟨g, 0, none⟩) S S] 207)).alloc (.cells #[.int .i64 a] 3)).alloc (.cells #[.slice none 0 0] 32) := ⟨_, rfl⟩
  rw [← hW0]
  have hsw3 : w2.heap.size ≤ w3.heap.size := HB3.out.size
  have hs0 : W0.heap.size = eb + 3 := by rw [hW0, heb]; simp
  have hb30 : Below w3.heap.size w3 W0 := by rw [hW0]; exact (((Below.refl _ w3).alloc (Nat.le_refl _) _).alloc (by simp) _).alloc (by simp; omega) _
  have hb20 : Below w2.heap.size w2 W0 := HB3.out.trans (hb30.mono hsw3)
  have hs2w : w.heap.size + 3 ≤ w2.heap.size := by omega
  have hec : EC w A n c S a z E s g RA rc eb p0 (.slice none 0 0) [] W0 := by
    refine ⟨HNB2.out.1.below hb20 HNB2.out.1.lt, (hb20.block _ HNB2.out.2.1.lt).trans HNB2.out.2.1, (hb20.block _ HNB2.out.2.2.lt).trans HNB2.out.2.2, ?_, HROWS.out.keep hb30, ?_, World.ownsRow_nil _ _ _ _, HB2.out.trans (hb20.mono (by omega)), by have := HG.out.2.1; omega, by have := HG.out.1; omega, fun k x hk e => by have := HG.out.2.2 k x hk e; omega, by omega⟩
    · rw [hW0, heb]; exact ((Boxed.new w3 207 _).alloc _).alloc _
    · have := Boxed.new ((w3.alloc (.cells #[.slice (some ⟨g, 0, none⟩) S S] 207)).alloc (.cells #[.int .i64 a] 3)) 32 (.slice none 0 0)
      rw [World.size_alloc, World.size_alloc] at this
      rw [hW0, heb]; exact this
  have hnow : Arr W0 W0.heap.size 1 (some ⟨eb + 1, 0, none⟩) 1 (NumC .i64 [a]) := fun _ => by
    refine ⟨eb + 1, 0, rfl, by omega, fun k j hk hj => ?_⟩
    obtain rfl : k = 0 := by omega
    obtain rfl : j = 0 := by omega
    have := (Boxed.new (w3.alloc (.cells #[.slice (some ⟨g, 0, none⟩) S S] 207)) 3 (.int .i64 a)).alloc (.cells #[.slice none 0 0] 32)
    have := this.cell
    rw [World.size_alloc, ← heb] at this
    rw [hW0]
    simpa [NumC] using this
  have ha0 : 0 ≤ a := HR.out.alo
  have haS : a < (S : Int) := HR.out.ahi
  have HEC := Lib.hid (And.intro hec (And.intro hnow hs0))
  have HE := Lib.hid (okE_of HR.out)
  have hEl : E.length ≤ 16000 := HR.out.few
  have HAZ := Lib.hid (And.intro ha0 haS)
  clear hec hnow hb30 hb20 heb hW0 hs0 ha0 haS n1 n1' hs2w hsw3 hs1 hW1
  refine wpIn_loop (fun ac W => ∃ (t : Array Value) (A2 : Option Addr) (n2 c2 : Nat) (L : List Int) (vout : Value) (out : List Int) (p : Nat) (Ds : List Nat),
    ac = { tmps := t, defers := Ds.map mkD } ∧ t = frE w A n c S a z s g eb p0 A2 n2 c2 (fun k => t.getD k undef) ∧
    p0 ≤ p ∧ p ≤ s.size ∧ EC w A n c S a z E s g RA rc eb p vout out W ∧ L.length = n2 ∧ n2 ≤ 2001 ∧ Arr W W.heap.size 1 A2 n2 (NumC .i64 L) ∧ (0 < n2 → ∀ x, A2 = some x → x.block ≠ eb + 2 ∧ vout.ownBlock ≠ some x.block ∧ x.block < W.heap.size) ∧
    (∀ i, Rch E S L i ↔ On E S a s p0 p i) ∧ out = outsTo (onB E S a z s p0) p0 (p - p0) ∧ MarksD eb Ds W) (fun _ W => mAt w.heap.size s.size W) ?start ?round
  case start =>
    refine ⟨_, some ⟨eb + 1, 0, none⟩, 1, 1, [a], .slice none 0 0, [], p0, [], rfl, rfl, Nat.le_refl _, hp, HEC.out.1, rfl, by omega, HEC.out.2.1, fun _ x e => by cases e; exact ⟨by simp, by simp [Value.ownBlock], by have := HEC.out.2.2; simp only; omega⟩,
      on_start (by simp) HAZ.out, by simp [outsTo], ⟨by simp, by simp⟩⟩
  case round =>
    rintro ac W ⟨t, A2, n2, c2, L, vout, out, p, Ds, rfl, htt, hlo, hps, hec, hL, hn2, hlst, hsepA, hrch, hout, hmarks⟩
    obtain ⟨u, hu9⟩ : ∃ u : Nat → Value, u = fun k => t.getD k undef := ⟨_, rfl⟩
    rw [← hu9] at htt
    clear hu9
    subst htt
    unfold frE
    have HE0 := Lib.hid hec
    have HLST := Lib.hid hlst
    have HSEP := Lib.hid hsepA
    have HRCH := Lib.hid hrch
    have HOUT := Lib.hid hout
    have HMK := Lib.hid hmarks
    clear hec hlst hsepA hrch hout hmarks d1 d2 d3 HNB1 HNB2 HB1 HB2 HB3 HG HROWS HLV HRT H HEC
    have hnb := HE0.out.nb
    have hcS : (W.alloc (.cells #[.slice none 0 0] 32)).cell? ⟨w.heap.size, 0, none⟩ = some (.int .i64 (S : Int)) := ((hnb.alloc (.cells #[.slice none 0 0] 32)).cell 0).trans rfl
    obtain ⟨V3, hV3⟩ : ∃ V3, V3 = ((W.alloc (.cells #[.slice none 0 0] 32)).alloc (.cells (Array.replicate S (.bool false)) 4)).alloc (.cells #[.slice (some ⟨W.heap.size + 1, 0, none⟩) S S] 44) := ⟨_, rfl⟩
    have hcE : V3.cell? ⟨eb, 0, none⟩ = some (.slice (some ⟨g, 0, none⟩) S S) := by
      rw [hV3]
      exact (((HE0.out.ebx.alloc _).alloc _).alloc _).cell
    have HV3 := Lib.hid hV3
    rw [hV3] at hcE
    clear hnb hV3
    gi_wp2_with (first
      | (refine ⟨trivial, ?_⟩; gi_at_call 125; refine (callsIn_wide.2 (HCL.out _ _ _ _ _)).mono ?_; rintro e w4 ⟨rfl, rfl⟩))
    rw [← HV3.out]
    obtain ⟨nx, hnx⟩ : ∃ nx, nx = W.heap.size := ⟨_, rfl⟩
    rw [show W.heap.size + 1 + 1 + 1 + 1 = W.heap.size + 4 from rfl, show W.heap.size + 1 + 1 + 1 = W.heap.size + 3 from rfl, show W.heap.size + 1 + 1 = W.heap.size + 2 from rfl, ← hnx]
    obtain ⟨Wr, hWr⟩ : ∃ Wr, Wr = (V3.alloc (.cells #[.slice (some ⟨g, 0, none⟩) S S] 207)).alloc (.cells #[.slice A2 n2 c2] 32) := ⟨_, rfl⟩
    rw [← hWr]
    have hV := HV3.out
    rw [← hnx] at hV
    have hv3s : V3.heap.size = nx + 3 := by rw [hV, hnx]; simp
    have hwrs : Wr.heap.size = nx + 5 := by rw [hWr]; simp [hv3s]
    have hgrow : W.grownBy Wr none := by
      rw [hWr, hV]
      refine ⟨rfl, rfl, rfl, by simp; omega, fun b hb _ => ?_⟩
      rw [Below.heap_alloc _ _ _ (by simp; omega), Below.heap_alloc _ _ _ (by simp; omega), Below.heap_alloc _ _ _ (by simp; omega), Below.heap_alloc _ _ _ (by simp; omega), Below.heap_alloc _ _ _ hb]
    have hrep : Array.replicate S (Value.bool false) = ((List.replicate S false).map Value.bool).toArray := by simp
    have hob := HE0.out.obl
    have hej : EJ w A n c S a z E s g RA rc eb nx p vout out (.slice none 0 0) [] (List.replicate S false) Wr := by
      refine ⟨HE0.out.grown hgrow (fun r e => by cases e), ?_, World.ownsRow_nil _ _ _ _, ?_, ?_, fun b e => by simp [Value.ownBlock] at e, by omega, by omega⟩
      · rw [hWr, hV, hnx]; exact ((((Boxed.new W 32 (.slice none 0 0)).alloc _).alloc _).alloc _).alloc _
      · rw [hWr, hV, hrep]
        have := (((Blk.new (W.alloc (.cells #[.slice none 0 0] 32)) 4 ((List.replicate S false).map Value.bool)).alloc (.cells #[.slice (some ⟨nx + 1, 0, none⟩) S S] 44)).alloc (.cells #[.slice (some ⟨g, 0, none⟩) S S] 207)).alloc (.cells #[.slice A2 n2 c2] 32)
        rw [World.size_alloc, ← hnx] at this
        exact this
      · rw [hWr, hV]
        have := ((Boxed.new ((W.alloc (.cells #[.slice none 0 0] 32)).alloc (.cells (Array.replicate S (.bool false)) 4)) 44 (.slice (some ⟨nx + 1, 0, none⟩) S S)).alloc (.cells #[.slice (some ⟨g, 0, none⟩) S S] 207)).alloc (.cells #[.slice A2 n2 c2] 32)
        rw [World.size_alloc, World.size_alloc, ← hnx] at this
        exact this
    have hcf : CFacts Wr (nx + 3) (nx + 4) g S E RA rc A2 n2 c2 L := by
      refine ⟨?_, ?_, hej.core.rows, (HLST.out.keepB (fun x e hn => hgrow.block _ (HSEP.out hn x e).2.2 (fun e => by cases e))).more hgrow.size⟩
      · rw [hWr]
        have := ((Boxed.new V3 207 (.slice (some ⟨g, 0, none⟩) S S)).alloc (.cells #[.slice A2 n2 c2] 32)).cell
        rw [hv3s] at this
        exact this
      · rw [hWr]
        have := (Boxed.new (V3.alloc (.cells #[.slice (some ⟨g, 0, none⟩) S S] 207)) 32 (.slice A2 n2 c2)).cell
        rw [World.size_alloc, hv3s] at this
        exact this
    have hol : ∀ b, vout.ownBlock = some b → eb + 3 ≤ b ∧ b < nx := fun b hb => by rw [hnx]; exact HE0.out.orl hb
    have hnot : ∀ r, r < nx ∨ nx + 3 ≤ r → r ≠ eb + 2 → vout.ownBlock ≠ some r → ¬ XE nx eb Wr r := fun r h1 h2 h3 hx => by
      rcases (hej.xe r).1 hx with h9 | h9 | h9 | h9 | h9
      · omega
      · omega
      · exact h2 h9
      · simp [Value.ownBlock] at h9
      · exact h3 h9
    have hX : ∀ W', Keep (XE nx eb) Wr W' → CFacts W' (nx + 3) (nx + 4) g S E RA rc A2 n2 c2 L := by
      have hgl := HE0.out.glt
      refine cfacts_of hcf (hnot _ (.inr (by omega)) (by omega) (fun e => by have := (hol _ e).2; omega)) (hnot _ (.inr (by omega)) (by omega) (fun e => by have := (hol _ e).2; omega)) (hnot _ (.inl (by omega)) (by omega) (fun e => by have := (hol _ e).1; omega))
        (fun k hk x hx => by have := HE0.out.rlt k x hk hx; exact hnot _ (.inl (by omega)) (by omega) (fun e => by have := (hol _ e).1; omega)) (fun hn x hx => by have h9 := HSEP.out hn x hx; exact hnot _ (.inl (by omega)) h9.1 h9.2.1)
    have hDs : ∀ D ∈ Ds, D < nx ∧ Wr.heap[D]? = some (.deferred (some [])) := fun D hD => by
      have h9 := (HMK.out.at_ D hD).2
      have h8 := (Array.getElem?_eq_some_iff.1 h9).1
      exact ⟨by omega, (hgrow.block D h8 (fun e => by cases e)).trans h9⟩
    have HX := Lib.hid hX
    have HEJ := Lib.hid hej
    have HDS := Lib.hid hDs
    have HOB := Lib.hid (And.intro hob (And.intro hnx (And.intro hwrs hol)))
    have hoL : out.length ≤ 1000001 := by rw [HOUT.out]; have := outsTo_len (onB E S a z s p0) p0 (p - p0); omega
    clear hX hej hDs hnot hol hcf hob hrep hgrow hwrs hv3s hV hWr hnx hcE hcS HLST HSEP
    refine range_law 6 (by omega) (gf := 137) (lb := #[.pointer (some ⟨nx + 3, 0, none⟩), .pointer (some ⟨nx + 4, 0, none⟩)]) rfl (enters_of Try.func137 (by kernel_rfl) rfl)
      (XE nx eb) (fun pre x => x ∉ pre ∧ Rch E S L x) (fun xs => xs.Nodup ∧ ∀ i, i ∈ xs ↔ Rch E S L i)
      (clo_in 5 (by omega) (nx + 3) (nx + 4) g S hS E HE.out hEl RA rc A2 n2 c2 L hL (by omega) (XE nx eb) Wr HX.out)
      (fun pre Wc => ∃ vout' vnext next inl, EJ w A n c S a z E s g RA rc eb nx p vout' (out ++ (if z ∈ pre then [(p : Int)] else [])) vnext next inl Wc ∧ Nxt S s p (fun e => e ∈ E ∧ e.src ∈ pre) next inl ∧ Wr.heap.size ≤ Wc.heap.size ∧ ∀ D ∈ Ds, Wc.heap[D]? = some (.deferred (some [])))
      ?inv ?cells ?begin (fun x => { tmps := frB w A n c S a z s g eb nx p0 A2 n2 c2 x u, defers := [] }) ?assign ?body ?done
    case inv =>
      rintro pre Wc W' row ⟨vout', vnext, next, inl, hej, hnx, hsz, hds⟩ hg hr
      have hab := hej.abide hg (B0 := Wr.heap.size) (by have := HOB.out.2.2.1; omega) hr
      exact ⟨⟨vout', vnext, next, inl, hab.1, hnx, Nat.le_trans hsz hg.size, fun D hD => (hg.block D (Array.getElem?_eq_some_iff.1 (hds D hD)).1 (fun e => by have := (hr D e.symm).1; have := (HDS.out D hD).1; have := HOB.out.2.2.1; omega)).trans (hds D hD)⟩, hab.2⟩
    case cells =>
      rintro pre Wc ⟨vout', vnext, next, inl, hej, _⟩ r hx
      exact hej.xcells r hx
    case begin =>
      refine ⟨vout, .slice none 0 0, [], List.replicate S false, by simpa using HEJ.out, Nxt.begin.iff (by simp), Nat.le_refl _, fun D hD => (HDS.out D hD).2⟩
    case assign =>
      intro l x Wc K hK
      gi_wp2
      exact hK
    case body =>
      rintro l pre x Wc ⟨vout', vnext, next, inl, hej, hnx, hszc, hds⟩ ⟨hxp, hxr⟩
      obtain ⟨hx0, hxS⟩ := hxr.range HE.out
      obtain ⟨i, rfl⟩ := Int.eq_ofNat_of_zero_le hx0
      have hi : i < S := by omega
      have hiS : (i : Int) < (S : Int) := hxS
      unfold frB
      have hc2 : Wc.cell? ⟨w.heap.size, 2, none⟩ = some (.int .i64 z) := (hej.core.nb.cell 2).trans rfl
      have hcob := hej.core.obx.cell
      have hcab := hej.core.ab.cell
      have HJ0 := Lib.hid hej
      have HN := Lib.hid hnx
      have HDS2 := Lib.hid hds
      have hxr2 := Lib.hid (And.intro hxp hxr)
      clear hej hnx hds hxp hxr
      gi_upto_if 45 with (fail)
      gi_cut [] from 42 (fun wx => ∃ v2, BJ w A n c S a z E s g RA rc eb nx p Wc v2 (out ++ (if z ∈ pre ++ [(i : Int)] then [(p : Int)] else [])) vnext next inl wx)
      case first =>
        by_cases hz : (i : Int) = z
        · have ez : ((i : Int) == z) = true := by simp [hz]
          have hzp : ¬ z ∈ pre := fun h9 => hxr2.out.1 (hz ▸ h9)
          have hzq : z ∈ pre ++ [(i : Int)] := by simp [hz]
          have hJ1 := HJ0.out
          rw [if_neg hzp, List.append_nil] at hJ1
          have HJ1 := Lib.hid hJ1
          have hbl := hJ1.core.obl
          have HZQ := Lib.hid hzq
          have hcn := cell_one_new Wc (.int .i64 (p : Int)) 3
          clear hzp hzq hz hJ1
          gi_wp2_with (first
            | (gi_at_builtin; (refine wpListIn_append_lies _ rfl _ _ 32 rfl (eb + 3) 3 i3 (.int .i64 0) 1 8 Try.underlying32 hi3 hz3 hsz3 hbt3 rfl (by decide) vout' _ _ rfl (HJ1.out.core.orow.alloc _) ⟨Wc.heap.size, 0, none⟩ 1 1 [.int .i64 p] rfl rfl hcn (by simp [Value.oneCell']) (by omega) (by unfold maxLen; omega) (by omega) (by simp; omega) ?_; intro g5 c5 w5 hown5 hgrow5 hat5 _; have HA := Lib.hid (((BJ.start HJ1.out).alloc _).appOut hgrow5 hown5 hat5); have hbx5 : Boxed w5 (eb + 2) 32 vout' := ((HJ1.out.core.obx.alloc _).kept hgrow5 (fun e => by have := (HJ1.out.core.orl e.symm).1; omega)); have hc5 := hbx5.cell; have hf5 := hbx5.frozen; clear hown5 hgrow5 hat5 hbx5)))
          gi_meet
          exact ⟨_, by rw [if_pos HZQ.out]; exact HA.out⟩
        · have ez : ((i : Int) == z) = false := by simp [hz]
          have hif : (if z ∈ pre ++ [(i : Int)] then [(p : Int)] else []) = (if z ∈ pre then [(p : Int)] else []) := by
            have : z ∈ pre ++ [(i : Int)] ↔ z ∈ pre := by simp [Ne.symm hz]
            simp only [this]
          have HIF := Lib.hid hif
          clear hif hz
          gi_wp2
          gi_meet
          exact ⟨vout', by rw [HIF.out]; exact BJ.start HJ0.out⟩
      case rest =>
        obtain ⟨v2, hbj⟩ := hcut
        obtain ⟨o2, ho2⟩ : ∃ o2, o2 = out ++ (if z ∈ pre ++ [(i : Int)] then [(p : Int)] else []) := ⟨_, rfl⟩
        rw [← ho2] at hbj
        have HO2 := Lib.hid ho2
        have HBJ := Lib.hid hbj
        have hce := hbj.ej.core.ebx.cell
        obtain ⟨b6, o6, he6, _, hr6⟩ := hbj.ej.core.rows.arr.one hi
        simp only [Option.some.injEq, Addr.mk.injEq, and_true] at he6
        obtain ⟨rfl, rfl⟩ := he6
        rw [Nat.zero_add] at hr6
        have hlv : (leave E i).length ≤ 16000 := Nat.le_trans (leave_len _ _) hEl
        obtain ⟨ln, hln⟩ : ∃ ln, ln = (leave E i).length := ⟨_, rfl⟩
        obtain ⟨A6, hA6⟩ : ∃ A6, A6 = RA i := ⟨_, rfl⟩
        obtain ⟨c6, hc6⟩ : ∃ c6, c6 = rc i := ⟨_, rfl⟩
        rw [← hln, ← hA6, ← hc6] at hr6
        rw [← hln] at hlv
        have HA6 := Lib.hid hA6
        have HLN := Lib.hid hln
        clear ho2 hbj hln hA6 hc6 hc2 hcob hcab
        gi_wp2
        gi_loopw [55] (fun v wr => ∃ (q : Nat) (vn : Value) (nxt : List Int) (inl' : List Bool), v = .int .i64 q ∧ q ≤ ln ∧ BJ w A n c S a z E s g RA rc eb nx p Wc v2 o2 vn nxt inl' wr ∧ Nxt S s p (fun e => (e ∈ E ∧ e.src ∈ pre) ∨ e ∈ (leave E i).take q) nxt inl') (fun v _ => ln - (intOf v).toNat)
        case atStart => exact ⟨0, _, _, _, rfl, by omega, HBJ.out, HN.out.iff (fun e => by simp)⟩
        case round =>
          obtain ⟨q, vn, nxt, inl', rfl, hq, hbj, hnxt⟩ := hrel
          obtain ⟨w4, rfl⟩ : ∃ w4 : World, w4 = wr := ⟨_, rfl⟩
          have HB4 := Lib.hid hbj
          have HN4 := Lib.hid hnxt
          by_cases hlt : q < ln
          · have har := hbj.ej.core.rows.row i hi
            rw [← HLN.out, ← HA6.out] at har
            obtain ⟨b7, o7, rfl, hbl7, s0, s1, s2, s3, s4, s5, s6⟩ := har.seven hlt
            have h8 : q < (leave E i).length := by rw [← HLN.out]; exact hlt
            have hem : (leave E i).getD q noEd ∈ leave E i := by
              have : (leave E i).getD q noEd = (leave E i)[q] := by simp [h8]
              rw [this]; exact List.getElem_mem _
            have htk : (leave E i).take (q + 1) = (leave E i).take q ++ [(leave E i).getD q noEd] := by
              rw [List.take_succ_eq_append_getElem h8]
              simp [h8]
            obtain ⟨e, he⟩ : ∃ e, e = (leave E i).getD q noEd := ⟨_, rfl⟩
            rw [← he] at s0 s1 s2 s3 s4 s5 s6 hem htk
            have hem2 := List.mem_filter.1 hem
            obtain ⟨_, _, hy0, hyS⟩ := HE.out e hem2.1
            have hD : ∀ e', ((e' ∈ E ∧ e'.src ∈ pre) ∨ e' ∈ (leave E i).take (q + 1)) ↔ ((e' ∈ E ∧ e'.src ∈ pre) ∨ e' ∈ (leave E i).take q) ∨ e' = e := fun e' => by
              rw [htk, List.mem_append, List.mem_singleton, or_assoc]
            have HD := Lib.hid hD
            have HUU := Lib.hid (HU.out e hem2.1)
            have HB5 := Lib.hid (hbj.alloc (.cells #[.int .i64 e.src, .int .i64 e.dst, .bool e.free, .int .u64 e.s0, .int .u64 e.s1, .int .u64 e.s2, .int .u64 e.s3] 203))
            have hEB := Blk.new w4 203 [.int .i64 e.src, .int .i64 e.dst, .bool e.free, .int .u64 e.s0, .int .u64 e.s1, .int .u64 e.s2, .int .u64 e.s3]
            have HEB := Lib.hid hEB
            have hql : (q : Int) < (ln : Int) := by omega
            have hRd : Rd e s p ↔ e.free = false ∧ hasB e.s0 e.s1 e.s2 e.s3 (byteAt s p) = true := Iff.rfl
            have HRD := Lib.hid hRd
            have HDST := Lib.hid (rfl : e.dst = e.dst)
            clear he hem htk hem2 hD har h8 hbj hnxt hEB hRd hr6 hce
            obtain ⟨x, y, f, t0, t1, t2, t3⟩ := e
            simp only at s0 s1 s2 s3 s4 s5 s6 hy0 hyS HD HUU HB5 HEB HRD
            obtain ⟨j, rfl⟩ := Int.eq_ofNat_of_zero_le hy0
            have hj : j < S := by omega
            have hil := HN4.out.len
            have HD5 := Lib.hid HB5.out.drew
            have HED := Lib.hid ((HEB.out.drewN 1 : Blk (w4.alloc (.cells #[.int .i64 x, .int .i64 (j : Int), .bool f, .int .u64 t0, .int .u64 t1, .int .u64 t2, .int .u64 t3] 203)).drew w4.heap.size 203 _))
            obtain ⟨bq, hbq⟩ : ∃ bq, bq = inl'.getD j false := ⟨_, rfl⟩
            have HBQ := Lib.hid hbq
            have hS5 : S16 w.heap.size nx w4.heap.size p j S s f bq t0 t1 t2 t3 (w4.alloc (.cells #[.int .i64 x, .int .i64 (j : Int), .bool f, .int .u64 t0, .int .u64 t1, .int .u64 t2, .int .u64 t3] 203)).drew :=
              ⟨HD5.out.ej.core.ab.cell, HD5.out.ej.core.sb.cell, (HED.out.cell 1).trans rfl, (HED.out.cell 2).trans rfl, (HED.out.cell 3).trans rfl, (HED.out.cell 4).trans rfl, (HED.out.cell 5).trans rfl, (HED.out.cell 6).trans rfl, HD5.out.ej.ibx.cell, by rw [hbq]; exact HD5.out.ej.ginCell (by omega)⟩
            have HS5 := Lib.hid hS5
            clear hS5 hbq
            gi_upto_region 16 with (fail)
            by_cases hpl : p < s.size
            · have e1 : decide ((p : Int) < (s.size : Int)) = true := by simp; omega
              have e1n : decide (p < s.size) = true := by simp; omega
              cases f with
              | true =>
                refine wpIn_region_held (S := S16 w.heap.size nx w4.heap.size p j S s true bq t0 t1 t2 t3) (by kernel_rfl) (by kernel_rfl) HS5.out (fun hSw => ?_)
                refine take_l (i := 0) (v := .int .i64 (p : Int)) rfl (by kernel_rfl) (by kernel_rfl) (by kernel_rfl) (fun _ _ _ h => h) ?hy1 (by assumption) ?rest1
                case hy1 => exact Or.inl ⟨by rfl, fun w' hw' => by (obtain ⟨_, _, _, _, _, _, _, _, _, _⟩ := hw'; go_simp)⟩
                (try simp only [Act.put, List.setIfInBounds_toArray, List.set_cons_zero, List.set_cons_succ])
                refine take_l (i := 1) (v := .string s) rfl (by kernel_rfl) (by kernel_rfl) (by kernel_rfl) (fun _ _ _ h => h) ?hy2 (by assumption) ?rest2
                case hy2 => exact Or.inl ⟨by rfl, fun w' hw' => by (obtain ⟨_, _, _, _, _, _, _, _, _, _⟩ := hw'; go_simp)⟩
                (try simp only [Act.put, List.setIfInBounds_toArray, List.set_cons_zero, List.set_cons_succ])
                refine take_l (i := 2) (v := .int .i64 (s.size : Int)) rfl (by kernel_rfl) (by kernel_rfl) (by kernel_rfl) (fun _ _ _ h => h) ?hy3 (by assumption) ?rest3
                case hy3 => exact Or.inl ⟨by rfl, fun w' hw' => by (obtain ⟨_, _, _, _, _, _, _, _, _, _⟩ := hw'; go_simp)⟩
                (try simp only [Act.put, List.setIfInBounds_toArray, List.set_cons_zero, List.set_cons_succ])
                refine take_l (i := 3) (v := .bool true) rfl (by kernel_rfl) (by kernel_rfl) (by kernel_rfl) (fun _ _ _ h => h) ?hy4 (by assumption) ?rest4
                case hy4 => exact Or.inl ⟨by rfl, fun w' hw' => by (obtain ⟨_, _, _, _, _, _, _, _, _, _⟩ := hw'; go_simp)⟩
                (try simp only [Act.put, List.setIfInBounds_toArray, List.set_cons_zero, List.set_cons_succ])
                refine take_l (i := 4) (v := .bool true) rfl (by kernel_rfl) (by kernel_rfl) (by kernel_rfl) (fun _ _ _ h => h) ?hy5 (by assumption) ?rest5
                case hy5 => exact Or.inl ⟨by rfl, fun w' hw' => by (obtain ⟨_, _, _, _, _, _, _, _, _, _⟩ := hw'; go_simp)⟩
                (try simp only [Act.put, List.setIfInBounds_toArray, List.set_cons_zero, List.set_cons_succ])
                refine take_l (i := 5) (v := .pointer (some ⟨w4.heap.size, 2, none⟩)) rfl (by kernel_rfl) (by kernel_rfl) (by kernel_rfl) (fun _ _ _ h => h) ?hy6 (by assumption) ?rest6
                case hy6 => exact Or.inl ⟨by rfl, fun w' hw' => by (obtain ⟨_, _, _, _, _, _, _, _, _, _⟩ := hw'; go_simp)⟩
                (try simp only [Act.put, List.setIfInBounds_toArray, List.set_cons_zero, List.set_cons_succ])
                refine take_l (i := 6) (v := .bool true) rfl (by kernel_rfl) (by kernel_rfl) (by kernel_rfl) (fun _ _ _ h => h) ?hy7 (by assumption) ?rest7
                case hy7 => exact Or.inl ⟨by rfl, fun w' hw' => by (obtain ⟨_, _, _, _, _, _, _, _, _, _⟩ := hw'; go_simp)⟩
                (try simp only [Act.put, List.setIfInBounds_toArray, List.set_cons_zero, List.set_cons_succ])
                refine take_l (i := 7) (v := .bool false) rfl (by kernel_rfl) (by kernel_rfl) (by kernel_rfl) (fun _ _ _ h => h) ?hy8 (by assumption) ?rest8
                case hy8 => exact Or.inl ⟨by rfl, fun w' hw' => by (obtain ⟨_, _, _, _, _, _, _, _, _, _⟩ := hw'; go_simp)⟩
                (try simp only [Act.put, List.setIfInBounds_toArray, List.set_cons_zero, List.set_cons_succ])
                refine take_l (i := 8) (v := .bool false) rfl (by kernel_rfl) (by kernel_rfl) (by kernel_rfl) (fun _ _ _ h => h) ?hy9 (by assumption) ?rest9
                case hy9 => exact Or.inl ⟨by rfl, fun w' hw' => by (obtain ⟨_, _, _, _, _, _, _, _, _, _⟩ := hw'; go_simp)⟩
                (try simp only [Act.put, List.setIfInBounds_toArray, List.set_cons_zero, List.set_cons_succ])
                refine take_l (i := 9) (v := .bool false) rfl (by kernel_rfl) (by kernel_rfl) (by kernel_rfl) (fun _ _ _ h => h) ?hy10 (by assumption) ?rest10
                case hy10 => exact Or.inl ⟨by rfl, fun w' hw' => by (obtain ⟨_, _, _, _, _, _, _, _, _, _⟩ := hw'; go_simp)⟩
                (try simp only [Act.put, List.setIfInBounds_toArray, List.set_cons_zero, List.set_cons_succ])
                refine take_l (i := 10) (v := undef) rfl (by kernel_rfl) (by kernel_rfl) (by kernel_rfl) (fun _ _ _ h => h) ?hy11 (by assumption) ?rest11
                case hy11 => exact Or.inr ⟨by rfl, rfl⟩
                (try simp only [Act.put, List.setIfInBounds_toArray, List.set_cons_zero, List.set_cons_succ])
                refine take_l (i := 11) (v := undef) rfl (by kernel_rfl) (by kernel_rfl) (by kernel_rfl) (fun _ _ _ h => h) ?hy12 (by assumption) ?rest12
                case hy12 => exact Or.inr ⟨by rfl, rfl⟩
                (try simp only [Act.put, List.setIfInBounds_toArray, List.set_cons_zero, List.set_cons_succ])
                refine take_l (i := 12) (v := undef) rfl (by kernel_rfl) (by kernel_rfl) (by kernel_rfl) (fun _ _ _ h => h) ?hy13 (by assumption) ?rest13
                case hy13 => exact Or.inr ⟨by rfl, rfl⟩
                (try simp only [Act.put, List.setIfInBounds_toArray, List.set_cons_zero, List.set_cons_succ])
                refine take_l (i := 13) (v := undef) rfl (by kernel_rfl) (by kernel_rfl) (by kernel_rfl) (fun _ _ _ h => h) ?hy14 (by assumption) ?rest14
                case hy14 => exact Or.inr ⟨by rfl, rfl⟩
                (try simp only [Act.put, List.setIfInBounds_toArray, List.set_cons_zero, List.set_cons_succ])
                refine take_l (i := 14) (v := undef) rfl (by kernel_rfl) (by kernel_rfl) (by kernel_rfl) (fun _ _ _ h => h) ?hy15 (by assumption) ?rest15
                case hy15 => exact Or.inr ⟨by rfl, rfl⟩
                (try simp only [Act.put, List.setIfInBounds_toArray, List.set_cons_zero, List.set_cons_succ])
                refine take_l (i := 15) (v := undef) rfl (by kernel_rfl) (by kernel_rfl) (by kernel_rfl) (fun _ _ _ h => h) ?hy16 (by assumption) ?rest16
                case hy16 => exact Or.inr ⟨by rfl, rfl⟩
                (try simp only [Act.put, List.setIfInBounds_toArray, List.set_cons_zero, List.set_cons_succ])
                refine take_l (i := 16) (v := .bool false) rfl (by kernel_rfl) (by kernel_rfl) (by kernel_rfl) (fun _ _ _ h => h) ?hy17 (by assumption) ?rest17
                case hy17 => exact Or.inl ⟨by rfl, fun w' hw' => by (obtain ⟨_, _, _, _, _, _, _, _, _, _⟩ := hw'; go_simp)⟩
                (try simp only [Act.put, List.setIfInBounds_toArray, List.set_cons_zero, List.set_cons_succ])
                refine take_l (i := 17) (v := .bool false) rfl (by kernel_rfl) (by kernel_rfl) (by kernel_rfl) (fun _ _ _ h => h) ?hy18 (by assumption) ?rest18
                case hy18 => exact Or.inl ⟨by rfl, fun w' hw' => by (obtain ⟨_, _, _, _, _, _, _, _, _, _⟩ := hw'; go_simp)⟩
                (try simp only [Act.put, List.setIfInBounds_toArray, List.set_cons_zero, List.set_cons_succ])
                refine take_l (i := 18) (v := undef) rfl (by kernel_rfl) (by kernel_rfl) (by kernel_rfl) (fun _ _ _ h => h) ?hy19 (by assumption) ?rest19
                case hy19 => exact Or.inr ⟨by rfl, rfl⟩
                (try simp only [Act.put, List.setIfInBounds_toArray, List.set_cons_zero, List.set_cons_succ])
                refine take_l (i := 19) (v := undef) rfl (by kernel_rfl) (by kernel_rfl) (by kernel_rfl) (fun _ _ _ h => h) ?hy20 (by assumption) ?rest20
                case hy20 => exact Or.inr ⟨by rfl, rfl⟩
                (try simp only [Act.put, List.setIfInBounds_toArray, List.set_cons_zero, List.set_cons_succ])
                refine take_l (i := 20) (v := undef) rfl (by kernel_rfl) (by kernel_rfl) (by kernel_rfl) (fun _ _ _ h => h) ?hy21 (by assumption) ?rest21
                case hy21 => exact Or.inr ⟨by rfl, rfl⟩
                (try simp only [Act.put, List.setIfInBounds_toArray, List.set_cons_zero, List.set_cons_succ])
                refine take_l (i := 21) (v := undef) rfl (by kernel_rfl) (by kernel_rfl) (by kernel_rfl) (fun _ _ _ h => h) ?hy22 (by assumption) ?rest22
                case hy22 => exact Or.inr ⟨by rfl, rfl⟩
                (try simp only [Act.put, List.setIfInBounds_toArray, List.set_cons_zero, List.set_cons_succ])
                refine take_l (i := 22) (v := undef) rfl (by kernel_rfl) (by kernel_rfl) (by kernel_rfl) (fun _ _ _ h => h) ?hy23 (by assumption) ?rest23
                case hy23 => exact Or.inr ⟨by rfl, rfl⟩
                (try simp only [Act.put, List.setIfInBounds_toArray, List.set_cons_zero, List.set_cons_succ])
                refine take_l (i := 23) (v := undef) rfl (by kernel_rfl) (by kernel_rfl) (by kernel_rfl) (fun _ _ _ h => h) ?hy24 (by assumption) ?rest24
                case hy24 => exact Or.inr ⟨by rfl, rfl⟩
                (try simp only [Act.put, List.setIfInBounds_toArray, List.set_cons_zero, List.set_cons_succ])
                refine take_l (i := 24) (v := .bool false) rfl (by kernel_rfl) (by kernel_rfl) (by kernel_rfl) (fun _ _ _ h => h) ?hy25 (by assumption) ?rest25
                case hy25 => exact Or.inl ⟨by rfl, fun w' hw' => by (obtain ⟨_, _, _, _, _, _, _, _, _, _⟩ := hw'; go_simp)⟩
                (try simp only [Act.put, List.setIfInBounds_toArray, List.set_cons_zero, List.set_cons_succ])
                refine wpAnyH_done (by kernel_rfl) ⟨by simp, ?_⟩ _
                clear hSw
                gi_wp2
                go_roundw
                case rel => exact ⟨q + 1, vn, nxt, inl', by go_num, by omega, HD5.out, HN4.out.skip HD.out (fun h9 => by have := h9.2.1; simp at this)⟩
                case measure => simp [intOf]; omega
              | false =>
                cases bq with
                | true =>
                  refine wpIn_region_held (S := S16 w.heap.size nx w4.heap.size p j S s false true t0 t1 t2 t3) (by kernel_rfl) (by kernel_rfl) HS5.out (fun hSw => ?_)
                  refine take_l (i := 0) (v := .int .i64 (p : Int)) rfl (by kernel_rfl) (by kernel_rfl) (by kernel_rfl) (fun _ _ _ h => h) ?hy26 (by assumption) ?rest26
                  case hy26 => exact Or.inl ⟨by rfl, fun w' hw' => by (obtain ⟨_, _, _, _, _, _, _, _, _, _⟩ := hw'; go_simp)⟩
                  (try simp only [Act.put, List.setIfInBounds_toArray, List.set_cons_zero, List.set_cons_succ])
                  refine take_l (i := 1) (v := .string s) rfl (by kernel_rfl) (by kernel_rfl) (by kernel_rfl) (fun _ _ _ h => h) ?hy27 (by assumption) ?rest27
                  case hy27 => exact Or.inl ⟨by rfl, fun w' hw' => by (obtain ⟨_, _, _, _, _, _, _, _, _, _⟩ := hw'; go_simp)⟩
                  (try simp only [Act.put, List.setIfInBounds_toArray, List.set_cons_zero, List.set_cons_succ])
                  refine take_l (i := 2) (v := .int .i64 (s.size : Int)) rfl (by kernel_rfl) (by kernel_rfl) (by kernel_rfl) (fun _ _ _ h => h) ?hy28 (by assumption) ?rest28
                  case hy28 => exact Or.inl ⟨by rfl, fun w' hw' => by (obtain ⟨_, _, _, _, _, _, _, _, _, _⟩ := hw'; go_simp)⟩
                  (try simp only [Act.put, List.setIfInBounds_toArray, List.set_cons_zero, List.set_cons_succ])
                  refine take_l (i := 3) (v := .bool true) rfl (by kernel_rfl) (by kernel_rfl) (by kernel_rfl) (fun _ _ _ h => h) ?hy29 (by assumption) ?rest29
                  case hy29 => exact Or.inl ⟨by rfl, fun w' hw' => by (obtain ⟨_, _, _, _, _, _, _, _, _, _⟩ := hw'; go_simp)⟩
                  (try simp only [Act.put, List.setIfInBounds_toArray, List.set_cons_zero, List.set_cons_succ])
                  refine take_l (i := 4) (v := .bool true) rfl (by kernel_rfl) (by kernel_rfl) (by kernel_rfl) (fun _ _ _ h => h) ?hy30 (by assumption) ?rest30
                  case hy30 => exact Or.inl ⟨by rfl, fun w' hw' => by (obtain ⟨_, _, _, _, _, _, _, _, _, _⟩ := hw'; go_simp)⟩
                  (try simp only [Act.put, List.setIfInBounds_toArray, List.set_cons_zero, List.set_cons_succ])
                  refine take_l (i := 5) (v := .pointer (some ⟨w4.heap.size, 2, none⟩)) rfl (by kernel_rfl) (by kernel_rfl) (by kernel_rfl) (fun _ _ _ h => h) ?hy31 (by assumption) ?rest31
                  case hy31 => exact Or.inl ⟨by rfl, fun w' hw' => by (obtain ⟨_, _, _, _, _, _, _, _, _, _⟩ := hw'; go_simp)⟩
                  (try simp only [Act.put, List.setIfInBounds_toArray, List.set_cons_zero, List.set_cons_succ])
                  refine take_l (i := 6) (v := .bool false) rfl (by kernel_rfl) (by kernel_rfl) (by kernel_rfl) (fun _ _ _ h => h) ?hy32 (by assumption) ?rest32
                  case hy32 => exact Or.inl ⟨by rfl, fun w' hw' => by (obtain ⟨_, _, _, _, _, _, _, _, _, _⟩ := hw'; go_simp)⟩
                  (try simp only [Act.put, List.setIfInBounds_toArray, List.set_cons_zero, List.set_cons_succ])
                  refine take_l (i := 7) (v := .bool true) rfl (by kernel_rfl) (by kernel_rfl) (by kernel_rfl) (fun _ _ _ h => h) ?hy33 (by assumption) ?rest33
                  case hy33 => exact Or.inl ⟨by rfl, fun w' hw' => by (obtain ⟨_, _, _, _, _, _, _, _, _, _⟩ := hw'; go_simp)⟩
                  (try simp only [Act.put, List.setIfInBounds_toArray, List.set_cons_zero, List.set_cons_succ])
                  refine take_l (i := 8) (v := .bool true) rfl (by kernel_rfl) (by kernel_rfl) (by kernel_rfl) (fun _ _ _ h => h) ?hy34 (by assumption) ?rest34
                  case hy34 => exact Or.inl ⟨by rfl, fun w' hw' => by (obtain ⟨_, _, _, _, _, _, _, _, _, _⟩ := hw'; go_simp)⟩
                  (try simp only [Act.put, List.setIfInBounds_toArray, List.set_cons_zero, List.set_cons_succ])
                  refine take_l (i := 9) (v := .bool true) rfl (by kernel_rfl) (by kernel_rfl) (by kernel_rfl) (fun _ _ _ h => h) ?hy35 (by assumption) ?rest35
                  case hy35 => exact Or.inl ⟨by rfl, fun w' hw' => by (obtain ⟨_, _, _, _, _, _, _, _, _, _⟩ := hw'; go_simp)⟩
                  (try simp only [Act.put, List.setIfInBounds_toArray, List.set_cons_zero, List.set_cons_succ])
                  refine take_l (i := 10) (v := .slice (some ⟨nx + 1, 0, none⟩) S S) rfl (by kernel_rfl) (by kernel_rfl) (by kernel_rfl) (fun _ _ _ h => h) ?hy36 (by assumption) ?rest36
                  case hy36 => exact Or.inl ⟨by rfl, fun w' hw' => by (obtain ⟨_, _, _, _, _, _, _, _, _, _⟩ := hw'; go_simp)⟩
                  (try simp only [Act.put, List.setIfInBounds_toArray, List.set_cons_zero, List.set_cons_succ])
                  refine take_l (i := 11) (v := .pointer (some ⟨w4.heap.size, 1, none⟩)) rfl (by kernel_rfl) (by kernel_rfl) (by kernel_rfl) (fun _ _ _ h => h) ?hy37 (by assumption) ?rest37
                  case hy37 => exact Or.inl ⟨by rfl, fun w' hw' => by (obtain ⟨_, _, _, _, _, _, _, _, _, _⟩ := hw'; go_simp)⟩
                  (try simp only [Act.put, List.setIfInBounds_toArray, List.set_cons_zero, List.set_cons_succ])
                  refine take_l (i := 12) (v := .int .i64 (j : Int)) rfl (by kernel_rfl) (by kernel_rfl) (by kernel_rfl) (fun _ _ _ h => h) ?hy38 (by assumption) ?rest38
                  case hy38 => exact Or.inl ⟨by rfl, fun w' hw' => by (obtain ⟨_, _, _, _, _, _, _, _, _, _⟩ := hw'; go_simp)⟩
                  (try simp only [Act.put, List.setIfInBounds_toArray, List.set_cons_zero, List.set_cons_succ])
                  refine take_l (i := 13) (v := .pointer (some ⟨nx + 1, j, none⟩)) rfl (by kernel_rfl) (by kernel_rfl) (by kernel_rfl) (fun _ _ _ h => h) ?hy39 (by assumption) ?rest39
                  case hy39 => exact Or.inl ⟨by rfl, fun w' hw' => by (obtain ⟨_, _, _, _, _, _, _, _, _, _⟩ := hw'; go_simp)⟩
                  (try simp only [Act.put, List.setIfInBounds_toArray, List.set_cons_zero, List.set_cons_succ])
                  refine take_l (i := 14) (v := .bool true) rfl (by kernel_rfl) (by kernel_rfl) (by kernel_rfl) (fun _ _ _ h => h) ?hy40 (by assumption) ?rest40
                  case hy40 => exact Or.inl ⟨by rfl, fun w' hw' => by (obtain ⟨_, _, _, _, _, _, _, _, _, _⟩ := hw'; go_simp)⟩
                  (try simp only [Act.put, List.setIfInBounds_toArray, List.set_cons_zero, List.set_cons_succ])
                  refine take_l (i := 15) (v := .bool false) rfl (by kernel_rfl) (by kernel_rfl) (by kernel_rfl) (fun _ _ _ h => h) ?hy41 (by assumption) ?rest41
                  case hy41 => exact Or.inl ⟨by rfl, fun w' hw' => by (obtain ⟨_, _, _, _, _, _, _, _, _, _⟩ := hw'; go_simp)⟩
                  (try simp only [Act.put, List.setIfInBounds_toArray, List.set_cons_zero, List.set_cons_succ])
                  refine take_l (i := 16) (v := .bool false) rfl (by kernel_rfl) (by kernel_rfl) (by kernel_rfl) (fun _ _ _ h => h) ?hy42 (by assumption) ?rest42
                  case hy42 => exact Or.inl ⟨by rfl, fun w' hw' => by (obtain ⟨_, _, _, _, _, _, _, _, _, _⟩ := hw'; go_simp)⟩
                  (try simp only [Act.put, List.setIfInBounds_toArray, List.set_cons_zero, List.set_cons_succ])
                  refine take_l (i := 17) (v := .bool false) rfl (by kernel_rfl) (by kernel_rfl) (by kernel_rfl) (fun _ _ _ h => h) ?hy43 (by assumption) ?rest43
                  case hy43 => exact Or.inl ⟨by rfl, fun w' hw' => by (obtain ⟨_, _, _, _, _, _, _, _, _, _⟩ := hw'; go_simp)⟩
                  (try simp only [Act.put, List.setIfInBounds_toArray, List.set_cons_zero, List.set_cons_succ])
                  refine take_l (i := 18) (v := undef) rfl (by kernel_rfl) (by kernel_rfl) (by kernel_rfl) (fun _ _ _ h => h) ?hy44 (by assumption) ?rest44
                  case hy44 => exact Or.inr ⟨by rfl, rfl⟩
                  (try simp only [Act.put, List.setIfInBounds_toArray, List.set_cons_zero, List.set_cons_succ])
                  refine take_l (i := 19) (v := undef) rfl (by kernel_rfl) (by kernel_rfl) (by kernel_rfl) (fun _ _ _ h => h) ?hy45 (by assumption) ?rest45
                  case hy45 => exact Or.inr ⟨by rfl, rfl⟩
                  (try simp only [Act.put, List.setIfInBounds_toArray, List.set_cons_zero, List.set_cons_succ])
                  refine take_l (i := 20) (v := undef) rfl (by kernel_rfl) (by kernel_rfl) (by kernel_rfl) (fun _ _ _ h => h) ?hy46 (by assumption) ?rest46
                  case hy46 => exact Or.inr ⟨by rfl, rfl⟩
                  (try simp only [Act.put, List.setIfInBounds_toArray, List.set_cons_zero, List.set_cons_succ])
                  refine take_l (i := 21) (v := undef) rfl (by kernel_rfl) (by kernel_rfl) (by kernel_rfl) (fun _ _ _ h => h) ?hy47 (by assumption) ?rest47
                  case hy47 => exact Or.inr ⟨by rfl, rfl⟩
                  (try simp only [Act.put, List.setIfInBounds_toArray, List.set_cons_zero, List.set_cons_succ])
                  refine take_l (i := 22) (v := undef) rfl (by kernel_rfl) (by kernel_rfl) (by kernel_rfl) (fun _ _ _ h => h) ?hy48 (by assumption) ?rest48
                  case hy48 => exact Or.inr ⟨by rfl, rfl⟩
                  (try simp only [Act.put, List.setIfInBounds_toArray, List.set_cons_zero, List.set_cons_succ])
                  refine take_l (i := 23) (v := undef) rfl (by kernel_rfl) (by kernel_rfl) (by kernel_rfl) (fun _ _ _ h => h) ?hy49 (by assumption) ?rest49
                  case hy49 => exact Or.inr ⟨by rfl, rfl⟩
                  (try simp only [Act.put, List.setIfInBounds_toArray, List.set_cons_zero, List.set_cons_succ])
                  refine take_l (i := 24) (v := .bool false) rfl (by kernel_rfl) (by kernel_rfl) (by kernel_rfl) (fun _ _ _ h => h) ?hy50 (by assumption) ?rest50
                  case hy50 => exact Or.inl ⟨by rfl, fun w' hw' => by (obtain ⟨_, _, _, _, _, _, _, _, _, _⟩ := hw'; go_simp)⟩
                  (try simp only [Act.put, List.setIfInBounds_toArray, List.set_cons_zero, List.set_cons_succ])
                  refine wpAnyH_done (by kernel_rfl) ⟨by simp, ?_⟩ _
                  clear hSw
                  gi_wp2
                  go_roundw
                  case rel => exact ⟨q + 1, vn, nxt, inl', by go_num, by omega, HD5.out, HN4.out.dup HD.out hj rfl HBQ.out.symm⟩
                  case measure => simp [intOf]; omega
                | false =>
                  obtain ⟨cb, hcb⟩ : ∃ cb, cb = byteAt s p := ⟨_, rfl⟩
                  have hcbl : cb < 256 := by rw [hcb]; exact byteAt_lt s p
                  have hidx : ∀ W, (Instr.index 9 (.string s) (.int .i64 (p : Int))).run Try.prog W = .ok (.int .u8 (cb : Int)) W := fun W => by rw [hcb]; exact index_at s p hpl W
                  obtain ⟨hb, hhb⟩ : ∃ hb, hb = hasB t0 t1 t2 t3 cb := ⟨_, rfl⟩
                  have HHB := Lib.hid (And.intro hhb hcb)
                  have HHAS := Lib.hid (fun W => has_any t0 t1 t2 t3 HUU.out.1 HUU.out.2.1 HUU.out.2.2.1 HUU.out.2.2.2 cb hcbl W)
                  rw [← hhb] at HHAS
                  clear hhb hcb
                  refine wpIn_region_held (S := S16 w.heap.size nx w4.heap.size p j S s false false t0 t1 t2 t3) (by kernel_rfl) (by kernel_rfl) HS5.out (fun hSw => ?_)
                  refine take_l (i := 0) (v := .int .i64 (p : Int)) rfl (by kernel_rfl) (by kernel_rfl) (by kernel_rfl) (fun _ _ _ h => h) ?hy51 (by assumption) ?rest51
                  case hy51 => exact Or.inl ⟨by rfl, fun w' hw' => by (obtain ⟨_, _, _, _, _, _, _, _, _, _⟩ := hw'; go_simp)⟩
                  (try simp only [Act.put, List.setIfInBounds_toArray, List.set_cons_zero, List.set_cons_succ])
                  refine take_l (i := 1) (v := .string s) rfl (by kernel_rfl) (by kernel_rfl) (by kernel_rfl) (fun _ _ _ h => h) ?hy52 (by assumption) ?rest52
                  case hy52 => exact Or.inl ⟨by rfl, fun w' hw' => by (obtain ⟨_, _, _, _, _, _, _, _, _, _⟩ := hw'; go_simp)⟩
                  (try simp only [Act.put, List.setIfInBounds_toArray, List.set_cons_zero, List.set_cons_succ])
                  refine take_l (i := 2) (v := .int .i64 (s.size : Int)) rfl (by kernel_rfl) (by kernel_rfl) (by kernel_rfl) (fun _ _ _ h => h) ?hy53 (by assumption) ?rest53
                  case hy53 => exact Or.inl ⟨by rfl, fun w' hw' => by (obtain ⟨_, _, _, _, _, _, _, _, _, _⟩ := hw'; go_simp)⟩
                  (try simp only [Act.put, List.setIfInBounds_toArray, List.set_cons_zero, List.set_cons_succ])
                  refine take_l (i := 3) (v := .bool true) rfl (by kernel_rfl) (by kernel_rfl) (by kernel_rfl) (fun _ _ _ h => h) ?hy54 (by assumption) ?rest54
                  case hy54 => exact Or.inl ⟨by rfl, fun w' hw' => by (obtain ⟨_, _, _, _, _, _, _, _, _, _⟩ := hw'; go_simp)⟩
                  (try simp only [Act.put, List.setIfInBounds_toArray, List.set_cons_zero, List.set_cons_succ])
                  refine take_l (i := 4) (v := .bool true) rfl (by kernel_rfl) (by kernel_rfl) (by kernel_rfl) (fun _ _ _ h => h) ?hy55 (by assumption) ?rest55
                  case hy55 => exact Or.inl ⟨by rfl, fun w' hw' => by (obtain ⟨_, _, _, _, _, _, _, _, _, _⟩ := hw'; go_simp)⟩
                  (try simp only [Act.put, List.setIfInBounds_toArray, List.set_cons_zero, List.set_cons_succ])
                  refine take_l (i := 5) (v := .pointer (some ⟨w4.heap.size, 2, none⟩)) rfl (by kernel_rfl) (by kernel_rfl) (by kernel_rfl) (fun _ _ _ h => h) ?hy56 (by assumption) ?rest56
                  case hy56 => exact Or.inl ⟨by rfl, fun w' hw' => by (obtain ⟨_, _, _, _, _, _, _, _, _, _⟩ := hw'; go_simp)⟩
                  (try simp only [Act.put, List.setIfInBounds_toArray, List.set_cons_zero, List.set_cons_succ])
                  refine take_l (i := 6) (v := .bool false) rfl (by kernel_rfl) (by kernel_rfl) (by kernel_rfl) (fun _ _ _ h => h) ?hy57 (by assumption) ?rest57
                  case hy57 => exact Or.inl ⟨by rfl, fun w' hw' => by (obtain ⟨_, _, _, _, _, _, _, _, _, _⟩ := hw'; go_simp)⟩
                  (try simp only [Act.put, List.setIfInBounds_toArray, List.set_cons_zero, List.set_cons_succ])
                  refine take_l (i := 7) (v := .bool true) rfl (by kernel_rfl) (by kernel_rfl) (by kernel_rfl) (fun _ _ _ h => h) ?hy58 (by assumption) ?rest58
                  case hy58 => exact Or.inl ⟨by rfl, fun w' hw' => by (obtain ⟨_, _, _, _, _, _, _, _, _, _⟩ := hw'; go_simp)⟩
                  (try simp only [Act.put, List.setIfInBounds_toArray, List.set_cons_zero, List.set_cons_succ])
                  refine take_l (i := 8) (v := .bool true) rfl (by kernel_rfl) (by kernel_rfl) (by kernel_rfl) (fun _ _ _ h => h) ?hy59 (by assumption) ?rest59
                  case hy59 => exact Or.inl ⟨by rfl, fun w' hw' => by (obtain ⟨_, _, _, _, _, _, _, _, _, _⟩ := hw'; go_simp)⟩
                  (try simp only [Act.put, List.setIfInBounds_toArray, List.set_cons_zero, List.set_cons_succ])
                  refine take_l (i := 9) (v := .bool true) rfl (by kernel_rfl) (by kernel_rfl) (by kernel_rfl) (fun _ _ _ h => h) ?hy60 (by assumption) ?rest60
                  case hy60 => exact Or.inl ⟨by rfl, fun w' hw' => by (obtain ⟨_, _, _, _, _, _, _, _, _, _⟩ := hw'; go_simp)⟩
                  (try simp only [Act.put, List.setIfInBounds_toArray, List.set_cons_zero, List.set_cons_succ])
                  refine take_l (i := 10) (v := .slice (some ⟨nx + 1, 0, none⟩) S S) rfl (by kernel_rfl) (by kernel_rfl) (by kernel_rfl) (fun _ _ _ h => h) ?hy61 (by assumption) ?rest61
                  case hy61 => exact Or.inl ⟨by rfl, fun w' hw' => by (obtain ⟨_, _, _, _, _, _, _, _, _, _⟩ := hw'; go_simp)⟩
                  (try simp only [Act.put, List.setIfInBounds_toArray, List.set_cons_zero, List.set_cons_succ])
                  refine take_l (i := 11) (v := .pointer (some ⟨w4.heap.size, 1, none⟩)) rfl (by kernel_rfl) (by kernel_rfl) (by kernel_rfl) (fun _ _ _ h => h) ?hy62 (by assumption) ?rest62
                  case hy62 => exact Or.inl ⟨by rfl, fun w' hw' => by (obtain ⟨_, _, _, _, _, _, _, _, _, _⟩ := hw'; go_simp)⟩
                  (try simp only [Act.put, List.setIfInBounds_toArray, List.set_cons_zero, List.set_cons_succ])
                  refine take_l (i := 12) (v := .int .i64 (j : Int)) rfl (by kernel_rfl) (by kernel_rfl) (by kernel_rfl) (fun _ _ _ h => h) ?hy63 (by assumption) ?rest63
                  case hy63 => exact Or.inl ⟨by rfl, fun w' hw' => by (obtain ⟨_, _, _, _, _, _, _, _, _, _⟩ := hw'; go_simp)⟩
                  (try simp only [Act.put, List.setIfInBounds_toArray, List.set_cons_zero, List.set_cons_succ])
                  refine take_l (i := 13) (v := .pointer (some ⟨nx + 1, j, none⟩)) rfl (by kernel_rfl) (by kernel_rfl) (by kernel_rfl) (fun _ _ _ h => h) ?hy64 (by assumption) ?rest64
                  case hy64 => exact Or.inl ⟨by rfl, fun w' hw' => by (obtain ⟨_, _, _, _, _, _, _, _, _, _⟩ := hw'; go_simp)⟩
                  (try simp only [Act.put, List.setIfInBounds_toArray, List.set_cons_zero, List.set_cons_succ])
                  refine take_l (i := 14) (v := .bool false) rfl (by kernel_rfl) (by kernel_rfl) (by kernel_rfl) (fun _ _ _ h => h) ?hy65 (by assumption) ?rest65
                  case hy65 => exact Or.inl ⟨by rfl, fun w' hw' => by (obtain ⟨_, _, _, _, _, _, _, _, _, _⟩ := hw'; go_simp)⟩
                  (try simp only [Act.put, List.setIfInBounds_toArray, List.set_cons_zero, List.set_cons_succ])
                  refine take_l (i := 15) (v := .bool true) rfl (by kernel_rfl) (by kernel_rfl) (by kernel_rfl) (fun _ _ _ h => h) ?hy66 (by assumption) ?rest66
                  case hy66 => exact Or.inl ⟨by rfl, fun w' hw' => by (obtain ⟨_, _, _, _, _, _, _, _, _, _⟩ := hw'; go_simp)⟩
                  (try simp only [Act.put, List.setIfInBounds_toArray, List.set_cons_zero, List.set_cons_succ])
                  refine take_l (i := 16) (v := .bool true) rfl (by kernel_rfl) (by kernel_rfl) (by kernel_rfl) (fun _ _ _ h => h) ?hy67 (by assumption) ?rest67
                  case hy67 => exact Or.inl ⟨by rfl, fun w' hw' => by (obtain ⟨_, _, _, _, _, _, _, _, _, _⟩ := hw'; go_simp)⟩
                  (try simp only [Act.put, List.setIfInBounds_toArray, List.set_cons_zero, List.set_cons_succ])
                  refine take_l (i := 17) (v := .bool true) rfl (by kernel_rfl) (by kernel_rfl) (by kernel_rfl) (fun _ _ _ h => h) ?hy68 (by assumption) ?rest68
                  case hy68 => exact Or.inl ⟨by rfl, fun w' hw' => by (obtain ⟨_, _, _, _, _, _, _, _, _, _⟩ := hw'; go_simp)⟩
                  (try simp only [Act.put, List.setIfInBounds_toArray, List.set_cons_zero, List.set_cons_succ])
                  refine take_l (i := 18) (v := .pointer (some ⟨w4.heap.size, 3, none⟩)) rfl (by kernel_rfl) (by kernel_rfl) (by kernel_rfl) (fun _ _ _ h => h) ?hy69 (by assumption) ?rest69
                  case hy69 => exact Or.inl ⟨by rfl, fun w' hw' => by (obtain ⟨_, _, _, _, _, _, _, _, _, _⟩ := hw'; go_simp)⟩
                  (try simp only [Act.put, List.setIfInBounds_toArray, List.set_cons_zero, List.set_cons_succ])
                  refine take_l (i := 19) (v := .agg #[.int .u64 t0, .int .u64 t1, .int .u64 t2, .int .u64 t3]) rfl (by kernel_rfl) (by kernel_rfl) (by kernel_rfl) (fun _ _ _ h => h) ?hy70 (by assumption) ?rest70
                  case hy70 => exact Or.inl ⟨by rfl, fun w' hw' => by (obtain ⟨_, _, _, _, _, _, _, _, _, _⟩ := hw'; go_simp)⟩
                  (try simp only [Act.put, List.setIfInBounds_toArray, List.set_cons_zero, List.set_cons_succ])
                  refine take_l (i := 20) (v := .string s) rfl (by kernel_rfl) (by kernel_rfl) (by kernel_rfl) (fun _ _ _ h => h) ?hy71 (by assumption) ?rest71
                  case hy71 => exact Or.inl ⟨by rfl, fun w' hw' => by (obtain ⟨_, _, _, _, _, _, _, _, _, _⟩ := hw'; go_simp)⟩
                  (try simp only [Act.put, List.setIfInBounds_toArray, List.set_cons_zero, List.set_cons_succ])
                  refine take_l (i := 21) (v := .int .i64 (p : Int)) rfl (by kernel_rfl) (by kernel_rfl) (by kernel_rfl) (fun _ _ _ h => h) ?hy72 (by assumption) ?rest72
                  case hy72 => exact Or.inl ⟨by rfl, fun w' hw' => by (obtain ⟨_, _, _, _, _, _, _, _, _, _⟩ := hw'; go_simp)⟩
                  (try simp only [Act.put, List.setIfInBounds_toArray, List.set_cons_zero, List.set_cons_succ])
                  refine take_l (i := 22) (v := .int .u8 (cb : Int)) rfl (by kernel_rfl) (by kernel_rfl) (by kernel_rfl) (fun _ _ _ h => h) ?hy73 (by assumption) ?rest73
                  case hy73 => exact Or.inl ⟨by rfl, fun w' hw' => by (obtain ⟨_, _, _, _, _, _, _, _, _, _⟩ := hw'; go_simp)⟩
                  (try simp only [Act.put, List.setIfInBounds_toArray, List.set_cons_zero, List.set_cons_succ])
                  refine wpAnyH_ready (rs := [23]) (by kernel_rfl) (by simp) ?_
                  refine cons_l rfl (fun K hK => ?_) AllReadyH.nil
                  rw [if_pos (by rfl)]
                  go_simp
                  go_at_call 126
                  refine (HHAS.out _).mono ?_
                  rintro e w9 ⟨rfl, rfl⟩
                  dsimp only
                  have HS9 := Lib.hid (hSw.alloc (.cells #[.int .u64 t0, .int .u64 t1, .int .u64 t2, .int .u64 t3] 26))
                  refine hK.out _ _ HS9.out (fun hSw2 => ?_)
                  clear hK
                  refine take_l (i := 24) (v := .bool hb) rfl (by kernel_rfl) (by kernel_rfl) (by kernel_rfl) (fun _ _ _ h => h) ?hy74 (by assumption) ?rest74
                  case hy74 => exact Or.inl ⟨by rfl, fun w' hw' => by (obtain ⟨_, _, _, _, _, _, _, _, _, _⟩ := hw'; go_simp)⟩
                  (try simp only [Act.put, List.setIfInBounds_toArray, List.set_cons_zero, List.set_cons_succ])
                  refine wpAnyH_done (by kernel_rfl) ⟨by simp, ?_⟩ _
                  have HD9 := Lib.hid (HD5.out.alloc (.cells #[.int .u64 t0, .int .u64 t1, .int .u64 t2, .int .u64 t3] 26))
                  clear hSw hSw2 hidx
                  obtain ⟨eB, heB⟩ : ∃ eB, eB = w4.heap.size := ⟨_, rfl⟩
                  have heBl : nx + 5 ≤ eB := by rw [heB]; exact HB4.out.ej.nsz
                  rw [← heB] at HS9 ⊢
                  have HHEB := Lib.hid heB
                  clear heB
                  generalize (w4.alloc (.cells #[.int .i64 x, .int .i64 (j : Int), .bool false, .int .u64 t0, .int .u64 t1, .int .u64 t2, .int .u64 t3] 203)).drew.alloc (.cells #[.int .u64 t0, .int .u64 t1, .int .u64 t2, .int .u64 t3] 26) = W9 at HS9 HD9 ⊢
                  cases hb with
                  | false =>
                    gi_wp2
                    go_roundw
                    case rel => exact ⟨q + 1, vn, nxt, inl', by go_num, by omega, HD9.out, HN4.out.skip HD.out (fun h9 => by
                      have h8 := h9.2.2
                      have h7 : hasE ⟨x, (j : Int), false, t0, t1, t2, t3⟩ (byteAt s p) = hasB t0 t1 t2 t3 (byteAt s p) := rfl
                      rw [h7, ← HHB.out.2, ← HHB.out.1] at h8
                      cases h8)⟩
                    case measure => simp [intOf]; omega
                  | true =>
                    have hrd : Rd ⟨x, (j : Int), false, t0, t1, t2, t3⟩ s p := ⟨rfl, by
                      have h7 : hasE ⟨x, (j : Int), false, t0, t1, t2, t3⟩ (byteAt s p) = hasB t0 t1 t2 t3 (byteAt s p) := rfl
                      rw [h7, ← HHB.out.2, ← HHB.out.1]⟩
                    have HRDD := Lib.hid hrd
                    have c1 := HS9.out.c
                    have c2 := HS9.out.i
                    have c3 := HS9.out.j
                    have f3 := HD9.out.ej.gin.frozen j
                    have HD10 := Lib.hid (HD9.out.mark j)
                    have c4 : (W9.setCell ⟨nx + 1, j, none⟩ (.bool true)).cell? ⟨eB, 1, none⟩ = some (.int .i64 (j : Int)) := (World.cell?_setCell_far _ _ _ _ (by simp only; omega)).trans c1
                    have c5 := HD10.out.ej.nbx.cell
                    have hcn : ∀ jj u, [Value.int .i64 (j : Int)][jj]? = some u → ((W9.setCell ⟨nx + 1, j, none⟩ (.bool true)).alloc (.cells #[.int .i64 (j : Int)] 3)).cell? ((⟨W9.heap.size, 0, none⟩ : Addr).add jj) = some u := by
                      have := cell_one_new (W9.setCell ⟨nx + 1, j, none⟩ (.bool true)) (.int .i64 (j : Int)) 3
                      simpa using this
                    have hnl : nxt.length ≤ 2000 := Nat.le_trans HN4.out.few hS
                    have hns := HD10.out.ej.nsz
                    have hnbl := HD10.out.ej.nbx.lt
                    clear hrd
                    gi_wp2_with (first
                      | (gi_at_builtin; go_loud (refine wpListIn_append_lies _ rfl _ _ 32 rfl (nx + 5) 3 i3 (.int .i64 0) 1 8 Try.underlying32 hi3 hz3 hsz3 hbt3 rfl (by decide) vn _ _ rfl (HD10.out.ej.nrow.alloc _) ⟨W9.heap.size, 0, none⟩ 1 1 [.int .i64 j] rfl rfl hcn (by simp [Value.oneCell']) (by omega) (by unfold maxLen; omega) (by omega) (by simp at hns ⊢; omega) ?_; intro g5 c5 w5 hown5 hgrow5 hat5 _; have HA := Lib.hid ((HD10.out.alloc _).appNext hgrow5 hown5 hat5); have hbx5 : Boxed w5 nx 32 vn := ((HD10.out.ej.nbx.alloc _).kept hgrow5 (fun e => by have := (HD10.out.ej.nrl e.symm).1; omega)); have hc5 := hbx5.cell; have hf5 := hbx5.frozen; clear hown5 hgrow5 hat5 hbx5)))
                    go_roundw
                    case rel => exact ⟨q + 1, _, _, _, by go_num, by omega, HA.out, HN4.out.push HD.out hj rfl HBQ.out.symm hpl HRDD.out⟩
                    case measure => simp [intOf]; omega
            · have e1 : decide ((p : Int) < (s.size : Int)) = false := by simp; omega
              have e1n : decide (p < s.size) = false := by simp; omega
              refine wpIn_region_held (S := S16 w.heap.size nx w4.heap.size p j S s f bq t0 t1 t2 t3) (by kernel_rfl) (by kernel_rfl) HS5.out (fun hSw => ?_)
              refine take_l (i := 0) (v := .int .i64 (p : Int)) rfl (by kernel_rfl) (by kernel_rfl) (by kernel_rfl) (fun _ _ _ h => h) ?hy75 (by assumption) ?rest75
              case hy75 => exact Or.inl ⟨by rfl, fun w' hw' => by (obtain ⟨_, _, _, _, _, _, _, _, _, _⟩ := hw'; go_simp)⟩
              (try simp only [Act.put, List.setIfInBounds_toArray, List.set_cons_zero, List.set_cons_succ])
              refine take_l (i := 1) (v := .string s) rfl (by kernel_rfl) (by kernel_rfl) (by kernel_rfl) (fun _ _ _ h => h) ?hy76 (by assumption) ?rest76
              case hy76 => exact Or.inl ⟨by rfl, fun w' hw' => by (obtain ⟨_, _, _, _, _, _, _, _, _, _⟩ := hw'; go_simp)⟩
              (try simp only [Act.put, List.setIfInBounds_toArray, List.set_cons_zero, List.set_cons_succ])
              refine take_l (i := 2) (v := .int .i64 (s.size : Int)) rfl (by kernel_rfl) (by kernel_rfl) (by kernel_rfl) (fun _ _ _ h => h) ?hy77 (by assumption) ?rest77
              case hy77 => exact Or.inl ⟨by rfl, fun w' hw' => by (obtain ⟨_, _, _, _, _, _, _, _, _, _⟩ := hw'; go_simp)⟩
              (try simp only [Act.put, List.setIfInBounds_toArray, List.set_cons_zero, List.set_cons_succ])
              refine take_l (i := 3) (v := .bool false) rfl (by kernel_rfl) (by kernel_rfl) (by kernel_rfl) (fun _ _ _ h => h) ?hy78 (by assumption) ?rest78
              case hy78 => exact Or.inl ⟨by rfl, fun w' hw' => by (obtain ⟨_, _, _, _, _, _, _, _, _, _⟩ := hw'; go_simp)⟩
              (try simp only [Act.put, List.setIfInBounds_toArray, List.set_cons_zero, List.set_cons_succ])
              refine take_l (i := 4) (v := .bool false) rfl (by kernel_rfl) (by kernel_rfl) (by kernel_rfl) (fun _ _ _ h => h) ?hy79 (by assumption) ?rest79
              case hy79 => exact Or.inl ⟨by rfl, fun w' hw' => by (obtain ⟨_, _, _, _, _, _, _, _, _, _⟩ := hw'; go_simp)⟩
              (try simp only [Act.put, List.setIfInBounds_toArray, List.set_cons_zero, List.set_cons_succ])
              refine take_l (i := 5) (v := undef) rfl (by kernel_rfl) (by kernel_rfl) (by kernel_rfl) (fun _ _ _ h => h) ?hy80 (by assumption) ?rest80
              case hy80 => exact Or.inr ⟨by rfl, rfl⟩
              (try simp only [Act.put, List.setIfInBounds_toArray, List.set_cons_zero, List.set_cons_succ])
              refine take_l (i := 6) (v := undef) rfl (by kernel_rfl) (by kernel_rfl) (by kernel_rfl) (fun _ _ _ h => h) ?hy81 (by assumption) ?rest81
              case hy81 => exact Or.inr ⟨by rfl, rfl⟩
              (try simp only [Act.put, List.setIfInBounds_toArray, List.set_cons_zero, List.set_cons_succ])
              refine take_l (i := 7) (v := undef) rfl (by kernel_rfl) (by kernel_rfl) (by kernel_rfl) (fun _ _ _ h => h) ?hy82 (by assumption) ?rest82
              case hy82 => exact Or.inr ⟨by rfl, rfl⟩
              (try simp only [Act.put, List.setIfInBounds_toArray, List.set_cons_zero, List.set_cons_succ])
              refine take_l (i := 8) (v := .bool false) rfl (by kernel_rfl) (by kernel_rfl) (by kernel_rfl) (fun _ _ _ h => h) ?hy83 (by assumption) ?rest83
              case hy83 => exact Or.inl ⟨by rfl, fun w' hw' => by (obtain ⟨_, _, _, _, _, _, _, _, _, _⟩ := hw'; go_simp)⟩
              (try simp only [Act.put, List.setIfInBounds_toArray, List.set_cons_zero, List.set_cons_succ])
              refine take_l (i := 9) (v := .bool false) rfl (by kernel_rfl) (by kernel_rfl) (by kernel_rfl) (fun _ _ _ h => h) ?hy84 (by assumption) ?rest84
              case hy84 => exact Or.inl ⟨by rfl, fun w' hw' => by (obtain ⟨_, _, _, _, _, _, _, _, _, _⟩ := hw'; go_simp)⟩
              (try simp only [Act.put, List.setIfInBounds_toArray, List.set_cons_zero, List.set_cons_succ])
              refine take_l (i := 10) (v := undef) rfl (by kernel_rfl) (by kernel_rfl) (by kernel_rfl) (fun _ _ _ h => h) ?hy85 (by assumption) ?rest85
              case hy85 => exact Or.inr ⟨by rfl, rfl⟩
              (try simp only [Act.put, List.setIfInBounds_toArray, List.set_cons_zero, List.set_cons_succ])
              refine take_l (i := 11) (v := undef) rfl (by kernel_rfl) (by kernel_rfl) (by kernel_rfl) (fun _ _ _ h => h) ?hy86 (by assumption) ?rest86
              case hy86 => exact Or.inr ⟨by rfl, rfl⟩
              (try simp only [Act.put, List.setIfInBounds_toArray, List.set_cons_zero, List.set_cons_succ])
              refine take_l (i := 12) (v := undef) rfl (by kernel_rfl) (by kernel_rfl) (by kernel_rfl) (fun _ _ _ h => h) ?hy87 (by assumption) ?rest87
              case hy87 => exact Or.inr ⟨by rfl, rfl⟩
              (try simp only [Act.put, List.setIfInBounds_toArray, List.set_cons_zero, List.set_cons_succ])
              refine take_l (i := 13) (v := undef) rfl (by kernel_rfl) (by kernel_rfl) (by kernel_rfl) (fun _ _ _ h => h) ?hy88 (by assumption) ?rest88
              case hy88 => exact Or.inr ⟨by rfl, rfl⟩
              (try simp only [Act.put, List.setIfInBounds_toArray, List.set_cons_zero, List.set_cons_succ])
              refine take_l (i := 14) (v := undef) rfl (by kernel_rfl) (by kernel_rfl) (by kernel_rfl) (fun _ _ _ h => h) ?hy89 (by assumption) ?rest89
              case hy89 => exact Or.inr ⟨by rfl, rfl⟩
              (try simp only [Act.put, List.setIfInBounds_toArray, List.set_cons_zero, List.set_cons_succ])
              refine take_l (i := 15) (v := undef) rfl (by kernel_rfl) (by kernel_rfl) (by kernel_rfl) (fun _ _ _ h => h) ?hy90 (by assumption) ?rest90
              case hy90 => exact Or.inr ⟨by rfl, rfl⟩
              (try simp only [Act.put, List.setIfInBounds_toArray, List.set_cons_zero, List.set_cons_succ])
              refine take_l (i := 16) (v := .bool false) rfl (by kernel_rfl) (by kernel_rfl) (by kernel_rfl) (fun _ _ _ h => h) ?hy91 (by assumption) ?rest91
              case hy91 => exact Or.inl ⟨by rfl, fun w' hw' => by (obtain ⟨_, _, _, _, _, _, _, _, _, _⟩ := hw'; go_simp)⟩
              (try simp only [Act.put, List.setIfInBounds_toArray, List.set_cons_zero, List.set_cons_succ])
              refine take_l (i := 17) (v := .bool false) rfl (by kernel_rfl) (by kernel_rfl) (by kernel_rfl) (fun _ _ _ h => h) ?hy92 (by assumption) ?rest92
              case hy92 => exact Or.inl ⟨by rfl, fun w' hw' => by (obtain ⟨_, _, _, _, _, _, _, _, _, _⟩ := hw'; go_simp)⟩
              (try simp only [Act.put, List.setIfInBounds_toArray, List.set_cons_zero, List.set_cons_succ])
              refine take_l (i := 18) (v := undef) rfl (by kernel_rfl) (by kernel_rfl) (by kernel_rfl) (fun _ _ _ h => h) ?hy93 (by assumption) ?rest93
              case hy93 => exact Or.inr ⟨by rfl, rfl⟩
              (try simp only [Act.put, List.setIfInBounds_toArray, List.set_cons_zero, List.set_cons_succ])
              refine take_l (i := 19) (v := undef) rfl (by kernel_rfl) (by kernel_rfl) (by kernel_rfl) (fun _ _ _ h => h) ?hy94 (by assumption) ?rest94
              case hy94 => exact Or.inr ⟨by rfl, rfl⟩
              (try simp only [Act.put, List.setIfInBounds_toArray, List.set_cons_zero, List.set_cons_succ])
              refine take_l (i := 20) (v := undef) rfl (by kernel_rfl) (by kernel_rfl) (by kernel_rfl) (fun _ _ _ h => h) ?hy95 (by assumption) ?rest95
              case hy95 => exact Or.inr ⟨by rfl, rfl⟩
              (try simp only [Act.put, List.setIfInBounds_toArray, List.set_cons_zero, List.set_cons_succ])
              refine take_l (i := 21) (v := undef) rfl (by kernel_rfl) (by kernel_rfl) (by kernel_rfl) (fun _ _ _ h => h) ?hy96 (by assumption) ?rest96
              case hy96 => exact Or.inr ⟨by rfl, rfl⟩
              (try simp only [Act.put, List.setIfInBounds_toArray, List.set_cons_zero, List.set_cons_succ])
              refine take_l (i := 22) (v := undef) rfl (by kernel_rfl) (by kernel_rfl) (by kernel_rfl) (fun _ _ _ h => h) ?hy97 (by assumption) ?rest97
              case hy97 => exact Or.inr ⟨by rfl, rfl⟩
              (try simp only [Act.put, List.setIfInBounds_toArray, List.set_cons_zero, List.set_cons_succ])
              refine take_l (i := 23) (v := undef) rfl (by kernel_rfl) (by kernel_rfl) (by kernel_rfl) (fun _ _ _ h => h) ?hy98 (by assumption) ?rest98
              case hy98 => exact Or.inr ⟨by rfl, rfl⟩
              (try simp only [Act.put, List.setIfInBounds_toArray, List.set_cons_zero, List.set_cons_succ])
              refine take_l (i := 24) (v := .bool false) rfl (by kernel_rfl) (by kernel_rfl) (by kernel_rfl) (fun _ _ _ h => h) ?hy99 (by assumption) ?rest99
              case hy99 => exact Or.inl ⟨by rfl, fun w' hw' => by (obtain ⟨_, _, _, _, _, _, _, _, _, _⟩ := hw'; go_simp)⟩
              (try simp only [Act.put, List.setIfInBounds_toArray, List.set_cons_zero, List.set_cons_succ])
              refine wpAnyH_done (by kernel_rfl) ⟨by simp, ?_⟩ _
              clear hSw
              gi_wp2
              go_roundw
              case rel => exact ⟨q + 1, vn, nxt, inl', by go_num, by omega, HD5.out, HN4.out.skip HD.out (fun h9 => hpl h9.1)⟩
              case measure => simp [intOf]; omega
          · obtain rfl : q = ln := by omega
            clear hbj hnxt
            gi_wp2
            refine ⟨HB4.out.kf.from _, HB4.out.keep, v2, vn, nxt, inl', by rw [← HO2.out]; exact HB4.out.ej, HN4.out.iff (fun e => ?_), Nat.le_trans hszc HB4.out.keep.size, fun D hD => HB4.out.kf.same D _ (HDS2.out D hD) rfl⟩
            · rw [List.take_of_length_le (by rw [HLN.out]; exact Nat.le_refl _)]
              constructor
              · rintro ⟨h1, h2⟩
                rcases List.mem_append.1 h2 with h2 | h2
                · exact .inl ⟨h1, h2⟩
                · exact .inr (List.mem_filter.2 ⟨h1, by simpa using h2⟩)
              · rintro (⟨h1, h2⟩ | h1)
                · exact ⟨h1, List.mem_append_left _ h2⟩
                · have := List.mem_filter.1 h1
                  exact ⟨this.1, List.mem_append_right _ (by simpa using this.2)⟩
    case done =>
      rintro D xs Wd hD ⟨hnd, hxs⟩ ⟨vout', vnext, next, inl, hej, hnx, hszd, hdsd⟩ hK
      have hcn := hej.nbx.cell
      have hco := hej.core.obx.cell
      have hca := hej.core.ab.cell
      have hfa := hej.core.ab.frozen
      have HJD := Lib.hid hej
      have HND := Lib.hid hnx
      have HXS := Lib.hid hxs
      have hplain : (out ++ (if z ∈ xs then [(p : Int)] else [])) = outsTo (onB E S a z s p0) p0 (p - p0 + 1) := by
        have hz : z ∈ xs ↔ onB E S a z s p0 (p - p0) = true := by
          rw [onB_iff, HXS.out z, HRCH.out z, show p0 + (p - p0) = p by omega]
        rw [outsTo_next, HOUT.out, show p0 + (p - p0) = p by omega]
        by_cases h9 : z ∈ xs
        · rw [if_pos h9, if_pos (hz.1 h9)]
        · rw [if_neg h9, if_neg (fun h8 => h9 (hz.2 h8)), List.append_nil]
      obtain ⟨o2, ho2⟩ : ∃ o2, o2 = (out ++ (if z ∈ xs then [(p : Int)] else [])) := ⟨_, rfl⟩
      rw [← ho2] at HJD hplain
      clear ho2
      have HPL := Lib.hid hplain
      have hmarks : MarksD eb (D :: Ds) Wd := by
        refine ⟨List.nodup_cons.2 ⟨fun h9 => ?_, HMK.out.nodup⟩, fun D' hD' => ?_⟩
        · have := (HDS.out D h9).1; have := HOB.out.2.2.1; omega
        · rcases List.mem_cons.1 hD' with rfl | h9
          · exact ⟨by have := HOB.out.2.2.1; have := HOB.out.2.1; have := HOB.out.1; omega, hK⟩
          · exact ⟨(HMK.out.at_ D' h9).1, hdsd D' h9⟩
      have HMD := Lib.hid hmarks
      clear hej hnx hxs hnd hK hdsd hD hszd hplain hmarks
      obtain ⟨A8, c8, rfl⟩ := own_slice HJD.out.nrow
      have hmem : ∀ e, (e ∈ E ∧ e.src ∈ xs) ↔ (e ∈ E ∧ On E S a s p0 p e.src) := fun e => by rw [HXS.out, HRCH.out]
      have HME := Lib.hid hmem
      clear hmem
      cases hnn : next with
      | nil =>
        rw [hnn] at hcn HJD HND
        clear hnn
        obtain ⟨A9, c9, rfl⟩ := own_slice HJD.out.core.orow
        have hfin : o2 = endsN E S a z s p0 := by
          unfold endsN
          rw [HPL.out, show s.size + 1 - p0 = (p - p0 + 1) + (s.size - p) by omega]
          refine (outsTo_stop _ _ _ _ (fun j hj => ?_)).symm
          cases h9 : onB E S a z s p0 j with
          | false => rfl
          | true =>
            have := on_stop hlo (fun e he hp' hr ho => by
              have := (HND.out.mem e.dst).2 ⟨hp', e, (HME.out e).2 ⟨he, ho⟩, hr, rfl⟩
              cases this) (onB_iff.1 h9)
            omega
        have HFIN := Lib.hid hfin
        clear hfin
        gi_wp2
        refine marks_leave (fun W' => W'.ownsRow (eb + 3) 3 1 (.slice A9 o2.length c9) o2.length (numsV .i64 o2) ∧ Below w.heap.size w W') (eb + 3) (fun W' D' h1 h2 h3 => ⟨ownsRow_putObj h1.1 _ h3 rfl, h1.2.trans (belowK_b (w := w) (Nat.le_refl _) W' D' _ _ (by have := HE0.out.lo; omega) h3 rfl rfl)⟩) (fun W' h1 => ?_) (D :: Ds) Wd HMD.out.nodup HMD.out.at_ ⟨HJD.out.core.orow, HJD.out.core.bel⟩
        refine ⟨.slice A9 o2.length c9, by simp [results, Try.f92, go_sem], A9, c9, by rw [← HFIN.out], ?_, h1.2⟩
        rw [← HFIN.out]
        exact own_num h1.1
      | cons x0 rest =>
        have hne : next ≠ [] := by rw [hnn]; simp
        have hlen : (((rest.length + 1 : Nat) : Int) == 0) = false := by simp; omega
        have hlen2 : (decide ((rest.length : Int) + 1 = 0)) = false := by simp; omega
        have hnl : next.length = rest.length + 1 := by rw [hnn]; rfl
        rw [hnl] at hcn
        clear hnn
        gi_wp2
        have hpl : p < s.size := by
          obtain ⟨y, hy⟩ := List.exists_mem_of_ne_nil _ hne
          exact ((HND.out.mem y).1 hy).1
        have ep : ((p : Int) + 1) = ((p + 1 : Nat) : Int) := by omega
        rw [ep]
        have hec9 := HJD.out.core.setAt (p + 1)
        have hab0 := HE0.out.ab
        have hfar : ∀ b, eb + 2 < b → (Wd.setCell ⟨w.heap.size + 2, 0, none⟩ (.int .i64 ((p + 1 : Nat) : Int))).heap[b]? = Wd.heap[b]? := fun b hb => Below.heap_setCell _ _ _ b (by have := HE0.out.lo; simp only; omega)
        have hown9 := HJD.out.nrow
        have hnlo := HJD.out.nlo
        refine ⟨⟨_, A8, rest.length + 1, c8, next, vout', o2, p + 1, D :: Ds, rfl, rfl, by omega, by omega, hec9, hnl, by have := HND.out.few; omega, ?_, fun _ x hx => ?_, ?_, ?_, HMD.out.nodup, fun D' hD' => ?_⟩, ?_⟩
        · rw [← hnl] 
          refine ((own_num hown9).keepB (fun x e hn9 => ?_)).more (by simp)
          have := (HJD.out.nrl (b := x.block) (by rw [e]; rfl)).1
          exact hfar _ (by omega)
        · have h9 := HJD.out.nrl (b := x.block) (by rw [hx]; rfl)
          exact ⟨by omega, HJD.out.sep x.block (by rw [hx]; rfl), by simpa using h9.2⟩
        · intro i
          refine on_next HE.out hlo hpl (fun j => ?_) i
          rw [HND.out.mem j]
          constructor
          · rintro ⟨_, e, h1, h2, h3⟩
            have := (HME.out e).1 h1
            exact ⟨e, this.1, h2, this.2, h3⟩
          · rintro ⟨e, h1, h2, h3, h4⟩
            exact ⟨hpl, e, (HME.out e).2 ⟨h1, h3⟩, h2, h4⟩
        · rw [HPL.out, show p + 1 - p0 = p - p0 + 1 by omega]
        · have h9 := HMD.out.at_ D' hD'
          exact ⟨h9.1, (hfar _ (by omega)).trans h9.2⟩
        · show mAt w.heap.size s.size _ < mAt w.heap.size s.size _
          rw [mAt_eq hab0, mAt_eq hec9.ab]
          omega
end Go.Proofs.Ytfjgfabochiflaa
/- Ints, short, Ends of what may not be asked. -/
namespace Go.Proofs.Ytfjgfabochiflaa
open Go.RowKit


set_option maxRecDepth 100000 in
set_option maxHeartbeats 8000000 in
theorem ints_same (A B : Option Addr) (n ca cb : Nat) (L : List Int) (w : World) (hn : n ≤ 140737488355328) (h1 : Arr w w.heap.size 1 A n (NumC .i64 L)) (h2 : Arr w w.heap.size 1 B n (NumC .i64 L)) :
    Calls Try.prog 23 #[.slice A n ca, .slice B n cb] w fun e w' => e = .returned (.bool true) ∧ ∃ m, w' = w.drewN m := by
  have H1 := Lib.hid h1
  have H2 := Lib.hid h2
  clear h1 h2
  have e0 : ((n : Int) != (n : Int)) = false := by simp
  go_enter Try.func23, Try.ntmps23
  go_wp2_with fail
  go_loopw [13] (fun i wr => ∃ k mq : Nat, k ≤ n ∧ i = .int .i64 k ∧ wr = w.drewN mq) (fun i _ => n - (intOf i).toNat)
  case atStart => exact ⟨0, 0, by omega, rfl, rfl⟩
  case round =>
    obtain ⟨k, mq, hk, rfl, rfl⟩ := hrel
    by_cases hlt : k < n
    · obtain ⟨b, o, rfl, _, hc⟩ := H1.out.one hlt
      obtain ⟨b', o', rfl, _, hc'⟩ := H2.out.one hlt
      unfold NumC at hc hc'
      obtain ⟨x, hx⟩ : ∃ x, x = L.getD k 0 := ⟨_, rfl⟩
      rw [← hx] at hc hc'
      have e1 : (x != x) = false := by simp
      clear hx
      go_wp2_with fail
      go_quiet (fail)
      go_wp2_with fail
      go_roundw
      case rel => exact ⟨k + 1, mq + nq, by omega, by go_num, by first | rfl | trivial⟩
      case measure => simp [intOf]; omega
    · obtain rfl : k = n := by omega
      go_wp2_with fail
      go_returns
      exact ⟨by first | rfl | simp, mq, rfl⟩

/-- a text's first so many bytes -/
def cutS (s : ByteArray) (k : Nat) : ByteArray := if k < s.size then s.extract 0 k else s
theorem cutS_le (s : ByteArray) (k : Nat) : (cutS s k).size ≤ k := by
  unfold cutS
  split
  · rw [ByteArray.size_extract]; omega
  · omega
set_option maxRecDepth 100000 in
set_option maxHeartbeats 8000000 in
theorem ends_no (A : Option Addr) (n c : Nat) (S a z : Int) (E : List Ed) (s : ByteArray) (x : Int) (w : World) (h : NfaIn w A n ⟨S, a, z, E⟩) (hno : ¬ (RightN ⟨S, a, z, E⟩ ∧ 0 ≤ x ∧ x ≤ (s.size : Int))) :
    Calls Try.prog 92 #[.agg #[.int .i64 S, .int .i64 a, .int .i64 z, .slice A n c], .string s, .int .i64 x] w fun e w' => e = .returned (.slice none 0 0) ∧ Below w.heap.size w w' := by
  obtain ⟨W1, hW1⟩ : ∃ W1, W1 = ((w.alloc (.cells #[.int .i64 S, .int .i64 a, .int .i64 z, .slice A n c] 118)).alloc (.cells #[.string s] 9)).alloc (.cells #[.int .i64 x] 3) := ⟨_, rfl⟩
  have hs1 : W1.heap.size = w.heap.size + 3 := by rw [hW1]; simp
  have hb1 : Below w.heap.size w W1 := by rw [hW1]; exact (((Below.refl _ _).alloc (Nat.le_refl _) _).alloc (by simp) _).alloc (by simp; omega) _
  have hsb1 : Boxed W1 (w.heap.size + 1) 9 (.string s) := by
    have := (Boxed.new (w.alloc (.cells #[.int .i64 S, .int .i64 a, .int .i64 z, .slice A n c] 118)) 9 (.string s)).alloc (.cells #[.int .i64 x] 3)
    rw [World.size_alloc] at this
    rw [hW1]; exact this
  have hab1 : Boxed W1 (w.heap.size + 2) 3 (.int .i64 x) := by
    have := Boxed.new ((w.alloc (.cells #[.int .i64 S, .int .i64 a, .int .i64 z, .slice A n c] 118)).alloc (.cells #[.string s] 9)) 3 (.int .i64 x)
    rw [World.size_alloc, World.size_alloc] at this
    rw [hW1]; exact this
  have HRT := Lib.hid (nright_any A n c S a z E W1 (h.keep hb1))
  obtain ⟨bq, hbq⟩ : ∃ bq, bq = rightN ⟨S, a, z, E⟩ := ⟨_, rfl⟩
  rw [← hbq] at HRT
  have hcase : bq = false ∨ (bq = true ∧ x < 0) ∨ (bq = true ∧ 0 ≤ x ∧ (s.size : Int) < x) := by
    by_cases hr : RightN ⟨S, a, z, E⟩
    · rw [rightN_yes hr] at hbq
      have : ¬ (0 ≤ x ∧ x ≤ (s.size : Int)) := fun h9 => hno ⟨hr, h9⟩
      rcases (by omega : x < 0 ∨ (0 ≤ x ∧ (s.size : Int) < x)) with h9 | h9
      · exact .inr (.inl ⟨hbq, h9⟩)
      · exact .inr (.inr ⟨hbq, h9⟩)
    · rw [rightN_no hr] at hbq; exact .inl hbq
  have HB1 := Lib.hid hb1
  have HNB1 := Lib.hid (And.intro hsb1 hab1)
  clear h hb1 hsb1 hab1 hno hbq
  go_enter Try.func92, Try.ntmps92
  go_wp2_with fail
  rw [← hW1]
  refine HRT.out.mono ?_
  rintro e w2 ⟨rfl, hb2⟩
  have hs2 := hb2.size
  have hm4 : Boxed w2 (w.heap.size + 1) 9 (.string s) := (hb2.block _ HNB1.out.1.lt).trans HNB1.out.1
  have hm5 : Boxed w2 (w.heap.size + 2) 3 (.int .i64 x) := (hb2.block _ HNB1.out.2.lt).trans HNB1.out.2
  have m4 := hm4.cell
  have m5 := hm5.cell
  clear hm4 hm5
  have HB2 := Lib.hid (HB1.out.trans (hb2.mono (by omega)))
  clear hb2
  rcases hcase with rfl | ⟨rfl, hx⟩ | ⟨rfl, hx, hy⟩
  · go_wp2_with fail
    go_returns
    exact ⟨by first | rfl | simp, HB2.out⟩
  · have d1 : decide (x < 0) = true := by simpa using hx
    go_wp2_with fail
    go_returns
    exact ⟨by first | rfl | simp, HB2.out⟩
  · have d1 : decide (x < 0) = false := by simp; omega
    have d2 : decide ((s.size : Int) < x) = true := by simpa using hy
    go_wp2_with fail
    go_returns
    exact ⟨by first | rfl | simp, HB2.out⟩

theorem u64w_of {x : Int} (h : (Lit.int .u64 x).wf = true) : U64w x := by
  have h1 : IntKind.u64.min = 0 := by decide
  have h2 : IntKind.u64.max = 18446744073709551615 := by decide
  simp only [Lit.wf, Bool.and_eq_true, decide_eq_true_eq, h1, h2] at h
  unfold U64w
  omega
theorem endsN_len (E : List Ed) (S : Nat) (a z : Int) (s : ByteArray) (p0 : Nat) : (endsN E S a z s p0).length ≤ s.size + 1 := by
  unfold endsN
  exact Nat.le_trans (outsTo_len _ _ _) (by omega)
end Go.Proofs.Ytfjgfabochiflaa
