/- nfa.Free. -/
import Derived.Test.YtjpifofnlcajfaaClo
import Derived.Test.YtjpifofnlcajfaaRight
namespace Go.Proofs.Ytjpifofnlcajfaa
open Go.RowKit Go.Shelf
attribute [local go_sem] Oper.semAt_some

theorem closure_any (A1 A2 : Option Addr) (n1 c1 n2 c2 : Nat) (w : World) :
    Calls Try.prog 15 #[.slice A1 n1 c1, .slice A2 n2 c2] w fun e w' => e = .returned (.func (.func 20) #[] #[.pointer (some ⟨w.heap.size, 0, none⟩), .pointer (some ⟨w.heap.size + 1, 0, none⟩)]) ∧ w' = (w.alloc (.cells #[.slice A1 n1 c1] 37)).alloc (.cells #[.slice A2 n2 c2] 25) := by
  go_enter Try.func15, Try.ntmps15
  go_wp2_with fail
  go_returns
  exact ⟨by first | rfl | simp, rfl⟩
open Classical in
noncomputable def freeL (E : List Ed) (S : Nat) (L : List Int) : List Int := ((List.range S).filter (fun (j : Nat) => decide (Rch E S L (j : Int)))).map (fun (j : Nat) => (j : Int))

theorem Keep.cell {X : World → Nat → Prop} {w w' : World} (hk : Keep X w w') {b o : Nat} {v : Value} (hc : w.cell? ⟨b, o, none⟩ = some v) (hx : ¬ X w b) : w'.cell? ⟨b, o, none⟩ = some v := by
  cases hb : w.heap[b]? with
  | none => simp [World.cell?, hb] at hc
  | some ob =>
    have hcl : ob.isCells = true := by
      unfold World.cell? at hc
      rw [show w.heap[(⟨b, o, none⟩ : Addr).block]? = some ob from hb] at hc
      cases ob <;> first | rfl | simp at hc
    have := hk.same b ob hb hcl hx
    unfold World.cell? at hc ⊢
    rw [show w.heap[(⟨b, o, none⟩ : Addr).block]? = some ob from hb] at hc
    rw [show w'.heap[(⟨b, o, none⟩ : Addr).block]? = some ob from this]
    exact hc
def Off (X : World → Nat → Prop) (w : World) (A : Option Addr) : Prop := ∀ a, A = some a → ¬ X w a.block
theorem Keep.arr {X : World → Nat → Prop} {w w' : World} (hk : Keep X w w') {B size n : Nat} {A : Option Addr} {C : Nat → Nat → Value} (h : Arr w B size A n C) (hx : 0 < n → Off X w A) : Arr w' B size A n C := fun hn => by
  obtain ⟨b, off, e, hlt, hc⟩ := h hn
  exact ⟨b, off, e, hlt, fun k j h1 h2 => hk.cell (hc k j h1 h2) (hx hn _ e)⟩
/-- what came in lies as it lay -/
theorem cfacts_of {w : World} {p1 p2 g S n2 c2 : Nat} {E : List Ed} {RA : Nat → Option Addr} {rc : Nat → Nat} {A2 : Option Addr} {L : List Int} {X : World → Nat → Prop} (h : CFacts w p1 p2 g S E RA rc A2 n2 c2 L)
    (h1 : ¬ X w p1) (h2 : ¬ X w p2) (h3 : ¬ X w g) (h4 : ∀ k, k < S → Off X w (RA k)) (h5 : 0 < n2 → Off X w A2) : ∀ W', Keep X w W' → CFacts W' p1 p2 g S E RA rc A2 n2 c2 L := fun W' hk =>
  ⟨hk.cell h.c1 h1, hk.cell h.c2 h2, ⟨(hk.arr h.rows.arr (fun _ a e => by cases e; exact h3)).more hk.size, fun k hk' => (hk.arr (h.rows.row k hk') (fun _ => h4 k hk')).more hk.size⟩, (hk.arr h.arr h5).more hk.size⟩

theorem own_num {w : World} {base n c : Nat} {A : Option Addr} {q : IntKind} {xs : List Int} (h : w.ownsRow base 3 1 (.slice A n c) n (numsV q xs)) : Arr w w.heap.size 1 A n (NumC q xs) := fun hn => by
  obtain ⟨b, o, e, hlt, hc⟩ := Arr.of_own h hn
  have hl : xs.length = n := by have := h.1; simpa [numsV] using this
  refine ⟨b, o, e, hlt, fun k j hk hj => ?_⟩
  rw [hc k j hk hj]
  simp [NumC, numsV, show k < xs.length by omega]
theorem freeL_of {E : List Ed} {S : Nat} {L : List Int} {inl : List Bool} {xs : List Int} (hm : ∀ j, j < S → (inl.getD j false = true ↔ (j : Int) ∈ xs)) (hxs : ∀ i, i ∈ xs ↔ Rch E S L i) :
    ((List.range S).filter (fun j => inl.getD j false)).map (fun (j : Nat) => (j : Int)) = freeL E S L := by
  unfold freeL
  congr 1
  refine List.filter_congr (fun j hj => ?_)
  have hj' : j < S := by simpa using hj
  classical
  rw [Bool.eq_iff_iff]
  refine ((hm j hj').trans (hxs j)).trans ?_
  simp
theorem filter_next (f : Nat → Bool) (k : Nat) : ((List.range (k + 1)).filter f).map (fun (j : Nat) => (j : Int)) = if f k = true then ((List.range k).filter f).map (fun (j : Nat) => (j : Int)) ++ [(k : Int)] else ((List.range k).filter f).map (fun (j : Nat) => (j : Int)) := by
  rw [List.range_succ, List.filter_append, List.map_append]
  by_cases h : f k = true
  · rw [if_pos h]; simp [h]
  · rw [if_neg h]; simp [h]
theorem filter_few (f : Nat → Bool) (k : Nat) : (((List.range k).filter f).map (fun (j : Nat) => (j : Int))).length ≤ k := by
  rw [List.length_map]
  exact Nat.le_trans (List.length_filter_le _ _) (by simp)

set_option maxRecDepth 100000 in
set_option maxHeartbeats 8000000 in
theorem free_ok (A : Option Addr) (n c S : Nat) (a z : Int) (E : List Ed) (A2 : Option Addr) (n2 c2 : Nat) (L : List Int) (w : World) (h : NfaIn w A n ⟨(S : Int), a, z, E⟩) (hr : RightN ⟨(S : Int), a, z, E⟩)
    (hL : L.length = n2) (hn2 : n2 ≤ 140737488355328) (ha2 : Arr w w.heap.size 1 A2 n2 (NumC .i64 L)) :
    Calls Try.prog 6 #[.agg #[.int .i64 (S : Int), .int .i64 a, .int .i64 z, .slice A n c], .slice A2 n2 c2] w fun e w' => ∃ A9 c9, e = .returned (.slice A9 (freeL E S L).length c9) ∧ Arr w' w'.heap.size 1 A9 (freeL E S L).length (NumC .i64 (freeL E S L)) ∧ Below w.heap.size w w' := by
  obtain ⟨i3, hi3, hz3, hsz3, hbt3⟩ := info_parts info3
  have hb1 : Below w.heap.size w (w.alloc (.cells #[.int .i64 (S : Int), .int .i64 a, .int .i64 z, .slice A n c] 24)) := (Below.refl _ _).alloc (Nat.le_refl _) _
  have HRT := Lib.hid (nright_any A n c S a z E (w.alloc (.cells #[.int .i64 (S : Int), .int .i64 a, .int .i64 z, .slice A n c] 24)) (h.keep hb1))
  rw [rightN_yes hr] at HRT
  have hS : S ≤ 2000 := by have : (S : Int) ≤ 2000 := hr.hi; omega
  have hmk := fun W => make_one 33 4 (.bool false) 1 Try.underlying33 info4 rfl S hS (by omega) W
  have HLV := Lib.hid (fun W (hW : Below w.heap.size w W) => leaving_ok A n c S a z E W (h.keep hW) hr)
  have HCL := Lib.hid (fun g W => closure_any (some ⟨g, 0, none⟩) A2 S S n2 c2 W)
  have HB1 := Lib.hid hb1
  have H := Lib.hid h
  have HR := Lib.hid hr
  have HA2 := Lib.hid ha2
  have hw1 : (w.alloc (.cells #[.int .i64 (S : Int), .int .i64 a, .int .i64 z, .slice A n c] 24)).heap.size = w.heap.size + 1 := by simp
  have k0 : ∀ W, Below (w.heap.size + 1) (w.alloc (.cells #[.int .i64 (S : Int), .int .i64 a, .int .i64 z, .slice A n c] 24)) W → ∀ j, W.cell? ⟨w.heap.size, j, none⟩ = (#[Value.int .i64 (S : Int), .int .i64 a, .int .i64 z, .slice A n c] : Array Value)[j]? := fun W hW j => kept_new (by rw [hw1]; exact hW) j
  have HK0 := Lib.hid k0
  clear h hr hb1 ha2 k0
  refine (callsIn_wide (n := 6)).1 ?_
  refine callsIn_of_wp_marks Try.func6 rfl trivial ?_ rfl
  simp only [Try.ntmps6, List.size_toArray, List.length_cons, List.length_nil, Nat.reduceAdd, Nat.reduceSub, Array.replicate_succ, Array.replicate_zero, List.push_toArray, List.append_toArray, List.nil_append, List.cons_append]
  gi_wp2_with (first
    | (refine ⟨trivial, ?_⟩; gi_at_call 11; refine (callsIn_wide.2 HRT.out).mono ?_; rintro e w1 ⟨rfl, hb1⟩;
       have m0 := HK0.out w1 (by rw [← hw1]; exact hb1) 0; have m1 := HK0.out w1 (by rw [← hw1]; exact hb1) 1; have m2 := HK0.out w1 (by rw [← hw1]; exact hb1) 2; have m3 := HK0.out w1 (by rw [← hw1]; exact hb1) 3;
       simp only [List.getElem?_toArray, List.getElem?_cons_zero, List.getElem?_cons_succ] at m0 m1 m2 m3;
       have hs1 : w.heap.size + 1 ≤ w1.heap.size := (by rw [← hw1]; exact hb1.size);
       obtain ⟨W2, hW2⟩ : ∃ W2, W2 = (w1.alloc (.cells (Array.replicate S (.bool false)) 4)).alloc (.cells #[.slice (some ⟨w1.heap.size, 0, none⟩) S S] 33) := ⟨_, rfl⟩;
       have hb2 : Below (w.heap.size + 1) (w.alloc (.cells #[.int .i64 (S : Int), .int .i64 a, .int .i64 z, .slice A n c] 24)) W2 := (by rw [hW2]; exact ((show Below (w.heap.size + 1) _ w1 by rw [← hw1]; exact hb1).alloc hs1 _).alloc (by simp; omega) _);
       have l0 := HK0.out W2 hb2 0; have l1 := HK0.out W2 hb2 1; have l2 := HK0.out W2 hb2 2; have l3 := HK0.out W2 hb2 3;
       simp only [List.getElem?_toArray, List.getElem?_cons_zero, List.getElem?_cons_succ] at l0 l1 l2 l3;
       have HW2 := Lib.hid hb2; rw [hW2] at l0 l1 l2 l3 hb2; clear hb1 hb2)
    | (refine ⟨trivial, ?_⟩; gi_at_call 16; rw [← hW2]; have hB2 : Below w.heap.size w W2 := (HB1.out.trans (HW2.out.mono (by omega))); refine (callsIn_wide.2 (HLV.out W2 hB2)).mono ?_; rintro e w3 ⟨g, RA, rc, rfl, hrows, hb3, hg1, hg2, hra⟩; have HROWS := Lib.hid hrows; have HB3 := Lib.hid hb3; have HB2 := Lib.hid hB2; have HG := Lib.hid (And.intro hg1 (And.intro hg2 hra)); clear hrows hb3 hB2 hg1 hg2 hra)
    | (refine ⟨trivial, ?_⟩; gi_at_call 15; refine (callsIn_wide.2 (HCL.out _ _)).mono ?_; rintro e w4 ⟨rfl, rfl⟩))
  obtain ⟨gin, hgin⟩ : ∃ gin, gin = w1.heap.size := ⟨_, rfl⟩
  rw [← hgin] at hW2 ⊢
  obtain ⟨W0, hW0⟩ : ∃ W0, W0 = (w3.alloc (.cells #[.slice (some ⟨g, 0, none⟩) S S] 37)).alloc (.cells #[.slice A2 n2 c2] 25) := ⟨_, rfl⟩
  have hs2 : W2.heap.size = gin + 2 := by rw [hW2, hgin]; simp
  have hs3 : gin + 2 ≤ w3.heap.size := by rw [← hs2]; exact HB3.out.size
  have hs0 : W0.heap.size = w3.heap.size + 2 := by rw [hW0]; simp
  have hb30 : Below w3.heap.size w3 W0 := by rw [hW0]; exact ((Below.refl _ w3).alloc (Nat.le_refl _) _).alloc (by simp) _
  have hb20 : Below W2.heap.size W2 W0 := HB3.out.trans (hb30.mono (by rw [hs2]; exact hs3))
  have hbw0 : Below w.heap.size w W0 := HB2.out.trans (hb20.mono HB2.out.size)
  have hrep : Array.replicate S (Value.bool false) = ((List.replicate S false).map Value.bool).toArray := by simp
  have hblk2 : Blk W2 gin 4 ((List.replicate S false).map Value.bool) := by
    rw [hW2, hrep, hgin]
    exact (Blk.new w1 4 _).alloc _
  have hbx2 : Boxed W2 (gin + 1) 33 (.slice (some ⟨gin, 0, none⟩) S S) := by
    have := Boxed.new (w1.alloc (.cells (Array.replicate S (.bool false)) 4)) 33 (.slice (some ⟨gin, 0, none⟩) S S)
    rw [World.size_alloc, ← hgin] at this
    rw [hW2]; exact this
  have hblk0 : Blk W0 gin 4 ((List.replicate S false).map Value.bool) := hblk2.below hb20 (by omega)
  have hbx0 : Boxed W0 (gin + 1) 33 (.slice (some ⟨gin, 0, none⟩) S S) := (hb20.block _ (by omega)).trans hbx2
  have hcf : CFacts W0 w3.heap.size (w3.heap.size + 1) g S E RA rc A2 n2 c2 L := by
    refine ⟨?_, ?_, HROWS.out.keep hb30, (HA2.out.below hbw0).more hbw0.size⟩
    · rw [hW0]; simp
    · rw [hW0]
      have := Boxed.new (w3.alloc (.cells #[.slice (some ⟨g, 0, none⟩) S S] 37)) 25 (.slice A2 n2 c2)
      have := this.cell
      rw [World.size_alloc] at this
      exact this
  have hgw : w.heap.size + 1 ≤ gin := by rw [hgin]; exact hs1
  have hX : ∀ W', Keep (fun _ r => r = gin) W0 W' → CFacts W' w3.heap.size (w3.heap.size + 1) g S E RA rc A2 n2 c2 L := by
    refine cfacts_of hcf (fun e => by omega) (fun e => by omega) (fun e => by have := HG.out.1; omega) (fun k hk a ha e => by have := HG.out.2.2 k a hk ha; omega) (fun hn a ha e => ?_)
    obtain ⟨b, o, e2, hlt, _⟩ := HA2.out hn
    rw [ha] at e2
    cases e2
    simp only at e
    omega
  have HX := Lib.hid hX
  have HBL := Lib.hid hblk0
  have HBX := Lib.hid hbx0
  have HBW := Lib.hid hbw0
  have HGI := Lib.hid hgin
  have HW0 := Lib.hid hW0
  have HSZ := Lib.hid (And.intro hs2 (And.intro hs3 (And.intro hs0 hgw)))
  clear hX hcf hblk0 hbx0 hbw0 hblk2 hbx2 hb20 hb30 hrep
  rw [← hW0]
  clear hgin hW0 hW2 hs2 hs3 hs0 hgw
  refine range_law 6 (by omega) (gf := 20) (lb := #[.pointer (some ⟨w3.heap.size, 0, none⟩), .pointer (some ⟨w3.heap.size + 1, 0, none⟩)]) rfl (enters_of Try.func20 (by kernel_rfl) rfl)
    (fun _ r => r = gin) (fun pre x => x ∉ pre ∧ Rch E S L x) (fun xs => xs.Nodup ∧ ∀ i, i ∈ xs ↔ Rch E S L i)
    (clo_in 5 (by omega) w3.heap.size (w3.heap.size + 1) g S hS E (okE_of HR.out) HR.out.few RA rc A2 n2 c2 L hL hn2 _ W0 HX.out)
    (fun pre W => (∃ inl : List Bool, inl.length = S ∧ Blk W gin 4 (inl.map Value.bool) ∧ ∀ j, j < S → (inl.getD j false = true ↔ (j : Int) ∈ pre)) ∧ Boxed W (gin + 1) 33 (.slice (some ⟨gin, 0, none⟩) S S) ∧ Below w.heap.size w W ∧ W0.heap.size ≤ W.heap.size)
    ?inv ?cells ?start (fun x => { tmps := #[.agg #[.int .i64 (S : Int), .int .i64 a, .int .i64 z, .slice A n c], .slice A2 n2 c2, .pointer (some ⟨w.heap.size, 0, none⟩), undef, .slice none 0 0, .pointer (some ⟨gin + 1, 0, none⟩), .int .i64 x, undef, undef, undef,
      .agg #[.int .i64 (S : Int), .int .i64 a, .int .i64 z, .slice A n c], .bool true, .bool false, .pointer (some ⟨w.heap.size, 0, none⟩), .int .i64 (S : Int), .slice (some ⟨gin, 0, none⟩) S S, .agg #[.int .i64 (S : Int), .int .i64 a, .int .i64 z, .slice A n c], .slice (some ⟨g, 0, none⟩) S S, .slice A2 n2 c2,
      .func (.func 20) #[] #[.pointer (some ⟨w3.heap.size, 0, none⟩), .pointer (some ⟨w3.heap.size + 1, 0, none⟩)], .int .i64 x, undef, undef, undef, undef, undef, undef, undef, undef, undef, undef, undef, undef, undef, undef, undef, undef, undef], defers := [] }) ?assign ?body ?done
  case inv =>
    obtain ⟨hs2, hs3, hs0, hgw⟩ := HSZ.out
    rintro pre W W' row ⟨⟨inl, hl, hbl, hm⟩, hbx, hbw, hsz⟩ hg hr
    exact ⟨⟨⟨inl, hl, hbl.same (hg.block _ hbl.lt (fun e => by have := (hr _ e.symm).1; omega)), hm⟩, (hg.block _ hbx.lt (fun e => by have := (hr _ e.symm).1; omega)).trans hbx, hbw.grown hg hbw.size (fun k e => by have := (hr _ e).1; omega), Nat.le_trans hsz hg.size⟩, fun r h => h⟩
  case cells =>
    rintro pre W ⟨⟨inl, hl, hbl, hm⟩, _⟩ r rfl
    exact ⟨_, hbl, rfl⟩
  case start => exact ⟨⟨List.replicate S false, by simp, HBL.out, fun j hj => by simp [hj]⟩, HBX.out, HBW.out, Nat.le_refl _⟩
  case assign =>
    intro l x W K hK
    gi_wp2
    exact hK
  case body =>
    rintro l pre x W ⟨⟨inl, hl, hbl, hm⟩, hbx, hbw, hsz⟩ ⟨hxp, hxr⟩
    obtain ⟨hx0, hxS⟩ := hxr.range (okE_of HR.out)
    obtain ⟨i, rfl⟩ := Int.eq_ofNat_of_zero_le hx0
    have hi : i < S := by omega
    have hiS : (i : Int) < (S : Int) := hxS
    have hc := hbx.cell
    have hfz := hbl.frozen i
    have hci : W.cell? ⟨gin, i, none⟩ = some (.bool (inl.getD i false)) := by rw [hbl.cell]; simp [show i < inl.length by omega]
    gi_wp2
    refine ⟨(KeepsOthers.setCell _ _ _).from _, ⟨by simp, fun _ _ h => h, fun b o hb _ hne => (Below.heap_setCell _ _ _ b hne).trans hb⟩, ⟨inl.set i true, by simp [hl], ?_, fun j hj => ?_⟩, ?_, hbw.setCell (p := ⟨gin, i, none⟩) (by have := HSZ.out.2.2.2; simp only; omega) _, by simpa using hsz⟩
    · have := hbl.set i (.bool true)
      rw [List.map_set]; exact this
    · rw [List.mem_append]
      by_cases e9 : j = i
      · subst e9
        simp [show j < inl.length by omega]
      · have e8 : (inl.set i true).getD j false = inl.getD j false := by simp [List.getD_eq_getElem?_getD, Ne.symm e9]
        rw [e8, hm j hj]
        constructor
        · exact .inl
        · rintro (h9 | h9)
          · exact h9
          · exact absurd (Int.ofNat.inj (by simpa using h9)) e9
    · exact (Below.heap_setCell _ _ _ (gin + 1) (by simp)).trans hbx
  case done =>
    rintro D xs W hD ⟨hnd, hxs⟩ ⟨⟨inl, hl, hbl, hm⟩, hbx, hbw, hsz⟩ hK
    have hc := hbx.cell
    have HBL2 := Lib.hid hbl
    have hres := freeL_of hm hxs
    have HRES := Lib.hid hres
    have HKD := Lib.hid hK
    have HD := Lib.hid hD
    have HBW2 := Lib.hid (And.intro hbw hsz)
    clear hres hK hD hbl hm hbw hsz hbx
    gi_wp2
    gi_loopw [7, 26] (fun v a wr => ∃ (k : Nat) (out : List Int), a = .int .i64 k ∧ k ≤ S ∧ out = ((List.range k).filter (fun j => inl.getD j false)).map (fun (j : Nat) => (j : Int)) ∧ wr.ownsRow W.heap.size 3 1 v out.length (numsV .i64 out) ∧ Below W.heap.size W wr) (fun _ a _ => S - (intOf a).toNat)
    case atStart => exact ⟨0, [], rfl, by omega, rfl, World.ownsRow_nil _ _ _ _, Below.refl _ _⟩
    case round =>
      obtain ⟨k, out, rfl, hk, hout, hown, hbe⟩ := hrel
      obtain ⟨w4, rfl⟩ : ∃ w4 : World, w4 = wr := ⟨_, rfl⟩
      by_cases hlt : k < S
      · have hkS : (k : Int) < (S : Int) := by omega
        have hne := filter_next (fun j => inl.getD j false) k
        have hfw := filter_few (fun j => inl.getD j false) k
        rw [← hout] at hne hfw
        have hbl4 : Blk w4 gin 4 (inl.map Value.bool) := HBL2.out.below hbe HBL2.out.lt
        have hcg : w4.cell? ⟨gin, k, none⟩ = some (.bool (inl.getD k false)) := by rw [hbl4.cell]; simp [show k < inl.length by omega]
        have HOW := Lib.hid hown
        have HBE := Lib.hid hbe
        have hbs := hbe.size
        cases hb : inl.getD k false with
        | false =>
          rw [hb] at hcg
          rw [if_neg (by rw [hb]; decide)] at hne
          have HNE := Lib.hid hne
          clear hne hown hbe hbl4 hout hb hc
          gi_wp2
          go_roundw
          case rel => exact ⟨k + 1, out, by go_num, by omega, HNE.out.symm, HOW.out, HBE.out⟩
          case measure => simp [intOf]; omega
        | true =>
          rw [hb] at hcg
          rw [if_pos hb] at hne
          have HNE := Lib.hid hne
          have hcn := cell_one_new w4 (.int .i64 (k : Int)) 3
          clear hne hown hbe hbl4 hout hb hc
          gi_wp2_with (first
            | (gi_at_builtin; (refine wpListIn_append_lies _ rfl _ _ 25 rfl W.heap.size 3 i3 (.int .i64 0) 1 8 Try.underlying25 hi3 hz3 hsz3 hbt3 rfl (by decide) u7 _ _ rfl (HOW.out.alloc _) ⟨w4.heap.size, 0, none⟩ 1 1 [.int .i64 k] rfl rfl hcn (by simp [Value.oneCell']) (by omega) (by unfold maxLen; omega) (by omega) (by simp; omega) ?_; intro g5 c5 w5 hown5 hgrow5 hat5 _; have HA := Lib.hid (And.intro hown5 hgrow5))))
          go_roundw
          case rel => exact ⟨k + 1, _, by go_num, by omega, HNE.out.symm, by rw [List.length_append, numsV_snoc]; exact HA.out.1, (HBE.out.alloc hbs _).grown HA.out.2 (by simp; omega) (fun b e => ((HOW.out.lt b e).1))⟩
          case measure => simp [intOf]; omega
      · obtain rfl : k = S := by omega
        rw [HRES.out] at hout
        subst hout
        have hKw : w4.heap[D]? = some (.deferred (some [])) := (hbe.block D (Array.getElem?_eq_some_iff.1 HKD.out).1).trans HKD.out
        obtain ⟨A9, c9, rfl⟩ := own_slice hown
        gi_wp2
        refine ⟨by simp, .inl ⟨_, _, rfl, run_takeDeferred hKw, ?_⟩⟩
        refine ⟨_, by simp [results, Try.f6, go_sem], A9, c9, rfl, own_num (ownsRow_putObj hown _ hKw rfl), (HBW2.out.1.trans (hbe.mono HBW2.out.1.size)).trans (belowK_b (w := w) (Nat.le_refl _) w4 D _ _ (by have := HBW.out.size; have := HD.out; omega) hKw rfl rfl)⟩
end Go.Proofs.Ytjpifofnlcajfaa
