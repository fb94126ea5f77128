/- dfa.free: the walk up to the sort. -/
import Derived.Test.YtfjhcoeehjephaaNameAMe
import Derived.Test.YtfjhcoeehjephaaItMe
import Derived.Laws.Rows
import Derived.Test.YtfjhcoeehjephaaShelf
import Derived.Sort.OwnSortedInts
namespace Go.Proofs.Ytfjhcoeehjephaa
open Go.RowKit
attribute [local go_sem ↓] Go.wp_at_zero Go.wp_at_succ

/-- rows of places that are reached over nothing, read only -/
structure RowsI (E : List Ed) (S : Nat) (w : World) (A : Option Addr) (RA : Nat → Option Addr) (rc : Nat → Nat) : Prop where
  arr : Arr w w.heap.size 1 A S (fun k _ => .slice (RA k) (freeD E k).length (rc k))
  row : ∀ k, k < S → Arr w w.heap.size 1 (RA k) (freeD E k).length (NumC .i64 (freeD E k))
theorem RowsI.keep {E : List Ed} {S : Nat} {w w' : World} {A : Option Addr} {RA : Nat → Option Addr} {rc : Nat → Nat} (h : RowsI E S w A RA rc) (hb : Below w.heap.size w w') : RowsI E S w' A RA rc :=
  ⟨(h.arr.below hb).more hb.size, fun k hk => ((h.row k hk).below hb).more hb.size⟩
theorem freeD_len (E : List Ed) (i : Nat) : (freeD E i).length ≤ E.length := by
  unfold freeD
  rw [List.length_map]
  exact List.length_filter_le _ _

/-- what free holds: its marks, its stack, what has come -/
structure FI (w : World) (gs : Nat) (pre : List Int) (seen : List Bool) (st : List Int) (vs vo : Value) (W : World) : Prop where
  bel : Below w.heap.size w W
  blk : Blk W gs 4 (seen.map Value.bool)
  own : W.ownsRow (gs + 1) 3 1 vs st.length (numsV .i64 st)
  out : W.ownsRow (gs + 1) 3 1 vo pre.length (numsV .i64 pre)
  ap : ∀ b, vs.ownBlock = some b → vo.ownBlock ≠ some b
  lo : w.heap.size ≤ gs
section
variable {w W W' : World} {gs : Nat} {pre st : List Int} {seen : List Bool} {vs vo : Value}
theorem FI.lt (h : FI w gs pre seen st vs vo W) : gs < W.heap.size := h.blk.lt
theorem FI.alloc (h : FI w gs pre seen st vs vo W) (o : Obj) : FI w gs pre seen st vs vo (W.alloc o) := ⟨h.bel.alloc h.bel.size o, h.blk.alloc o, h.own.alloc o, h.out.alloc o, h.ap, h.lo⟩
theorem below_sc {B : Nat} {w0 W : World} (h : Below B w0 W) {g k : Nat} (hg : B ≤ g) (v : Value) : Below B w0 (W.setCell ⟨g, k, none⟩ v) := h.setCell (p := ⟨g, k, none⟩) hg v
theorem FI.mark (h : FI w gs pre seen st vs vo W) (j : Nat) : FI w gs pre (seen.set j true) st vs vo (W.setCell ⟨gs, j, none⟩ (.bool true)) := by
  have hg := grownBy_setCell W gs j (.bool true)
  refine ⟨below_sc h.bel h.lo _, ?_, own_move h.own (fun b o hb ho _ => (hg.block b (Array.getElem?_eq_some_iff.1 ho).1 (fun e => ?_)).trans ho), own_move h.out (fun b o hb ho _ => (hg.block b (Array.getElem?_eq_some_iff.1 ho).1 (fun e => ?_)).trans ho), h.ap, h.lo⟩
  · have := h.blk.set j (.bool true)
    rw [List.map_set]; exact this
  · cases e; have := (h.own.lt _ hb).1; omega
  · cases e; have := (h.out.lt _ hb).1; omega
theorem FI.push (h : FI w gs pre seen st vs vo W) {g cap : Nat} {x : Int} (hown : W'.ownsRow (gs + 1) 3 1 (.slice (some ⟨g, 0, none⟩) (st.length + 1) cap) (st.length + 1) (numsV .i64 st ++ [.int .i64 x])) (hg : W.grownBy W' vs.ownBlock) (hat : vs.ownBlock = some g ∨ g = W.heap.size) :
    FI w gs pre seen (st ++ [x]) (.slice (some ⟨g, 0, none⟩) (st.length + 1) cap) vo W' := by
  refine ⟨h.bel.grown hg h.bel.size (fun b e => by have := (h.own.lt b e).1; have := h.lo; omega), h.blk.same (hg.block _ h.lt (fun e => by have := (h.own.lt _ e.symm).1; omega)), ?_, own_move h.out (fun b o hb ho _ => (hg.block b (Array.getElem?_eq_some_iff.1 ho).1 (fun e => h.ap b e.symm hb)).trans ho), fun b hb hv => ?_, h.lo⟩
  · rw [List.length_append, numsV_snoc]; exact hown
  · obtain rfl : g = b := by simpa [Value.ownBlock] using hb
    rcases hat with hat | hat
    · exact h.ap g hat hv
    · have := (h.out.lt g hv).2; omega
theorem FI.come (h : FI w gs pre seen st vs vo W) {g cap : Nat} {x : Int} (hown : W'.ownsRow (gs + 1) 3 1 (.slice (some ⟨g, 0, none⟩) (pre.length + 1) cap) (pre.length + 1) (numsV .i64 pre ++ [.int .i64 x])) (hg : W.grownBy W' vo.ownBlock) (hat : vo.ownBlock = some g ∨ g = W.heap.size) :
    FI w gs (pre ++ [x]) seen st vs (.slice (some ⟨g, 0, none⟩) (pre.length + 1) cap) W' := by
  refine ⟨h.bel.grown hg h.bel.size (fun b e => by have := (h.out.lt b e).1; have := h.lo; omega), h.blk.same (hg.block _ h.lt (fun e => by have := (h.out.lt _ e.symm).1; omega)), own_move h.own (fun b o hb ho _ => (hg.block b (Array.getElem?_eq_some_iff.1 ho).1 (fun e => h.ap b hb e.symm)).trans ho), ?_, fun b hb hv => ?_, h.lo⟩
  · rw [List.length_append, numsV_snoc]; exact hown
  · obtain rfl : g = b := by simpa [Value.ownBlock] using hv
    rcases hat with hat | hat
    · exact h.ap g hb hat
    · have := (h.own.lt g hb).2; omega
theorem FI.pop {x : Int} {A : Option Addr} {c : Nat} (h : FI w gs pre seen (st ++ [x]) (.slice A (st.length + 1) c) vo W) : FI w gs pre seen st (.slice A st.length c) vo W := by
  refine ⟨h.bel, h.blk, own_pop (x := .int .i64 x) ?_ (by simp [numsV]), h.out, fun b hb => h.ap b ?_, h.lo⟩
  · have := h.own
    rw [numsV_snoc, List.length_append] at this
    exact this
  · cases A with
    | none => simp [Value.ownBlock] at hb
    | some a => simpa [Value.ownBlock] using hb
theorem FI.cell (h : FI w gs pre seen st vs vo W) {j : Nat} (hj : j < seen.length) : W.cell? ⟨gs, j, none⟩ = some (.bool (seen.getD j false)) := by
  rw [h.blk.cell]
  simp [hj]
end
/-- where free's loops stand -/
def FD (E : List Ed) (S : Nat) (L : List Int) (w : World) (gs : Nat) (vs vo : Value) (W : World) : Prop :=
  ∃ (pre : List Int) (seen : List Bool) (st : List Int), FI w gs pre seen st vs vo W ∧ Dfs E S L pre st seen ∧ Roots S L (pre ++ st) ∧ Fol E pre (pre ++ st)
theorem rising_extI : ∀ {l m : List Int}, l.Pairwise (· < ·) → m.Pairwise (· < ·) → (∀ q, q ∈ l ↔ q ∈ m) → l = m
  | [], [], _, _, _ => rfl
  | [], b :: m, _, _, h => absurd ((h b).2 (by simp)) (by simp)
  | a :: l, [], _, _, h => absurd ((h a).1 (by simp)) (by simp)
  | a :: l, b :: m, hl, hm, h => by
    rw [List.pairwise_cons] at hl hm
    have h1 := (h a).1 (by simp)
    have h2 := (h b).2 (by simp)
    have hab : a = b := by
      rcases List.mem_cons.1 h1 with h3 | h3
      · exact h3
      · rcases List.mem_cons.1 h2 with h4 | h4
        · exact h4.symm
        · have := hl.1 b h4
          have := hm.1 a h3
          omega
    subst hab
    congr 1
    refine rising_extI hl.2 hm.2 (fun q => ?_)
    have := h q
    simp only [List.mem_cons] at this
    constructor
    · intro hq
      rcases this.1 (.inr hq) with h5 | h5
      · have := hl.1 q hq; omega
      · exact h5
    · intro hq
      rcases this.2 (.inr hq) with h5 | h5
      · have := hm.1 q hq; omega
      · exact h5
theorem pairwise_lt_of {l : List Int} (h : l.Pairwise (fun a b => a ≤ b)) (hn : l.Nodup) : l.Pairwise (· < ·) := by
  have := h.and hn
  refine this.imp (fun {a b} h9 => ?_)
  have h1 := h9.1
  have h2 : a ≠ b := h9.2
  omega
theorem mem_natL {l : List Nat} {x : Int} : x ∈ natL l ↔ ∃ q ∈ l, (q : Int) = x := by
  unfold natL
  simp
/-- what has come, sorted -/
theorem sorted_clos {E : List Ed} {S : Nat} {L pre : List Int} (hE : OkE E S) (hn : pre.Nodup) (hm : ∀ i, i ∈ pre ↔ Rch E S L i) : (pre.mergeSort fun x y => decide (x ≤ y)) = natL (closN E S L) := by
  have hp := List.mergeSort_perm pre (fun x y => decide (x ≤ y))
  refine rising_extI (pairwise_lt_of ?_ (hp.nodup_iff.2 hn)) ?_ (fun q => ?_)
  · have := List.pairwise_mergeSort (le := fun (x y : Int) => decide (x ≤ y)) (fun a b c h1 h2 => by simp at h1 h2 ⊢; omega) (fun a b => by simp; omega) pre
    exact this.imp (fun h => by simpa using h)
  · unfold natL
    refine List.pairwise_map.2 ((closN_sorted L).imp (fun {a b} h => ?_))
    show (a : Int) < (b : Int)
    omega
  · rw [hp.mem_iff, hm q, mem_natL]
    constructor
    · intro h
      have := h.range hE
      exact ⟨q.toNat, (mem_closN hE).2 (by rw [show ((q.toNat : Nat) : Int) = q by omega]; exact h), by omega⟩
    · rintro ⟨k, h1, rfl⟩
      exact (mem_closN hE).1 h1
theorem clos_len {E : List Ed} {S : Nat} {L pre : List Int} (hE : OkE E S) (hn : pre.Nodup) (hm : ∀ i, i ∈ pre ↔ Rch E S L i) : (closN E S L).length = pre.length := by
  rw [← natL_len, ← sorted_clos hE hn hm, List.length_mergeSort]
/-- the rows' edges -/
theorem fol_of {E : List Ed} {pre all : List Int} {i : Nat} (h : Fol E pre all) (hi : ∀ d ∈ freeD E i, d ∈ all) : Fol E (pre ++ [(i : Int)]) all := fun e he hf hs => by
  rcases List.mem_append.1 hs with h9 | h9
  · exact h e he hf h9
  · have h8 : e.src = (i : Int) := by simpa using h9
    exact hi _ (mem_freeD.2 ⟨e, he, hf, h8, rfl⟩)

set_option maxRecDepth 100000 in
set_option maxHeartbeats 16000000 in
theorem free_d (E : List Ed) (S : Nat) (A A2 : Option Addr) (c n2 c2 : Nat) (L : List Int) (RA : Nat → Option Addr) (rc : Nat → Nat) (w : World) (hE : OkE E S) (hS : S ≤ 2000) (hEl : E.length ≤ 16000) (hr : RowsI E S w A RA rc) (hn : L.length = n2) (hn2 : n2 ≤ 16000) (hL : ∀ i ∈ L, 0 ≤ i ∧ i < (S : Int)) (hL0 : L ≠ [])
    (ha : Arr w w.heap.size 1 A2 n2 (NumC .i64 L)) :
    Calls Try.prog 33 #[.slice A S c, .slice A2 n2 c2] w fun e w' => ∃ g cap, e = .returned (.slice (some ⟨g, 0, none⟩) (closN E S L).length cap) ∧ w'.ownsRow w.heap.size 3 1 (.slice (some ⟨g, 0, none⟩) (closN E S L).length cap) (closN E S L).length (numsV .i64 (natL (closN E S L))) ∧ Below w.heap.size w w' := by
  obtain ⟨i3, hi3, hz3, hsz3, hbt3⟩ := info_parts info3
  have hmk := make_one 28 4 (.bool false) 1 Try.underlying28 info4 rfl S hS (by omega)
  have hrep : Array.replicate S (Value.bool false) = ((List.replicate S false).map Value.bool).toArray := by simp
  have hfi : FI w w.heap.size [] (List.replicate S false) [] (.slice none 0 0) (.slice none 0 0) (w.alloc (.cells (Array.replicate S (.bool false)) 4)) := by
    refine ⟨(Below.refl _ _).alloc (Nat.le_refl _) _, ?_, World.ownsRow_nil _ _ _ _, World.ownsRow_nil _ _ _ _, fun b hb => by simp [Value.ownBlock] at hb, Nat.le_refl _⟩
    have := Blk.new w 4 ((List.replicate S false).map Value.bool)
    rw [← hrep] at this
    exact this
  have HI0 := Lib.hid hfi
  have HR := Lib.hid (fun (w' : World) (hb : Below w.heap.size w w') => hr.keep hb)
  have HA := Lib.hid (fun (w' : World) (hb : Below w.heap.size w w') => (ha.below hb).more hb.size)
  have HE := Lib.hid hE
  have HL := Lib.hid (And.intro hn (And.intro hL hL0))
  clear hr ha hE hn hL hL0 hrep hfi
  go_enter Try.func33, Try.ntmps33
  go_upto_region 4 with (fail)
  clear hmk
  obtain ⟨gs, hgs⟩ : ∃ gs, gs = w.heap.size := ⟨_, rfl⟩
  rw [← hgs] at HI0 ⊢
  generalize w.alloc (.cells (Array.replicate S (.bool false)) 4) = w1 at HI0 ⊢
  have HG := Lib.hid hgs
  clear hgs
  go_loopw [6, 18] (fun v a wr => ∃ (k : Nat) (seen : List Bool) (st : List Int), a = .int .i64 (k : Int) ∧ k ≤ n2 ∧ FI w gs [] seen st v (.slice none 0 0) wr ∧ Dfs E S L [] st seen ∧ Roots S (L.take k) st) (fun _ a _ => n2 - (intOf a).toNat)
  case atStart => exact ⟨0, _, [], rfl, by omega, HI0.out, Dfs.begin, by intro i hi; simp at hi⟩
  case round =>
    obtain ⟨k, seen, st, rfl, hk, hit, hdf, hrt⟩ := hrel
    obtain ⟨w3, rfl⟩ : ∃ w3 : World, w3 = wr := ⟨_, rfl⟩
    obtain ⟨v, rfl⟩ : ∃ v : Value, v = u6 := ⟨_, rfl⟩
    have HI := Lib.hid hit
    have HD := Lib.hid hdf
    have HRT := Lib.hid hrt
    clear hit hdf hrt
    by_cases hlt : k < n2
    · obtain ⟨b, o, rfl, _, hc⟩ := (HA.out w3 HI.out.bel).one hlt
      have hkl : k < L.length := by have := HL.out.1; omega
      have hmem : L.getD k 0 ∈ L := getD_mem hkl
      have htk := take_next L k 0 hkl
      unfold NumC at hc
      obtain ⟨x, hx⟩ : ∃ x, x = L.getD k 0 := ⟨_, rfl⟩
      rw [← hx] at hc hmem htk
      obtain ⟨hx0, hxS⟩ := HL.out.2.1 x hmem
      obtain ⟨j, rfl⟩ := Int.eq_ofNat_of_zero_le hx0
      have hj : j < S := by omega
      have hsl := HD.out.len
      have c0 := HI.out.cell (j := j) (by omega)
      have c1 := HI.out.blk.frozen j
      have HTK := Lib.hid htk
      have HMM := Lib.hid hmem
      obtain ⟨sb, hsb⟩ : ∃ sb, sb = seen.getD j false := ⟨_, rfl⟩
      rw [← hsb] at c0
      have HSB := Lib.hid hsb.symm
      clear hx htk hmem hsb hx0
      cases sb
      · have hfew := dfs_few HE.out HD.out
        have hi2 := HI.out.mark j
        have HI2 := Lib.hid hi2
        have hwl := HI.out.bel.size
        obtain ⟨m, hm⟩ : ∃ m, m = st.length := ⟨_, rfl⟩
        have HM := Lib.hid hm
        obtain ⟨Av, cv, rfl⟩ := own_slice HI.out.own
        rw [← hm] at HI HI2 hfew ⊢
        have hgl := HI.out.lt
        clear hm hi2
        go_upto_region 8 with (fail)
        generalize w3.setCell ⟨gs, j, none⟩ (.bool true) = w4 at HI2 ⊢
        have hgl4 := HI2.out.lt
        have hcn := cell_one_new w4 (.int .i64 (j : Int)) 3
        clear c0 c1
        go_wp2_with (at_builtin; (refine wpList_append_lies _ rfl _ _ 36 rfl (gs + 1) 3 i3 (.int .i64 0) 1 8 Try.underlying36 hi3 hz3 hsz3 hbt3 rfl (by decide) (.slice Av m cv) m _ rfl (by have h9 := (HI2.out.own.alloc (.cells #[.int .i64 (j : Int)] 3)); rw [← HM.out] at h9; exact h9) ⟨w4.heap.size, 0, none⟩ 1 1 [.int .i64 (j : Int)] rfl rfl hcn (by simp [Value.oneCell']) (by omega) (by unfold maxLen; omega) (by omega) (by simp; omega) _ rfl ?_; intro g5 c5 w5 hown5 hgrow5 hat5 _))
        go_roundw
        case rel =>
          refine ⟨k + 1, seen.set j true, st ++ [(j : Int)], by go_num, by omega, ?_, HD.out.push hj (.root HMM.out (by omega) hxS) HSB.out, ?_⟩
          · have h9 := (HI2.out.alloc (.cells #[.int .i64 (j : Int)] 3)).push (x := (j : Int)) (g := g5) (cap := c5) (by rw [← HM.out]; exact hown5) hgrow5 (hat5.imp (fun h => h) (fun h => h))
            rw [← HM.out] at h9
            exact h9
          · rw [HTK.out]
            intro i hi h1 h2
            rcases List.mem_append.1 hi with h9 | h9
            · exact List.mem_append.2 (.inl (HRT.out i h9 h1 h2))
            · exact List.mem_append.2 (.inr h9)
        case measure => simp [intOf]; omega
      · go_wp2_with fail
        go_roundw
        case rel =>
          refine ⟨k + 1, seen, st, by go_num, by omega, HI.out, HD.out, ?_⟩
          rw [HTK.out]
          intro i hi h1 h2
          rcases List.mem_append.1 hi with h9 | h9
          · exact HRT.out i h9 h1 h2
          · have h8 : i = (j : Int) := by simpa using h9
            subst h8
            have := (HD.out.sn j hj).1 HSB.out
            simpa using this
        case measure => simp [intOf]; omega
    · obtain rfl : k = n2 := by omega
      rw [List.take_of_length_le (by have := HL.out.1; omega)] at HRT
      go_wp2_with fail
      go_loopw [6, 7] (fun sv ov wr => FD E S L w gs sv ov wr) (fun sv _ wr => left gs sv wr)
      case atStart => exact ⟨[], seen, st, HI.out, HD.out, HRT.out, fun e _ _ h => by simp at h⟩
      case round =>
        obtain ⟨pre, seen, st, hit, hdf, hrt, hfo⟩ := hrel
        obtain ⟨w3, rfl⟩ : ∃ w3 : World, w3 = wr := ⟨_, rfl⟩
        clear HI HD HRT
        have HI := Lib.hid hit
        have HD := Lib.hid hdf
        have HRT := Lib.hid hrt
        have HFO := Lib.hid hfo
        clear hit hdf hrt hfo
        obtain ⟨A5, c5, rfl⟩ := own_slice HI.out.own
        rcases List.eq_nil_or_concat st with rfl | ⟨st0, x, rfl⟩
        · have hr1 := HRT.out
          have hf1 := HFO.out
          have hn1 := HD.out
          rw [List.append_nil] at hr1 hf1
          have hnd : pre.Nodup := by simpa using hn1.nodup
          have hmm : ∀ i, i ∈ pre ↔ Rch E S L i := fun i => ⟨fun hi => hn1.rch i (by simp [hi]), fun hi => rch_all hr1 hf1 hi⟩
          have hpos : pre ≠ [] := fun e => by
            cases hL : L with
            | nil => exact HL.out.2.2 hL
            | cons y l =>
              have hy : y ∈ L := by rw [hL]; simp
              have hyr := HL.out.2.1 y hy
              have := hr1 y hy hyr.1 hyr.2
              rw [e] at this; cases this
          obtain ⟨go, cap, hv, hgo, hgl⟩ := HI.out.out.form (by cases pre with | nil => exact absurd rfl hpos | cons _ _ => simp)
          have hcur : ∃ cur, w3.heap[go]? = some (.cells cur 3 (0, 0)) ∧ pre.length ≤ cap ∧ cap ≤ maxLen ∧ cur.size = cap * 1 := by
            rcases HI.out.out.2 with ⟨h9, _⟩ | ⟨g, cap', cur, h9, _, h8, h7, h6, h5, _⟩
            · rw [hv] at h9; cases h9
            · rw [hv] at h9
              simp only [Value.slice.injEq, Option.some.injEq, Addr.mk.injEq, and_true] at h9
              obtain ⟨rfl, _, rfl⟩ := h9
              exact ⟨cur, h8, h7, h6, h5⟩
          obtain ⟨cur, hcur, hc1, hc2, hc3⟩ := hcur
          have hH : Go.Sort.Holds (Value.int .i64) w3 go 0 pre.toArray := fun j hj => by
            have hj' : j < pre.length := by simpa using hj
            refine ⟨?_, by simp [World.frozen?, hcur]⟩
            have h9 := HI.out.out.cells (g := go) (by rw [hv]; rfl) j (.int .i64 pre[j]) (by simp [numsV, hj'])
            rw [add_plain'] at h9
            simpa [hj'] using h9
          have hps : pre.length < 4611686018427387904 := by
            have := pigeon S _ hnd (fun x hx => ((hmm x).1 hx).range HE.out)
            omega
          have hsort := Try.slices_Sort_int go 0 cap pre w3 hH hgl hps
          rw [sorted_clos HE.out hnd hmm] at hsort
          have hcl := clos_len HE.out hnd hmm
          have HSO := Lib.hid (fun (n : Nat) (os : Array Obj) => ownsRow_sortedI (w := w3) (base := gs + 1) (n := n) (os := os) (ss := pre) (ts := natL (closN E S L)) (by rw [natL_len, hcl]) hgo hcur hc1 hc2 hc3)
          have HGR := Lib.hid (fun (n : Nat) (os : Array Obj) => grownBy_sortedI (w := w3) (g := go) (n := n) (os := os) (natL (closN E S L)).toArray)
          have HSR := Lib.hid hsort
          have HCL := Lib.hid hcl
          have HGO := Lib.hid hgo
          obtain ⟨pl, hpl⟩ : ∃ pl, pl = pre.length := ⟨_, rfl⟩
          rw [← hpl] at HSR HSO HCL
          subst hv
          rw [← hpl]
          clear hr1 hf1 hn1 hnd hmm hpos hcur hc1 hc2 hc3 hH hps hsort hcl hpl hgo
          go_wp2_with (go_at_call 59; refine HSR.out.mono ?_; rintro e w5 ⟨rfl, n, os, rfl⟩)
          go_returns
          have hbe : w.heap.size ≤ gs := HI.out.lo
          refine ⟨go, cap, by rw [HCL.out]; rfl, ?_, HI.out.bel.grown (HGR.out n os) HI.out.bel.size (fun b e => by cases e; have := HGO.out; omega)⟩
          have h9 := HSO.out n os
          rw [HCL.out]
          refine ⟨h9.1, ?_⟩
          rcases h9.2 with h8 | ⟨g', cap', cur', h1, h2, h3⟩
          · exact .inl h8
          · exact .inr ⟨g', cap', cur', h1, by omega, h3⟩
        · rw [List.concat_eq_append] at HI HD HRT HFO ⊢
          have hown := HI.out.own
          obtain ⟨b5, cap5, hv5, _, hbl5⟩ := hown.form (by simp)
          simp only [Value.slice.injEq] at hv5
          obtain ⟨rfl, _, rfl⟩ := hv5
          have hx5 : w3.cell? ⟨b5, st0.length, none⟩ = some (.int .i64 x) := by
            have := hown.cells (g := b5) rfl st0.length (.int .i64 x) (by simp [numsV])
            rw [add_plain'] at this
            simpa using this
          have hfew := dfs_few HE.out HD.out
          have hprl : pre.length ≤ S := pigeon S _ ((List.nodup_append.1 HD.out.nodup).1) (fun y hy => (HD.out.rch y (by simp [hy])).range HE.out)
          have hcap : st0.length + 1 ≤ c5 := by
            rcases hown.2 with ⟨h9, _⟩ | ⟨g, cap, cur, h9, _, _, h8, _⟩
            · cases h9
            · simp only [Value.slice.injEq] at h9
              obtain ⟨_, _, rfl⟩ := h9
              simpa using h8
          simp only [List.length_append, List.length_singleton] at hfew HI
          have hlen1 : ((st0.length : Int) + 1 - 1) = st0.length := by omega
          have hlen0 : (0 : Int) < (st0.length : Int) + 1 := by omega
          obtain ⟨hx0, hxS⟩ := (HD.out.rch x (by simp)).range HE.out
          obtain ⟨i, rfl⟩ := Int.eq_ofNat_of_zero_le hx0
          have hi : i < S := by omega
          clear hown hx0 hxS
          obtain ⟨m, hm⟩ : ∃ m, m = st0.length := ⟨_, rfl⟩
          have hll : (st0 ++ [(i : Int)]).length = m + 1 := by simp [hm]
          rw [← hm] at hx5 hfew hcap hlen1 hlen0 HI
          rw [hll]
          have HM := Lib.hid hm
          clear hm hll
          have HI3 := Lib.hid (show FI w gs pre seen st0 (.slice (some ⟨b5, 0, none⟩) m c5) u7 w3 by
            have h9 := HI.out
            rw [HM.out] at h9 ⊢
            exact h9.pop)
          have HD3 := Lib.hid HD.out.pop
          have HLF := Lib.hid (left_eq (A := some ⟨b5, 0, none⟩) (n := m + 1) (c := c5) HI.out.blk)
          obtain ⟨pl, hpl⟩ : ∃ pl, pl = pre.length := ⟨_, rfl⟩
          obtain ⟨Ao, co, hvo⟩ := own_slice HI3.out.out
          rw [hvo] at HI3
          rw [hvo]
          have HPL := Lib.hid hpl
          have hcn := cell_one_new w3 (.int .i64 (i : Int)) 3
          have hwl := HI3.out.lt
          rw [← hpl] at hprl HI3 ⊢
          have hbe := HI3.out.bel.size
          clear hvo hpl HI
          go_upto_region 14 with (at_builtin; (refine wpList_append_lies _ rfl _ _ 36 rfl (gs + 1) 3 i3 (.int .i64 0) 1 8 Try.underlying36 hi3 hz3 hsz3 hbt3 rfl (by decide) (.slice Ao pl co) pl _ rfl (by have h9 := (HI3.out.out.alloc (.cells #[.int .i64 (i : Int)] 3)); rw [← HPL.out] at h9; exact h9) ⟨w3.heap.size, 0, none⟩ 1 1 [.int .i64 (i : Int)] rfl rfl hcn (by simp [Value.oneCell']) (by omega) (by unfold maxLen; omega) (by omega) (by simp; omega) _ rfl ?_; intro g5 c6 w5 hown5 hgrow5 hat5 _))
          have hi5 : FI w gs (pre ++ [(i : Int)]) seen st0 (.slice (some ⟨b5, 0, none⟩) m c5) (.slice (some ⟨g5, 0, none⟩) (pl + 1) c6) w5 := by
            have h9 := (HI3.out.alloc (.cells #[.int .i64 (i : Int)] 3)).come (x := (i : Int)) (g := g5) (cap := c6) (by rw [← HPL.out]; exact hown5) hgrow5 (hat5.imp (fun h => h) (fun h => h))
            rw [← HPL.out] at h9
            exact h9
          have HI5 := Lib.hid hi5
          have hR := HR.out w5 hi5.bel
          obtain ⟨b6, o6, he6, _, hr6⟩ := hR.arr.one hi
          have hfl : (freeD E i).length ≤ 16000 := Nat.le_trans (freeD_len _ _) hEl
          obtain ⟨ln, hln⟩ : ∃ ln, ln = (freeD E i).length := ⟨_, rfl⟩
          obtain ⟨A6, hA6⟩ : ∃ A6, A6 = RA i := ⟨_, rfl⟩
          obtain ⟨c7, hc7⟩ : ∃ c7, c7 = rc i := ⟨_, rfl⟩
          rw [← hln, ← hA6, ← hc7] at hr6
          rw [← hln] at hfl
          have HA6 := Lib.hid hA6
          have HLN := Lib.hid hln
          subst he6
          clear hx5 hcn hown5 hgrow5 hat5 hi5 hR hln hA6 hc7 HI3 hwl hbe
          go_upto_region 15 with (fail)
          go_loopw [6, 58] (fun sv iv wr => ∃ (q : Nat) (seen' : List Bool) (st : List Int), iv = .int .i64 (q : Int) ∧ q ≤ ln ∧ FI w gs (pre ++ [(i : Int)]) seen' st sv (.slice (some ⟨g5, 0, none⟩) (pl + 1) c6) wr ∧ Dfs E S L (pre ++ [(i : Int)]) st seen' ∧
            (∀ y, y ∈ pre ++ (st0 ++ [(i : Int)]) → y ∈ (pre ++ [(i : Int)]) ++ st) ∧ (∀ d ∈ (freeD E i).take q, d ∈ (pre ++ [(i : Int)]) ++ st) ∧ 2 * falses seen' + st.length ≤ 2 * falses seen + m) (fun _ iv _ => ln - (intOf iv).toNat)
          case atStart => exact ⟨0, seen, st0, rfl, by omega, HI5.out, HD3.out, fun y hy => mem_pop.2 hy, by simp, by rw [HM.out]; omega⟩
          case round =>
            obtain ⟨q, seen', st, rfl, hq, hit, hdf, hall, hfol, hms⟩ := hrel
            obtain ⟨w4, rfl⟩ : ∃ w4 : World, w4 = wr := ⟨_, rfl⟩
            obtain ⟨sv, rfl⟩ : ∃ v : Value, v = u6 := ⟨_, rfl⟩
            have HI := Lib.hid hit
            have HD4 := Lib.hid hdf
            have HAL := Lib.hid hall
            have HFL := Lib.hid hfol
            have HMS := Lib.hid hms
            have hR4 := HR.out w4 hit.bel
            clear hit hdf hall hfol hms
            by_cases hlt : q < ln
            · have har := hR4.row i hi
              rw [← HLN.out, ← HA6.out] at har
              obtain ⟨b7, o7, rfl, _, s0⟩ := har.one hlt
              have hqf : q < (freeD E i).length := by rw [← HLN.out]; exact hlt
              have hem : (freeD E i).getD q 0 ∈ freeD E i := getD_mem hqf
              have htk := take_next (freeD E i) q 0 hqf
              unfold NumC at s0
              obtain ⟨y, hy⟩ : ∃ y, y = (freeD E i).getD q 0 := ⟨_, rfl⟩
              rw [← hy] at s0 hem htk
              obtain ⟨e, he, hef, hes, hed⟩ := mem_freeD.1 hem
              have hre := HE.out e he
              have hrc : Rch E S L y := by rw [← hed]; exact .step he hef (by rw [hes]; exact HD4.out.rch _ (by simp))
              rw [hed] at hre
              have hy0 := hre.2.2.1
              have hyS := hre.2.2.2
              have HTK := Lib.hid htk
              have HRC := Lib.hid hrc
              clear hy hem htk he hef hes hed hre hrc har hR4
              obtain ⟨j, rfl⟩ := Int.eq_ofNat_of_zero_le hy0
              have hj : j < S := by omega
              have hsl := HD4.out.len
              have hcs := HI.out.cell (j := j) (by omega)
              have hfz := HI.out.blk.frozen j
              obtain ⟨sb, hsb⟩ : ∃ sb, sb = seen'.getD j false := ⟨_, rfl⟩
              rw [← hsb] at hcs
              have HSB := Lib.hid hsb.symm
              clear hsb hy0
              cases sb
              · have hstl := dfs_few HE.out HD4.out
                have HI2 := Lib.hid (HI.out.mark j)
                have hwl := HI.out.bel.size
                obtain ⟨sl, hsl2⟩ : ∃ sl, sl = st.length := ⟨_, rfl⟩
                have HSL := Lib.hid hsl2
                obtain ⟨Av, cv, rfl⟩ := own_slice HI.out.own
                rw [← hsl2] at HI HI2 hstl HMS ⊢
                clear hsl2
                go_upto_region 19 with (fail)
                generalize w4.setCell ⟨gs, j, none⟩ (.bool true) = w6 at HI2 ⊢
                have hgl4 := HI2.out.lt
                have hcn := cell_one_new w6 (.int .i64 (j : Int)) 3
                clear hcs hfz
                go_wp2_with (at_builtin; (refine wpList_append_lies _ rfl _ _ 36 rfl (gs + 1) 3 i3 (.int .i64 0) 1 8 Try.underlying36 hi3 hz3 hsz3 hbt3 rfl (by decide) (.slice Av sl cv) sl _ rfl (by have h9 := (HI2.out.own.alloc (.cells #[.int .i64 (j : Int)] 3)); rw [← HSL.out] at h9; exact h9) ⟨w6.heap.size, 0, none⟩ 1 1 [.int .i64 (j : Int)] rfl rfl hcn (by simp [Value.oneCell']) (by omega) (by unfold maxLen; omega) (by omega) (by simp; omega) _ rfl ?_; intro g8 c8 w8 hown8 hgrow8 hat8 _))
                go_roundw
                case rel =>
                  refine ⟨q + 1, seen'.set j true, st ++ [(j : Int)], by go_num, by omega, ?_, HD4.out.push hj HRC.out HSB.out, fun y hy => by have := HAL.out y hy; rw [← List.append_assoc]; exact List.mem_append_left _ this, fun d hd => ?_, ?_⟩
                  · have h9 := (HI2.out.alloc (.cells #[.int .i64 (j : Int)] 3)).push (x := (j : Int)) (g := g8) (cap := c8) (by rw [← HSL.out]; exact hown8) hgrow8 (hat8.imp (fun h => h) (fun h => h))
                    rw [← HSL.out] at h9
                    exact h9
                  · rw [HTK.out] at hd
                    rw [← List.append_assoc]
                    rcases List.mem_append.1 hd with h9 | h9
                    · exact List.mem_append_left _ (HFL.out d h9)
                    · exact List.mem_append_right _ h9
                  · have h1 := falses_set (j := j) (by omega) HSB.out
                    have h2 := HMS.out
                    have h3 := HSL.out
                    simp only [List.length_append, List.length_singleton]
                    omega
                case measure => simp [intOf]; omega
              · have HIN := Lib.hid ((HD4.out.sn j hj).1 HSB.out)
                go_wp2_with fail
                go_roundw
                case rel =>
                  refine ⟨q + 1, seen', st, by go_num, by omega, HI.out, HD4.out, HAL.out, fun d hd => ?_, HMS.out⟩
                  rw [HTK.out] at hd
                  rcases List.mem_append.1 hd with h9 | h9
                  · exact HFL.out d h9
                  · have h8 : d = (j : Int) := by simpa using h9
                    rw [h8]; exact HIN.out
                case measure => simp [intOf]; omega
            · obtain rfl : q = ln := by omega
              clear hR4
              go_wp2_with fail
              go_roundw
              case rel =>
                refine ⟨_, _, _, HI.out, HD4.out, fun y h1 h2 h3 => HAL.out y (HRT.out y h1 h2 h3), ?_⟩
                refine fol_of (fun e he hf hs => HAL.out _ (HFO.out e he hf hs)) (fun d hd => HFL.out d ?_)
                rw [List.take_of_length_le (by rw [← HLN.out]; omega)]
                exact hd
              case measure =>
                obtain ⟨A9, c9, rfl⟩ := own_slice HI.out.own
                rw [left_eq HI.out.blk]
                have := HMS.out
                rw [HLF.out]
                omega
end Go.Proofs.Ytfjhcoeehjephaa
