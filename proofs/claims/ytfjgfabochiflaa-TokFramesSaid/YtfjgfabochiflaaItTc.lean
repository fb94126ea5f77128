/- It, Clo of this seat, in one text. -/
import Derived.Test.YtfjgfabochiflaaRangeTc
import Derived.Test.YtfjgfabochiflaaNfaTc
/- The iterator's own cells, and what stays while the body runs. -/
namespace Go.Proofs.Ytfjgfabochiflaa
open Go.RowKit

theorem wpListIn_append_lies {F : Fence} {n : Nat} {P : Program} (w : World) {ops : Array Oper} {rest : List Oper} {o : Oper} {a : Act} {Q : Exit → Act → World → Prop}
    (hg : o.guard = none) (s x : Operand) (t : TypeId) (hop : o.op = Op.call { callee := Callee.builtin Builtin.append, args := #[s, x], argTypes := #[t, t] })
    (base : Nat) (e : TypeId) (i : TypeInfo) (z : Value) (size bytes : Nat) (h1 : P.underlying t = some (.slice e)) (h2 : P.info? e = some i) (h3 : i.zero = some z) (h4 : i.size = size) (h5 : i.bytes = bytes) (h6 : z.cells.size = size) (h7 : 0 < size)
    (v : Value) (k : Nat) (xs : List Value) (hs : a.eval s = v) (hown : w.ownsRow base e size v k xs) (ad : Addr) (m c : Nat) (news : List Value) (hx : a.eval x = .slice (some ad) m c) (hn : news.length = m * size)
    (hc : ∀ j u, news[j]? = some u → w.cell? (ad.add j) = some u) (h1c : ∀ u ∈ news, u.oneCell' = true) (b0 : 0 < m) (b1 : k + m ≤ maxLen) (b2 : (k + m) * bytes ≤ 140737488355328) (b3 : base ≤ w.heap.size)
    (hK : ∀ g cap w', w'.ownsRow base e size (.slice (some ⟨g, 0, none⟩) (k + m) cap) (k + m) (xs ++ news) → w.grownBy w' v.ownBlock → (v.ownBlock = some g ∨ g = w.heap.size) → g < w'.heap.size → wpListIn F n P ops Q rest (a.put o.dst (.slice (some ⟨g, 0, none⟩) (k + m) cap)) w') :
    wpListIn F n P ops Q (o :: rest) a w := by
  refine wpListIn_plain hg fun K hK' => ?_
  obtain ⟨g, cap, w', hrun, r1, r2, r3, r4⟩ := run_append_lies (P := P) w t o.type base e i z size bytes h1 h2 h3 h4 h5 h6 h7 v k xs hown ad m c news hn hc h1c b0 b1 b2 b3 _ rfl
  unfold Oper.wpIn
  refine ⟨?_, ?_⟩
  · simp [Oper.about, hop, resolve, Target.leads, Sem.run_pure]
  · rw [Oper.semAt_plain F _ _ (by rw [hop]; intro c hc'; cases hc')]
    simp [execOp, hop, resolve, invoke, builtin, hs, hx, hrun, Result.andThen]
    exact hK' _ _ (hK g cap w' r1 r2 r3 r4)

theorem own_move {w w' : World} {base n size : Nat} {e : TypeId} {v : Value} {xs : List Value} (h : w.ownsRow base e size v n xs) (hs : ∀ b o, v.ownBlock = some b → w.heap[b]? = some o → o.isCells = true → w'.heap[b]? = some o) : w'.ownsRow base e size v n xs := by
  refine ⟨h.1, ?_⟩
  rcases h.2 with h2 | ⟨g, cap, cur, hv, hb, hg, r⟩
  · exact .inl h2
  · exact .inr ⟨g, cap, cur, hv, hb, hs g _ (by rw [hv]; rfl) hg rfl, r⟩
theorem grownBy_none (w : World) : w.grownBy w none := ⟨rfl, rfl, rfl, Nat.le_refl _, fun _ _ _ => rfl⟩
theorem grownBy_drewN (w : World) (n : Nat) : w.grownBy (w.drewN n) none := ⟨rfl, rfl, rfl, Nat.le_refl _, fun _ _ _ => rfl⟩
theorem grownBy_setCell (w : World) (g k : Nat) (v : Value) : w.grownBy (w.setCell ⟨g, k, none⟩ v) (some g) := ⟨rfl, rfl, rfl, by show w.heap.size ≤ (w.heap.modify g _).size; simp, fun k _ hk => Below.heap_setCell _ _ _ k (fun e => hk (by rw [e]))⟩
def numsV (q : IntKind) (l : List Int) : List Value := l.map (.int q)
theorem numsV_snoc (q : IntKind) (l : List Int) (x : Int) : numsV q (l ++ [x]) = numsV q l ++ [.int q x] := by simp [numsV]

theorem Keep.refl (X : World → Nat → Prop) (W : World) : Keep X W W := ⟨Nat.le_refl _, fun _ _ h => h, fun _ _ h _ _ => h⟩
theorem Keep.of_grown {X : World → Nat → Prop} {w W W' : World} {row : Option Nat} (h : Keep X w W) (hg : W.grownBy W' row) (hx : ∀ r, X W' r → X W r) (hr : ∀ r, row = some r → w.heap.size ≤ r) : Keep X w W' :=
  ⟨Nat.le_trans h.size hg.size, fun b hb h9 => h.mine b hb (hx b h9), fun b o ho hc hn => by
    have h2 := h.same b o ho hc hn
    have hlt := (Array.getElem?_eq_some_iff.1 ho).1
    exact (hg.block b (Array.getElem?_eq_some_iff.1 h2).1 (fun e => by have := hr b e.symm; omega)).trans h2⟩

structure It (X : World → Nat → Prop) (w : World) (J : List Int → World → Prop) (B gs base S : Nat) (pre : List Int) (seen : List Bool) (st : List Int) (v : Value) (W : World) : Prop where
  j : J pre W
  keep : Keep X w W
  nx : ¬ X W gs
  blk : Blk W gs 4 (seen.map Value.bool)
  own : W.ownsRow base 3 1 v st.length (numsV .i64 st)
  nrow : ∀ b, v.ownBlock = some b → ¬ X W b
  lo : w.heap.size ≤ B
  at_ : B ≤ gs
  at2 : gs < base
section
variable {X : World → Nat → Prop} {w W W' : World} {J : List Int → World → Prop} {B gs base S : Nat} {pre st : List Int} {seen : List Bool} {v : Value}
theorem It.lt (h : It X w J B gs base S pre seen st v W) : gs < W.heap.size := h.blk.lt
theorem It.grow (h : It X w J B gs base S pre seen st v W) (ha : Abides X B J) (hg : W.grownBy W' none) : It X w J B gs base S pre seen st v W' := by
  obtain ⟨hj, hx⟩ := ha pre W W' none h.j hg (fun r e => by cases e)
  refine ⟨hj, h.keep.of_grown hg hx (fun r e => by cases e), fun h9 => h.nx (hx _ h9), h.blk.same (hg.block _ h.lt (fun e => by cases e)), own_move h.own (fun b o _ ho _ => (hg.block b (Array.getElem?_eq_some_iff.1 ho).1 (fun e => by cases e)).trans ho), fun b hb h9 => h.nrow b hb (hx _ h9), h.lo, h.at_, h.at2⟩
theorem It.alloc (h : It X w J B gs base S pre seen st v W) (ha : Abides X B J) (o : Obj) : It X w J B gs base S pre seen st v (W.alloc o) := h.grow ha (World.grownBy_alloc W o none)
theorem It.drewN (h : It X w J B gs base S pre seen st v W) (ha : Abides X B J) (m : Nat) : It X w J B gs base S pre seen st v (W.drewN m) := h.grow ha (grownBy_drewN W m)
theorem It.drew (h : It X w J B gs base S pre seen st v W) (ha : Abides X B J) : It X w J B gs base S pre seen st v W.drew := h.grow ha ⟨rfl, rfl, rfl, Nat.le_refl _, fun _ _ _ => rfl⟩
theorem It.gfar (h : It X w J B gs base S pre seen st v W) : v.ownBlock ≠ some gs := fun e => by have := (h.own.lt gs e).1; have := h.at2; omega
theorem It.mark (h : It X w J B gs base S pre seen st v W) (ha : Abides X B J) (j : Nat) : It X w J B gs base S pre (seen.set j true) st v (W.setCell ⟨gs, j, none⟩ (.bool true)) := by
  have hg := grownBy_setCell W gs j (.bool true)
  obtain ⟨hj, hx⟩ := ha pre W _ _ h.j hg (fun r e => by cases e; exact ⟨h.at_, h.nx⟩)
  refine ⟨hj, h.keep.of_grown hg hx (fun r e => by cases e; exact Nat.le_trans h.lo h.at_), fun h9 => h.nx (hx _ h9), ?_, own_move h.own (fun b o hb ho _ => (hg.block b (Array.getElem?_eq_some_iff.1 ho).1 (fun e => ?_)).trans ho), fun b hb h9 => h.nrow b hb (hx _ h9), h.lo, h.at_, h.at2⟩
  · have := h.blk.set j (.bool true)
    rw [List.map_set]; exact this
  · cases e; exact h.gfar hb
theorem It.app (h : It X w J B gs base S pre seen st v W) (ha : Abides X B J) (hxl : ∀ pre W, J pre W → ∀ r, X W r → r < W.heap.size) {g cap : Nat} {x : Int}
    (hown : W'.ownsRow base 3 1 (.slice (some ⟨g, 0, none⟩) (st.length + 1) cap) (st.length + 1) (numsV .i64 st ++ [.int .i64 x])) (hg : W.grownBy W' v.ownBlock) (hat : v.ownBlock = some g ∨ g = W.heap.size) :
    It X w J B gs base S pre seen (st ++ [x]) (.slice (some ⟨g, 0, none⟩) (st.length + 1) cap) W' := by
  obtain ⟨hj, hx⟩ := ha pre W _ _ h.j hg (fun r e => ⟨by have := (h.own.lt r e).1; have := h.at_; have := h.at2; omega, h.nrow r e⟩)
  refine ⟨hj, h.keep.of_grown hg hx (fun r e => by have := (h.own.lt r e).1; have := h.at_; have := h.at2; have := h.lo; omega), fun h9 => h.nx (hx _ h9), h.blk.same (hg.block _ h.lt (fun e => h.gfar e.symm)), ?_, fun b hb h9 => ?_, h.lo, h.at_, h.at2⟩
  · rw [List.length_append, numsV_snoc]; exact hown
  · obtain rfl : g = b := by simpa [Value.ownBlock] using hb
    rcases hat with hat | hat
    · exact h.nrow g hat (hx _ h9)
    · have := hxl _ _ h.j _ (hx _ h9)
      omega
theorem own_pop {base c n : Nat} {A : Option Addr} {xs : List Value} {x : Value} (h : W.ownsRow base 3 1 (.slice A (n + 1) c) (n + 1) (xs ++ [x])) (hl : xs.length = n) : W.ownsRow base 3 1 (.slice A n c) n xs := by
  rcases h.2 with ⟨_, h'⟩ | ⟨g', cap', cur, h', hb, hg, hnc, hcm, hcs, htake⟩
  · omega
  · simp only [Value.slice.injEq] at h'
    obtain ⟨rfl, _, rfl⟩ := h'
    refine ⟨by omega, .inr ⟨g', c, cur, rfl, hb, hg, by omega, hcm, hcs, ?_⟩⟩
    have h9 := congrArg (List.take n) htake
    rw [List.take_take, List.take_left' hl] at h9
    rw [← h9]
    congr 1
    omega
theorem It.pop {x : Int} {A : Option Addr} {c : Nat} (h : It X w J B gs base S pre seen (st ++ [x]) (.slice A (st.length + 1) c) W) : It X w J B gs base S pre seen st (.slice A st.length c) W := by
  refine ⟨h.j, h.keep, h.nx, h.blk, own_pop (x := .int .i64 x) ?_ (by simp [numsV]), fun b hb => h.nrow b ?_, h.lo, h.at_, h.at2⟩
  · have := h.own
    rw [numsV_snoc, List.length_append] at this
    exact this
  · cases A with
    | none => simp [Value.ownBlock] at hb
    | some a => simpa [Value.ownBlock] using hb
theorem It.round {x : Int} (h : It X w J B gs base S pre seen st v W) (hj : J (pre ++ [x]) W') (hk : Keep X W W') : It X w J B gs base S (pre ++ [x]) seen st v W' :=
  ⟨hj, h.keep.trans hk, fun h9 => h.nx (hk.mine _ h.lt h9), hk.same _ _ h.blk rfl h.nx, own_move h.own (fun b o hb ho hc => hk.same b o ho hc (h.nrow b hb)), fun b hb h9 => h.nrow b hb (hk.mine b (h.own.lt b hb).2 h9), h.lo, h.at_, h.at2⟩
theorem It.cell (h : It X w J B gs base S pre seen st v W) {j : Nat} (hj : j < seen.length) : W.cell? ⟨gs, j, none⟩ = some (.bool (seen.getD j false)) := by
  rw [h.blk.cell]
  simp [hj]
end
end Go.Proofs.Ytfjgfabochiflaa
/- nfa.closure's iterator. -/
namespace Go.Proofs.Ytfjgfabochiflaa
open Go.RowKit Go.Shelf
attribute [local go_sem] Oper.semAt_some

structure CFacts (W : World) (p1 p2 g S : Nat) (E : List Ed) (RA : Nat → Option Addr) (rc : Nat → Nat) (A2 : Option Addr) (n2 c2 : Nat) (L : List Int) : Prop where
  c1 : W.cell? ⟨p1, 0, none⟩ = some (.slice (some ⟨g, 0, none⟩) S S)
  c2 : W.cell? ⟨p2, 0, none⟩ = some (.slice A2 n2 c2)
  rows : RowsE W (some ⟨g, 0, none⟩) S E RA rc
  arr : Arr W W.heap.size 1 A2 n2 (NumC .i64 L)
/-- the measure: what is not seen yet counts twice -/
def left (gs : Nat) (v : Value) (W : World) : Nat :=
  2 * (match W.heap[gs]? with
    | some (.cells cs _ _) => cs.toList.countP (fun v => match v with | .bool b => !b | _ => false)
    | _ => 0) + (match v with | .slice _ n _ => n | _ => 0)
theorem left_eq {gs : Nat} {A : Option Addr} {n c : Nat} {W : World} {seen : List Bool} (h : Blk W gs 4 (seen.map Value.bool)) : left gs (.slice A n c) W = 2 * falses seen + n := by
  unfold left falses
  rw [show W.heap[gs]? = _ from h]
  simp only [List.countP_map]
  rfl
theorem own_slice {w : World} {base size n : Nat} {e : TypeId} {v : Value} {xs : List Value} (h : w.ownsRow base e size v n xs) : ∃ A c, v = .slice A n c := by
  rcases h.2 with ⟨rfl, rfl⟩ | ⟨g, cap, cur, hv, _⟩
  · exact ⟨_, _, rfl⟩
  · exact ⟨_, _, hv⟩

set_option maxRecDepth 100000 in
set_option maxHeartbeats 8000000 in
theorem clo_in (n : Nat) (hn : 1 ≤ n) (p1 p2 g S : Nat) (hS : S ≤ 2000) (E : List Ed) (hE : OkE E S) (hEl : E.length ≤ 16000) (RA : Nat → Option Addr) (rc : Nat → Nat) (A2 : Option Addr) (n2 c2 : Nat) (L : List Int) (hL : L.length = n2) (hn2 : n2 ≤ 140737488355328) (X : World → Nat → Prop) (w : World)
    (hQ : ∀ W', Keep X w W' → CFacts W' p1 p2 g S E RA rc A2 n2 c2 L) :
    IterOk n 137 #[.pointer (some ⟨p1, 0, none⟩), .pointer (some ⟨p2, 0, none⟩)] X (fun pre x => x ∉ pre ∧ Rch E S L x) (fun xs => xs.Nodup ∧ ∀ i, i ∈ xs ↔ Rch E S L i) w := by
  intro l J W hb hXw hJ hXl hY h0
  have HQ := Lib.hid hQ
  have HE := Lib.hid hE
  have HJ := Lib.hid hJ
  have HXL := Lib.hid hXl
  have hkeep0 : Keep X w W := ⟨hb.size, fun b _ h => hXw b h, fun b o ho _ _ => (hb.block b (Array.getElem?_eq_some_iff.1 ho).1).trans ho⟩
  have HF0 := Lib.hid (hQ W hkeep0)
  have hc1 := HF0.out.c1
  have hc2 := HF0.out.c2
  have hmk := make_one 44 4 (.bool false) 1 Try.underlying44 info4 rfl S hS (by omega) W
  obtain ⟨i3, hi3, hz3, hsz3, hbt3⟩ := info_parts info3
  have hwW := hb.size
  clear hQ hJ hE hXl
  refine callsIn_of_wp Try.func137 rfl trivial ?_ rfl
  simp only [Try.ntmps137, List.size_toArray, List.length_cons, List.length_nil, Nat.reduceAdd, Nat.reduceSub, Array.replicate_succ, Array.replicate_zero, List.push_toArray, List.append_toArray, List.nil_append, List.cons_append]
  have hrep : Array.replicate S (Value.bool false) = ((List.replicate S false).map Value.bool).toArray := by simp
  have hIt0 : It X w J W.heap.size W.heap.size (W.heap.size + 1) S [] (List.replicate S false) [] (.slice none 0 0) (W.alloc (.cells (Array.replicate S (.bool false)) 4)) := by
    obtain ⟨hj, hx⟩ := HJ.out [] W _ none h0 (World.grownBy_alloc W (.cells (Array.replicate S (.bool false)) 4) none) (fun r e => by cases e)
    refine ⟨hj, hkeep0.of_grown (World.grownBy_alloc W _ none) hx (fun r e => by cases e), fun h9 => ?_, by rw [hrep]; exact Blk.new _ _ _, World.ownsRow_nil _ _ _ _, fun b hb => by simp [Value.ownBlock] at hb, hwW, Nat.le_refl _, by omega⟩
    exact absurd (HXL.out [] W h0 _ (hx _ h9)) (Nat.lt_irrefl _)
  have HI0 := Lib.hid hIt0
  have hF1 := Lib.hid (HQ.out _ hIt0.keep)
  have hd1 := hF1.out.c1
  have hd2 := hF1.out.c2
  clear hIt0 hrep h0 hc2
  gi_wp2
  obtain ⟨gs, hgs⟩ : ∃ gs, gs = W.heap.size := ⟨_, rfl⟩
  rw [← hgs] at HI0 ⊢
  rw [← hgs] at HJ hwW
  generalize W.alloc (.cells (Array.replicate S (.bool false)) 4) = W1 at HI0 hF1 hd1 hd2 ⊢
  have HG := Lib.hid hgs
  clear hmk hc1 HF0 hgs
  gi_loopw [5, 16] (fun v a wr => ∃ (k : Nat) (seen : List Bool) (st : List Int), a = .int .i64 k ∧ k ≤ n2 ∧ It X w J gs gs (gs + 1) S [] seen st v wr ∧ Dfs E S L [] st seen ∧ Roots S (L.take k) st) (fun _ a _ => n2 - (intOf a).toNat)
  case atStart => exact ⟨0, _, [], rfl, by omega, HI0.out, Dfs.begin, by intro i hi; simp at hi⟩
  case round =>
    obtain ⟨k, seen, st, rfl, hk, hit, hdf, hrt⟩ := hrel
    obtain ⟨w3, rfl⟩ : ∃ w3 : World, w3 = wr := ⟨_, rfl⟩
    have HI := Lib.hid hit
    have HD := Lib.hid hdf
    have HR := Lib.hid hrt
    have HF := Lib.hid (HQ.out w3 hit.keep)
    clear hit hdf hrt
    by_cases hlt : k < n2
    · obtain ⟨b, o, rfl, hbl, hc⟩ := HF.out.arr.one hlt
      simp only [NumC] at hc
      have hroots : ∀ st', (∀ i ∈ st, i ∈ st') → (0 ≤ L.getD k 0 → L.getD k 0 < (S : Int) → L.getD k 0 ∈ st') → Roots S (L.take (k + 1)) st' := fun st' h1 h2 i hi h3 h4 => by
        rw [List.take_succ_eq_append_getElem (by omega : k < L.length), List.mem_append] at hi
        rcases hi with hi | hi
        · exact h1 i (HR.out i hi h3 h4)
        · have e9 : i = L.getD k 0 := by simpa [show k < L.length by omega] using hi
          rw [e9]; exact h2 (e9 ▸ h3) (e9 ▸ h4)
      have hmem : L.getD k 0 ∈ L := by simp [show k < L.length by omega]
      have HRO := Lib.hid hroots
      have HME := Lib.hid hmem
      have hc1 := HF.out.c1
      obtain ⟨x, hx⟩ : ∃ x, x = L.getD k 0 := ⟨_, rfl⟩
      rw [← hx] at hc HRO HME
      have hkn : (k : Int) < (n2 : Int) := by omega
      clear hx hroots hmem
      by_cases h1 : 0 ≤ x
      · by_cases h2 : x < (S : Int)
        · obtain ⟨j, rfl⟩ := Int.eq_ofNat_of_zero_le h1
          have hj : j < S := by omega
          have hsl := HD.out.len
          have hcs := HI.out.cell (j := j) (by omega)
          have hfz := HI.out.blk.frozen j
          cases hsb : seen.getD j false with
          | true =>
            rw [hsb] at hcs
            have HIN := Lib.hid ((HD.out.sn j hj).1 hsb)
            clear hsb
            gi_wp2
            go_roundw
            case rel => exact ⟨k + 1, seen, st, by go_num, by omega, HI.out, HD.out, HRO.out _ (fun i hi => hi) (fun _ _ => by simpa using HIN.out)⟩
            case measure => simp [intOf]; omega
          | false =>
            rw [hsb] at hcs
            have HSB := Lib.hid hsb
            have hstl : st.length ≤ 2000 := Nat.le_trans (dfs_few HE.out HD.out) hS
            have hI2 := HI.out.mark HJ.out j
            have HI2 := Lib.hid hI2
            have hbs : gs < w3.heap.size := HI.out.lt
            clear hsb hI2
            have hcn : ∀ jj u, [Value.int .i64 (j : Int)][jj]? = some u → ((w3.setCell ⟨gs, j, none⟩ (.bool true)).alloc (.cells #[.int .i64 (j : Int)] 3)).cell? ((⟨w3.heap.size, 0, none⟩ : Addr).add jj) = some u := by
              have := cell_one_new (w3.setCell ⟨gs, j, none⟩ (.bool true)) (.int .i64 (j : Int)) 3
              simpa using this
            gi_wp2_with (first
              | (gi_at_builtin; (refine wpListIn_append_lies _ rfl _ _ 32 rfl (gs + 1) 3 i3 (.int .i64 0) 1 8 Try.underlying32 hi3 hz3 hsz3 hbt3 rfl (by decide) u5 _ _ rfl (HI2.out.own.alloc _) ⟨w3.heap.size, 0, none⟩ 1 1 [.int .i64 j] rfl rfl hcn (by simp [Value.oneCell']) (by omega) (by unfold maxLen; omega) (by omega) (by simp; omega) ?_; intro g5 c5 w5 hown5 hgrow5 hat5 _; have HA := Lib.hid ((HI2.out.alloc HJ.out _).app HJ.out HXL.out hown5 hgrow5 hat5))))
            go_roundw
            case rel => exact ⟨k + 1, _, _, by go_num, by omega, HA.out, HD.out.push hj (.root HME.out h1 h2) HSB.out, HRO.out _ (fun i hi => by simp [hi]) (fun _ _ => by simp)⟩
            case measure => simp [intOf]; omega
        · have hge : (S : Int) ≤ x := by omega
          have e3 : decide (x < (S : Int)) = false := by simp; omega
          gi_wp2
          go_roundw
          case rel => exact ⟨k + 1, seen, st, by go_num, by omega, HI.out, HD.out, HRO.out _ (fun i hi => hi) (fun _ h9 => absurd h9 h2)⟩
          case measure => simp [intOf]; omega
      · have e3 : decide (0 ≤ x) = false := by simp; omega
        gi_wp2
        go_roundw
        case rel => exact ⟨k + 1, seen, st, by go_num, by omega, HI.out, HD.out, HRO.out _ (fun i hi => hi) (fun h9 _ => absurd h9 h1)⟩
        case measure => simp [intOf]; omega
    · obtain rfl : k = n2 := by omega
      have hR2 := HR.out
      rw [List.take_of_length_le (by omega)] at hR2
      have HR2 := Lib.hid hR2
      obtain ⟨A5, c5, rfl⟩ := own_slice HI.out.own
      clear hR2
      gi_wp2
      gi_loopw [5] (fun v wr => ∃ (pre : List Int) (seen : List Bool) (st : List Int), It X w J gs gs (gs + 1) S pre seen st v wr ∧ Dfs E S L pre st seen ∧ Roots S L (pre ++ st) ∧ Fol E pre (pre ++ st)) (fun v wr => left gs v wr)
      case atStart => exact ⟨[], seen, st, HI.out, HD.out, HR2.out, fun e _ _ h => by simp at h⟩
      case round =>
        obtain ⟨pre, seen, st, hit, hdf, hrt, hfo⟩ := hrel
        obtain ⟨w3, rfl⟩ : ∃ w3 : World, w3 = wr := ⟨_, rfl⟩
        clear HR HR2 HI HD HF
        have HI := Lib.hid hit
        have HD := Lib.hid hdf
        have HR := Lib.hid hrt
        have HFO := Lib.hid hfo
        clear hit hdf hrt hfo
        obtain ⟨A5, c5, rfl⟩ := own_slice HI.out.own
        rcases List.eq_nil_or_concat st with rfl | ⟨st0, x, rfl⟩
        · gi_wp2
          go_end0
          have hr1 := HR.out
          have hf1 := HFO.out
          have hn1 := HD.out
          rw [List.append_nil] at hr1 hf1
          refine ⟨⟨_, rfl⟩, pre, ⟨by simpa using hn1.nodup, fun i => ⟨fun hi => hn1.rch i (by simp [hi]), fun hi => rch_all hr1 hf1 hi⟩⟩, HI.out.j⟩
        · rw [List.concat_eq_append] at HI HD HR HFO ⊢
          have hown := HI.out.own
          obtain ⟨b5, cap5, hv5, _, hbl5⟩ := hown.form (by simp)
          simp only [Value.slice.injEq] at hv5
          obtain ⟨rfl, _, rfl⟩ := hv5
          have hx5 : w3.cell? ⟨b5, st0.length, none⟩ = some (.int .i64 x) := by
            have := hown.cells (g := b5) rfl st0.length (.int .i64 x) (by simp [numsV])
            rw [add_plain'] at this
            simpa using this
          have hfew := dfs_few HE.out HD.out
          have hcap : st0.length + 1 ≤ c5 := by
            rcases hown.2 with ⟨h9, _⟩ | ⟨g, cap, cur, h9, _, _, h8, _⟩
            · cases h9
            · simp only [Value.slice.injEq] at h9
              obtain ⟨_, _, rfl⟩ := h9
              simpa using h8
          simp only [List.length_append, List.length_singleton] at hfew HI
          have hlen1 : ((st0.length : Int) + 1 - 1) = st0.length := by omega
          have hlen0 : (0 : Int) < (st0.length : Int) + 1 := by omega
          obtain ⟨fn, tmps, assign, body, hy, hRd⟩ := hY pre x w3 HI.out.j ⟨HD.out.fresh, HD.out.rch x (by simp)⟩
          clear hown
          obtain ⟨m, hm⟩ : ∃ m, m = st0.length := ⟨_, rfl⟩
          have hll : (st0 ++ [x]).length = m + 1 := by simp [hm]
          rw [← hm] at hx5 hfew hcap hlen1 hlen0 HI
          rw [hll]
          have HM := Lib.hid hm
          clear hm hll
          gi_wp2
          refine hRd.mono ?_
          rintro e W3 ⟨rfl, hJ3, hk3⟩
          obtain ⟨hx0, hxS⟩ := (HD.out.rch x (by simp)).range HE.out
          obtain ⟨i, rfl⟩ := Int.eq_ofNat_of_zero_le hx0
          have hi : i < S := by omega
          have hiS : (i : Int) < (S : Int) := by omega
          have HM2 := HM.out
          have HI3 := Lib.hid (show It X w J gs gs (gs + 1) S (pre ++ [(i : Int)]) seen st0 (.slice (some ⟨b5, 0, none⟩) m c5) W3 by
            have h9 := HI.out
            rw [HM2] at h9 ⊢
            exact (h9.pop).round hJ3 hk3)
          have HD3 := Lib.hid HD.out.pop
          have hF3 := HQ.out W3 HI3.out.keep
          have hc3 := hF3.c1
          obtain ⟨b6, o6, he6, _, hr6⟩ := hF3.rows.arr.one hi
          simp only [Option.some.injEq, Addr.mk.injEq, and_true] at he6
          obtain ⟨rfl, rfl⟩ := he6
          rw [Nat.zero_add] at hr6
          have hlv : (leave E i).length ≤ 16000 := Nat.le_trans (leave_len _ _) hEl
          obtain ⟨ln, hln⟩ : ∃ ln, ln = (leave E i).length := ⟨_, rfl⟩
          obtain ⟨A6, hA6⟩ : ∃ A6, A6 = RA i := ⟨_, rfl⟩
          obtain ⟨c6, hc6⟩ : ∃ c6, c6 = rc i := ⟨_, rfl⟩
          rw [← hln, ← hA6, ← hc6] at hr6
          rw [← hln] at hlv
          have HA6 := Lib.hid hA6
          have HLN := Lib.hid hln
          have HLF := Lib.hid (left_eq (A := some ⟨b5, 0, none⟩) (n := m + 1) (c := c5) HI.out.blk)
          clear hln hA6 hc6 HI hx5 hRd hy hF3 hJ3 hk3 HM2
          gi_wp2
          gi_loopw [5, 66] (fun v a wr => ∃ (q : Nat) (seen' : List Bool) (st : List Int), a = .int .i64 q ∧ q ≤ ln ∧ It X w J gs gs (gs + 1) S (pre ++ [(i : Int)]) seen' st v wr ∧ Dfs E S L (pre ++ [(i : Int)]) st seen' ∧
            (∀ y, y ∈ pre ++ (st0 ++ [(i : Int)]) → y ∈ (pre ++ [(i : Int)]) ++ st) ∧ (∀ e ∈ (leave E i).take q, e.free = true → e.dst ∈ (pre ++ [(i : Int)]) ++ st) ∧ 2 * falses seen' + st.length ≤ 2 * falses seen + m) (fun _ a _ => ln - (intOf a).toNat)
          case atStart => exact ⟨0, seen, st0, rfl, by omega, HI3.out, HD3.out, fun y hy => mem_pop.2 hy, by simp, by rw [HM.out]; omega⟩
          case round =>
            obtain ⟨q, seen', st, rfl, hq, hit, hdf, hall, hfol, hms⟩ := hrel
            obtain ⟨w4, rfl⟩ : ∃ w4 : World, w4 = wr := ⟨_, rfl⟩
            have HI := Lib.hid hit
            have HD4 := Lib.hid hdf
            have HAL := Lib.hid hall
            have HFL := Lib.hid hfol
            have HMS := Lib.hid hms
            have hF4 := HQ.out w4 hit.keep
            clear hit hdf hall hfol hms
            by_cases hlt : q < ln
            · have har := hF4.rows.row i hi
              rw [← HLN.out, ← HA6.out] at har
              obtain ⟨b7, o7, rfl, hbl7, s0, s1, s2, s3, s4, s5, s6⟩ := har.seven hlt
              have hem : (leave E i).getD q noEd ∈ leave E i := by
                have : (leave E i).getD q noEd = (leave E i)[q]'(by rw [← HLN.out]; exact hlt) := by simp [show q < (leave E i).length by rw [← HLN.out]; exact hlt]
                rw [this]; exact List.getElem_mem _
              have htk : (leave E i).take (q + 1) = (leave E i).take q ++ [(leave E i).getD q noEd] := by
                have h8 : q < (leave E i).length := by rw [← HLN.out]; exact hlt
                rw [List.take_succ_eq_append_getElem h8]
                simp [h8]
              obtain ⟨e, he⟩ : ∃ e, e = (leave E i).getD q noEd := ⟨_, rfl⟩
              rw [← he] at s0 s1 s2 s3 s4 s5 s6 hem htk
              have hem2 := List.mem_filter.1 hem
              have hsrc : e.src = (i : Int) := by simpa using hem2.2
              obtain ⟨_, _, hy0, hyS⟩ := HE.out e hem2.1
              have hfol : ∀ st', (∀ y, y ∈ (pre ++ [(i : Int)]) ++ st → y ∈ (pre ++ [(i : Int)]) ++ st') → (e.free = true → e.dst ∈ (pre ++ [(i : Int)]) ++ st') → ∀ e ∈ (leave E i).take (q + 1), e.free = true → e.dst ∈ (pre ++ [(i : Int)]) ++ st' := fun st' h1 h2 e' he' hf' => by
                rw [htk, List.mem_append] at he'
                rcases he' with he' | he'
                · exact h1 _ (HFL.out e' he' hf')
                · obtain rfl : e' = e := by simpa using he'
                  exact h2 hf'
              have hstep : e.free = true → Rch E S L e.dst := fun hf => .step hem2.1 hf (by rw [hsrc]; exact HD4.out.rch _ (by simp))
              have HST := Lib.hid (And.intro hfol hstep)
              have hal4 := HI.out.alloc HJ.out (.cells #[.int .i64 e.src, .int .i64 e.dst, .bool e.free, .int .u64 e.s0, .int .u64 e.s1, .int .u64 e.s2, .int .u64 e.s3] 203)
              have HI5 := Lib.hid hal4
              have hql : (q : Int) < (ln : Int) := by omega
              clear he hem htk hem2 hfol hstep hal4 hsrc har hF4
              obtain ⟨x, y, f, t0, t1, t2, t3⟩ := e
              simp only at s0 s1 s2 s3 s4 s5 s6 hy0 hyS HST HI5
              obtain ⟨j, rfl⟩ := Int.eq_ofNat_of_zero_le hy0
              have hj : j < S := by omega
              have hsl := HD4.out.len
              have hcs := HI5.out.cell (j := j) (by omega)
              have hfz := HI5.out.blk.frozen j
              cases f with
              | false =>
                gi_wp2
                go_roundw
                case rel => exact ⟨q + 1, _, _, by go_num, by omega, HI5.out, HD4.out, HAL.out, HST.out.1 _ (fun y hy => hy) (fun h9 => by cases h9), HMS.out⟩
                case measure => simp [intOf]; omega
              | true =>
                cases hsb : seen'.getD j false with
                | true =>
                  rw [hsb] at hcs
                  have HIN := Lib.hid ((HD4.out.sn j hj).1 hsb)
                  clear hsb
                  gi_wp2
                  go_roundw
                  case rel => exact ⟨q + 1, _, _, by go_num, by omega, HI5.out, HD4.out, HAL.out, HST.out.1 _ (fun y hy => hy) (fun h9 => HIN.out), HMS.out⟩
                  case measure => simp [intOf]; omega
                | false =>
                  rw [hsb] at hcs
                  have HSB := Lib.hid hsb
                  have hstl : st.length ≤ 2000 := Nat.le_trans (dfs_few HE.out HD4.out) hS
                  have hbs : gs < w4.heap.size := HI.out.lt
                  have hI6 := (HI.out.mark HJ.out j).alloc HJ.out (.cells #[.int .i64 x, .int .i64 (j : Int), .bool true, .int .u64 t0, .int .u64 t1, .int .u64 t2, .int .u64 t3] 203)
                  have HI6 := Lib.hid hI6
                  have hcn : ∀ jj u, [Value.int .i64 (j : Int)][jj]? = some u → (((w4.setCell ⟨gs, j, none⟩ (.bool true)).alloc (.cells #[.int .i64 x, .int .i64 (j : Int), .bool true, .int .u64 t0, .int .u64 t1, .int .u64 t2, .int .u64 t3] 203)).alloc (.cells #[.int .i64 (j : Int)] 3)).cell? ((⟨w4.heap.size + 1, 0, none⟩ : Addr).add jj) = some u := by
                    have := cell_one_new ((w4.setCell ⟨gs, j, none⟩ (.bool true)).alloc (.cells #[.int .i64 x, .int .i64 (j : Int), .bool true, .int .u64 t0, .int .u64 t1, .int .u64 t2, .int .u64 t3] 203)) (.int .i64 (j : Int)) 3
                    simpa using this
                  clear hsb hI6
                  gi_wp2_with (first
                    | (gi_at_builtin; (refine wpListIn_append_lies _ rfl _ _ 32 rfl (gs + 1) 3 i3 (.int .i64 0) 1 8 Try.underlying32 hi3 hz3 hsz3 hbt3 rfl (by decide) u5 _ _ rfl (HI6.out.own.alloc _) ⟨w4.heap.size + 1, 0, none⟩ 1 1 [.int .i64 j] rfl rfl hcn (by simp [Value.oneCell']) (by omega) (by unfold maxLen; omega) (by omega) (by simp; omega) ?_; intro g5 c5 w5 hown5 hgrow5 hat5 _; have HA := Lib.hid ((HI6.out.alloc HJ.out _).app HJ.out HXL.out hown5 hgrow5 hat5))))
                  go_roundw
                  case rel => exact ⟨q + 1, _, _, by go_num, by omega, HA.out, HD4.out.push hj (HST.out.2 rfl) HSB.out, fun y hy => by have := HAL.out y hy; rw [← List.append_assoc]; exact List.mem_append_left _ this, HST.out.1 _ (fun y hy => by rw [← List.append_assoc]; exact List.mem_append_left _ hy) (fun _ => by simp), by have := falses_set (j := j) (by omega) HSB.out; have := HMS.out; simp; omega⟩
                  case measure => simp [intOf]; omega
            · obtain rfl : q = ln := by omega
              gi_wp2
              go_roundw
              case rel =>
                refine ⟨_, _, _, HI.out, HD4.out, fun y h1 h2 h3 => HAL.out y (HR.out y h1 h2 h3), fun e he hf hs => ?_⟩
                rcases List.mem_append.1 hs with hs | hs
                · exact HAL.out _ (HFO.out e he hf hs)
                · refine HFL.out e ?_ hf
                  rw [List.take_of_length_le (by rw [← HLN.out]; omega)]
                  exact List.mem_filter.2 ⟨he, by simpa using hs⟩
              case measure =>
                obtain ⟨A9, c9, rfl⟩ := own_slice HI.out.own
                rw [left_eq HI.out.blk]
                have := HMS.out
                rw [HLF.out]
                omega
end Go.Proofs.Ytfjgfabochiflaa
