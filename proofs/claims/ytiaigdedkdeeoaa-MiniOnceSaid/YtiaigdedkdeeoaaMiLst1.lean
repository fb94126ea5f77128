/- mini.Least: plain facts of the search for states. -/
import Derived.Test.YtiaigdedkdeeoaaMiLst0
import Derived.Great.BuildSlice
import Derived.Great.FillDense
namespace Go.Proofs.Ytiaigdedkdeeoaa
open Go.RowKit Go.Maps Go.WideMaps

/-- the automaton that takes nothing -/
def emptyD : Dfa := ⟨fun _ => 0, [[-1]], [false]⟩
/-- what the least of D is -/
def LeastOf (D M : Dfa) : Prop := (¬ Live (autOf D) 0 ∧ M = emptyD) ∨ (Live (autOf D) 0 ∧ ∃ s, BEnd (autOf D) s ∧ M = narD s.wide s.met D.acc)
theorem LeastOf.eq {D M M' : Dfa} (h : LeastOf D M) (k : LeastOf D M') : M = M' := by
  rcases h with ⟨h1, rfl⟩ | ⟨h1, s, h2, rfl⟩
  · rcases k with ⟨_, rfl⟩ | ⟨k1, _⟩
    · rfl
    · exact (h1 k1).elim
  · rcases k with ⟨k1, _⟩ | ⟨_, t, k2, rfl⟩
    · exact (k1 h1).elim
    · rw [h2.eq k2]
section
variable {A : Aut} {q : List Int} {met : List Nat}
theorem BInv.len {s : Bf} (h : BInv A s) : s.met.length ≤ A.n := by
  have hn : s.met.Nodup := by
    rw [List.Nodup, List.pairwise_iff_getElem]
    intro i j hi hj hij he
    have h1 := h.apart i j hi hj (by
      have e1 : s.met.getD i 0 = s.met.getD j 0 := by rw [List.getD_eq_getElem?_getD, List.getD_eq_getElem?_getD, List.getElem?_eq_getElem hi, List.getElem?_eq_getElem hj, he]
      rw [e1]; exact LE.refl A _)
    omega
  have h2 : ∀ x ∈ s.met, x ∈ List.range A.n := fun x hx => by
    obtain ⟨k, hk, rfl⟩ := List.getElem_of_mem hx
    have := h.lt k hk
    rw [List.getD_eq_getElem?_getD, List.getElem?_eq_getElem hk] at this
    exact List.mem_range.2 this
  have h3 := hn.length_le_of_subset h2
  rwa [List.length_range] at h3
theorem idx_plc (hp : Parted A q) {j : Nat} (hj : j < A.n) (hl : Live A j) : ∀ (met : List Nat), (∀ m ∈ met, m < A.n) → plc (met.map (fun i => q.getD i 0)) (q.getD j 0) = idxL A met j
  | [], _ => rfl
  | m :: met, hm => by
    have ih := idx_plc hp hj hl met (fun x hx => hm x (List.mem_cons_of_mem _ hx))
    have h1 := hp.iff j m hj (hm m List.mem_cons_self) hl
    unfold plc idxL at ih ⊢
    rw [List.map_cons, List.idxOf_cons, List.findIdx_cons, ih]
    by_cases e : LE A A j m
    · have e2 : (q.getD m 0 == q.getD j 0) = true := by rw [h1.2 e]; simp
      rw [e2]; simp [e]
    · have e2 : (q.getD m 0 == q.getD j 0) = false := by
        rw [beq_eq_false_iff_ne]
        exact fun h9 => e (h1.1 h9.symm)
      rw [e2]; simp [e]
theorem plc_mem {l : List Int} {x : Int} {k : Nat} (h : plc l x = k) : decide (x ∈ l) = decide (k < l.length) := by
  refine decide_eq_decide.2 ?_
  rw [← h]; unfold plc
  exact List.idxOf_lt_length_iff.symm
theorem bmem {s : Bf} (h : BInv A s) : ∀ m ∈ s.met, m < A.n := fun x hx => by
  obtain ⟨k, hk, rfl⟩ := List.getElem_of_mem hx
  have := h.lt k hk
  rwa [List.getD_eq_getElem?_getD, List.getElem?_eq_getElem hk] at this
theorem rowV_set {row : List Int} {b : Nat} (h : row.length = b) (hb : b < 256) (x : Int) : (rowV row).set b (.int .i64 x) = rowV (row ++ [x]) := by
  apply List.ext_getElem?
  intro j
  rw [List.getElem?_set]
  by_cases e : b = j
  · subst e
    rw [if_pos rfl, if_pos (by rw [rowV_len]; exact hb), rowV_get _ hb, ← h, getD_app2]
  · rw [if_neg e]
    by_cases hj : j < 256
    · rw [rowV_get _ hj, rowV_get _ hj]
      by_cases h2 : j < row.length
      · rw [getD_app1 h2]
      · rw [List.getD_eq_getElem?_getD, List.getElem?_eq_none (by omega), List.getD_eq_getElem?_getD, List.getElem?_eq_none (by rw [List.length_append, List.length_singleton]; omega)]
    · rw [List.getElem?_eq_none (by rw [rowV_len]; omega), List.getElem?_eq_none (by rw [rowV_len]; omega)]
theorem rowV_set2 {row : List Int} {b : Nat} (h : row.length = b) (hb : b < 256) (y x : Int) : (rowV (row ++ [y])).set b (.int .i64 x) = rowV (row ++ [x]) := by
  rw [← rowV_set h hb y, List.set_set, rowV_set h hb x]
theorem zs48_row : zs48.toList = rowV [] := by
  apply List.ext_getElem?
  intro j
  have h0 : zs48.toList = List.replicate 256 (Value.int .i64 0) := rfl
  rw [h0, List.getElem?_replicate]
  by_cases hj : j < 256
  · rw [if_pos hj, rowV_get _ hj]; simp
  · rw [if_neg hj, List.getElem?_eq_none (by rw [rowV_len]; omega)]
theorem rowV_el (r : List Int) : cellsOfEl 256 cellW r = rowV r := rfl
theorem cellB_nar {met : List Nat} {i b : Nat} {x : Int} (h : CellB A met i b x) (hm : met.length ≤ 400) : Nar x := by
  rcases h with ⟨_, rfl⟩ | ⟨_, k, rfl, hk, _⟩
  · exact ⟨by omega, by omega⟩
  · exact ⟨by omega, by omega⟩
theorem wideOk_of {s : Bf} (h : BInv A s) (hn : A.n ≤ 400) : WideOk s.wide := fun k b => by
  have hm : s.met.length ≤ 400 := Nat.le_trans h.len hn
  by_cases hk : k < s.wide.length
  · by_cases hb : b < 256
    · exact cellB_nar ((h.rows k hk).2 b hb) hm
    · have h1 := (h.rows k hk).1
      rw [List.getD_eq_getElem?_getD (l := s.wide.getD k []), List.getElem?_eq_none (by omega)]
      exact ⟨by simp, by simp⟩
  · rw [List.getD_eq_getElem?_getD (l := s.wide), List.getElem?_eq_none (by omega)]
    exact ⟨by simp, by simp⟩
theorem wide_arr {W : World} {base c : Nat} {V : Option Addr} {wide : List (List Int)} (h : W.ownsRow base 48 256 (.slice V wide.length c) wide.length (flat 256 cellW [] wide)) : Arr W W.heap.size 256 V wide.length (WideC wide) := fun hn => by
  obtain ⟨g, cap, hv, _, hlt⟩ := h.form hn
  injection hv with hv _ hc
  subst hv
  refine ⟨g, 0, rfl, hlt, fun k j hk hj => ?_⟩
  have := h.cellAt (g := g) (k * 256 + j) (flat_idx hk hj)
  rw [Nat.zero_add, this, flat_get hk hj]
  rfl
theorem nats_arr {W : World} {base c n : Nat} {V : Option Addr} {met : List Nat} (hl : met.length = n) (h : W.ownsRow base 3 1 (.slice V n c) n (natsV met)) : Arr W W.heap.size 1 V n (NatC met) := fun hn => by
  obtain ⟨b, o, e, hlt, hcell⟩ := Arr.of_own h hn
  refine ⟨b, o, e, hlt, fun i j hi hj => ?_⟩
  rw [hcell i j hi hj]
  simp [NatC, natsV, show i < met.length by omega]
/-- slices of slices, as a caller reads them -/
theorem RowsW.inn {W : World} {base gb n : Nat} {V : Nat → Value} {ls : List (List Int)} (h : RowsW W base gb n V ls) (hn : n ≤ 400) {u : Nat} (hu : u ≤ 256) (hw : ∀ i, i < n → (ls.getD i []).length = u) : ∃ RA rc, RowsIn W (some ⟨gb, 0, none⟩) n ls RA rc := by
  have hc : ∀ j, ∃ p : Option Addr × Nat, j < n → V j = .slice p.1 (ls.getD j []).length p.2 := fun j => by
    by_cases hj : j < n
    · obtain ⟨A, c, e⟩ := own_sl (h.own j hj)
      exact ⟨(A, c), fun _ => e⟩
    · exact ⟨(none, 0), fun h9 => absurd h9 hj⟩
  refine ⟨fun j => (Classical.choose (hc j)).1, fun j => (Classical.choose (hc j)).2, h.len, by omega, fun hp => ⟨gb, 0, rfl, h.blk.lt, fun k j hk hj => ?_⟩, fun k hk => ?_, fun k hk => by rw [hw k hk]; omega⟩
  · obtain rfl : j = 0 := by omega
    rw [show 0 + (k * 1 + 0) = k by omega, h.cell hk, Classical.choose_spec (hc k) hk]
    rfl
  · exact (h.arr hk (Classical.choose_spec (hc k) hk)).2
end
theorem bools_arr {W : World} {g n : Nat} {t : TypeId} {lv : List Bool} (h : Blk W g t (lv.map Value.bool)) (hl : lv.length = n) : Arr W W.heap.size 1 (some ⟨g, 0, none⟩) n (BoolC lv) := fun _ => ⟨g, 0, rfl, h.lt, fun k j hk hj => by
  obtain rfl : j = 0 := by omega
  rw [show 0 + (k * 1 + 0) = k by omega, bools_cell h (by omega)]; rfl⟩
/-- an automaton as it is built: slices into the zero value -/
def e26 (v u : Value) : Array Value := (zs26.setIfInBounds 256 v).setIfInBounds 257 u
theorem size26 : zs26.size = 258 := by
  have := congrArg List.length zs26_cells
  rw [dCells_len] at this
  simpa using this
theorem e26_cells (v u : Value) : (e26 v u).toList = dCells [] v u := by
  unfold e26
  rw [Array.toList_setIfInBounds, Array.toList_setIfInBounds, zs26_cells, dCells_nx, dCells_ac]
theorem e26_size (v u : Value) : (e26 v u).size = 258 := by
  rw [← Array.length_toList, e26_cells, dCells_len]
theorem e26_one (A A' : Option Addr) (n m c c' : Nat) : (e26 (.slice A n c) (.slice A' m c')).all (·.oneCell') = true := by
  have h := dCells_one [] A A' n m c c'
  rw [← e26_cells] at h
  simpa using h
/-- an automaton that stands in a world, and in any other that differs in elder blocks alone -/
def DfaNew (B w : World) (ds : Array Value) (A1 A2 : Option Addr) (n1 n2 c1 c2 : Nat) (D : Dfa) (RA : Nat → Option Addr) (rc : Nat → Nat) : Prop := ∀ w', But (fun k => k < B.heap.size) w w' → DfaIn w' ds A1 A2 n1 n2 c1 c2 D RA rc
theorem DfaNew.here {B w : World} {ds : Array Value} {A1 A2 : Option Addr} {n1 n2 c1 c2 : Nat} {D : Dfa} {RA : Nat → Option Addr} {rc : Nat → Nat} (h : DfaNew B w ds A1 A2 n1 n2 c1 c2 D RA rc) : DfaIn w ds A1 A2 n1 n2 c1 c2 D RA rc := h w (But.refl _ _)
theorem DfaNew.but {B B' w w' : World} {ds : Array Value} {A1 A2 : Option Addr} {n1 n2 c1 c2 : Nat} {D : Dfa} {RA : Nat → Option Addr} {rc : Nat → Nat} (h : DfaNew B w ds A1 A2 n1 n2 c1 c2 D RA rc) (hs : B'.heap.size ≤ B.heap.size) {S : Nat → Prop} (hb : But S w w') (hS : ∀ k, S k → k < B.heap.size) : DfaNew B' w' ds A1 A2 n1 n2 c1 c2 D RA rc :=
  fun _ h2 => h _ ((hb.mono (S' := fun k => k < B.heap.size) (fun k _ hk => hS k hk)).trans h2 (fun k _ hk => by omega))
/-- the automaton that takes nothing, in memory -/
theorem empty_in (W : World) : DfaNew W (((W.alloc (.cells #[.int .i64 (-1)] 3)).alloc (.cells #[.slice (some ⟨W.heap.size, 0, none⟩) 1 1] 34)).alloc (.cells #[.bool false] 4))
      (e26 (.slice (some ⟨W.heap.size + 1, 0, none⟩) 1 1) (.slice (some ⟨W.heap.size + 1 + 1, 0, none⟩) 1 1)) (some ⟨W.heap.size + 1, 0, none⟩) (some ⟨W.heap.size + 1 + 1, 0, none⟩) 1 1 1 1 emptyD (fun _ => some ⟨W.heap.size, 0, none⟩) (fun _ => 1) := fun w' hb => by
  have b1 := blk_alloc W 3 #[.int .i64 (-1)]
  have b2 := blk_alloc (W.alloc (.cells #[.int .i64 (-1)] 3)) 34 #[.slice (some ⟨W.heap.size, 0, none⟩) 1 1]
  have b3 := blk_alloc ((W.alloc (.cells #[.int .i64 (-1)] 3)).alloc (.cells #[.slice (some ⟨W.heap.size, 0, none⟩) 1 1] 34)) 4 #[.bool false]
  rw [World.size_alloc, World.size_alloc] at b3
  rw [World.size_alloc] at b2
  have c1 := hb.blk ((b1.alloc (.cells #[.slice (some ⟨W.heap.size, 0, none⟩) 1 1] 34)).alloc (.cells #[.bool false] 4)) (by omega)
  have c2 := hb.blk (b2.alloc (.cells #[.bool false] 4)) (by omega)
  have c3 := hb.blk b3 (by omega)
  have hget : ∀ k, (e26 (.slice (some ⟨W.heap.size + 1, 0, none⟩) 1 1) (.slice (some ⟨W.heap.size + 1 + 1, 0, none⟩) 1 1))[k]? = (dCells [] (.slice (some ⟨W.heap.size + 1, 0, none⟩) 1 1) (.slice (some ⟨W.heap.size + 1 + 1, 0, none⟩) 1 1))[k]? := fun k => by rw [← e26_cells, Array.getElem?_toList]
  refine ⟨⟨e26_size _ _, fun b hb => ?_, ?_, ?_, fun b _ => ?_⟩, ⟨rfl, by omega, fun _ => ⟨_, 0, rfl, c2.lt, fun k j hk hj => ?_⟩, fun k hk hp => ⟨_, 0, rfl, c1.lt, fun i j hi hj => ?_⟩, fun k hk => ?_⟩, rfl, by omega, fun _ => ⟨_, 0, rfl, c3.lt, fun k j hk hj => ?_⟩⟩
  · rw [hget, dCells_get _ _ _ hb]; rfl
  · rw [hget, dCells_256]
  · rw [hget, dCells_257]
  · show (0 : Nat) < 256; omega
  · obtain rfl : k = 0 := by omega
    obtain rfl : j = 0 := by omega
    rw [c2.cell]; rfl
  · obtain rfl : k = 0 := by omega
    have hi : i < 1 := hi
    obtain rfl : i = 0 := by omega
    obtain rfl : j = 0 := by omega
    rw [c1.cell]; rfl
  · obtain rfl : k = 0 := by omega
    show 1 ≤ _; omega
  · obtain rfl : k = 0 := by omega
    obtain rfl : j = 0 := by omega
    rw [c3.cell]; rfl
theorem LstW.blk {B W W1 W' : World} {gm m : Nat} {D : DataW Unit} {q : List Int} {va vw : Value} {met : List Nat} {wide : List (List Int)} (h : LstW B W gm m D q va vw met wide) {g : Nat} {cs : List Value} (hb : Blk W g 48 cs) (hg1 : W.grownBy W1 (some gm)) {o : Obj} (hg2 : (W1.alloc o).grownBy W' va.ownBlock) : Blk W' g 48 cs :=
  (But.of_grown hg2).blk (((But.of_grown hg1).blk hb (fun e => by injection e with e; exact map_blk_ne h.nm hb e)).alloc o) (fun e => blk_own_ne hb h.all (by decide) e)
theorem info48b : (Try.prog.info? 48).map (fun i => (i.zero, i.size, i.bytes)) = some (some (.agg zs48), 256, 2048) := by kernel_rfl
theorem zs48_size : zs48.size = 256 := by unfold zs48; rw [List.size_toArray, List.length_replicate]
theorem fill_one (z rr : Array Value) (h : rr.size = 256) (hz : z.size = 256) : Instr.fill (fun i => some (i * 256, 256)) z [(0, .agg rr)] = some rr := by
  obtain ⟨r, hr, hsz, hk⟩ := Great.fill_dense (s := 256) (by decide) [.agg rr] 0 z (fun v hv => by simp at hv; rw [hv]; exact h) (by rw [hz]; simp)
  have e : r = rr := by
    apply Array.ext_getElem?
    intro k
    rw [hk k]
    by_cases h9 : k < 256
    · rw [if_pos ⟨by omega, by simpa using h9⟩, show k / 256 - 0 = 0 by omega, show k % 256 = k by omega]; rfl
    · rw [if_neg (fun h8 => h9 (by simpa using h8.2)), Array.getElem?_eq_none (by omega), Array.getElem?_eq_none (by omega)]
  rw [e] at hr; exact hr
/-- '[][256]int{row}' -/
theorem wpList_build47 {ops : Array Oper} {rest : List Oper} {o : Oper} {a : Act} {w : World} {Q : Exit → Act → World → Prop} (hg : o.guard = none) (x : Operand) (ho : o.op = .buildSlice 47 1 #[(0, x)]) (rr : Array Value) (hx : a.eval x = .agg rr) (hs : rr.size = 256)
    (h : wpList Try.prog ops Q rest (a.put o.dst (.slice (some ⟨w.heap.size, 0, none⟩) 1 1)) (w.alloc (.cells rr 48))) : wpList Try.prog ops Q (o :: rest) a w := by
  obtain ⟨i, hi, hz, h1, h2⟩ := info_parts info48b
  refine wpList_buildSlice hg 47 48 1 _ ho rr i (.agg zs48) Try.underlying47 hi hz (by rw [h1]; decide) (by rw [h1]; decide) ?_ h
  rw [h1]
  simp only [List.map_toArray, List.map_cons, List.map_nil, hx]
  exact fill_one _ rr hs (by simp)
theorem cells_one {ds : Array Value} {A1 A2 : Option Addr} {n1 n2 c1 c2 : Nat} {cls : Nat → Nat} (h : Cells ds A1 A2 n1 n2 c1 c2 cls) : ds.all (·.oneCell') = true := by
  rw [Array.all_eq_true]
  intro i hi
  have hi : i < 258 := by have := h.size; omega
  by_cases e : i < 256
  · have := h.cl i e
    rw [Array.getElem?_eq_some_iff] at this
    obtain ⟨_, e2⟩ := this
    rw [e2]; rfl
  · by_cases e3 : i = 256
    · subst e3
      have := h.nx
      rw [Array.getElem?_eq_some_iff] at this
      obtain ⟨_, e2⟩ := this
      rw [e2]; rfl
    · obtain rfl : i = 257 := by omega
      have := h.ac
      rw [Array.getElem?_eq_some_iff] at this
      obtain ⟨_, e2⟩ := this
      rw [e2]; rfl
/-- a map literal's entry -/
theorem wpList_insert_own {P : Program} (w : World) {ops : Array Oper} {rest : List Oper} {o : Oper} {a : Act} {Q : Exit → Act → World → Prop}
    (hg : o.guard = none) (m x v : Operand) (t : TypeId) (hop : o.op = Op.insert t m x v)
    (k e : TypeId) (K : Keyed P k) (ht : P.underlying t = some (.map k e)) (R : Value → Option (DataW Unit × List MemPlace)) (b n : Nat) (D : DataW Unit)
    (hm : a.eval m = .map (some b)) (hown : w.ownsMap P k R b n D) (hn : n < maxLen) (key val : Value) (kl : Lit) (hx : a.eval x = key) (hv : a.eval v = val) (hkey : keyOf P k key = some kl)
    (d : DataW Unit) (ps : List MemPlace) (hval : R val = some (d, ps))
    (hK : ∀ w', w'.ownsMap P k R b (n + 1) (D.put kl d) → w.grownBy w' (some b) → wpList P ops Q rest (a.put o.dst undef) w') :
    wpList P ops Q (o :: rest) a w := by
  refine wpList_plain hg fun K' hK' => ?_
  obtain ⟨w', hrun, r1, r2⟩ := hown.update K ht hn hkey hval
  unfold Oper.wp
  simp [execOp, hop, hm, hx, hv, hrun, Result.andThen]
  exact hK' _ _ (hK w' r1 r2)
/-- 'v, ok := m[k]' of a map from numbers to places -/
theorem wpList_lookup_num (w : World) {ops : Array Oper} {rest : List Oper} {o : Oper} {a : Act} {Q : Exit → Act → World → Prop}
    (hgd : o.guard = none) (m x : Operand) (hop : o.op = Op.lookup 46 m x true) (g n : Nat) (D : DataW Unit) (tx : List Int) (hm : a.eval m = .map (some g))
    (hown : w.ownsMap Try.prog 3 (plainElem Try.prog 3) g n D) (hidx : IdxD intK D tx) (y : Int) (hy : I64 y) (hx : a.eval x = .int .i64 y)
    (iv : Int) (ok : Bool) (hiv : placeI tx y = iv) (hok : decide (y ∈ tx) = ok)
    (h : wpList Try.prog ops Q rest (a.put o.dst (.tuple #[.int .i64 iv, .bool ok])) w) :
    wpList Try.prog ops Q (o :: rest) a w := by
  refine wpList_plain hgd fun K' hK' => ?_
  have hrun : (Instr.lookup 46 (.map (some g)) (.int .i64 y) true).run Try.prog w = .ok (.tuple #[.int .i64 iv, .bool ok]) w := by
    rw [idx_lookup (int_keyed Try.underlying3) Try.underlying46 hown hidx y hy (keyOf_int3 y hy), hiv, ← hok]
  unfold Oper.wp
  simp [execOp, hop, hm, hx, hrun, Result.andThen]
  exact hK' _ _ h
end Go.Proofs.Ytiaigdedkdeeoaa
