/- MMiLst1, MMiLst, MLike of this seat, in one text. -/
import Derived.Test.YtfjhcoeehjephaaMMiLst0Me
import Derived.Great.BuildSlice
import Derived.Great.FillDense
/- mini.Least: plain facts of the search for states. -/
namespace Go.Proofs.Ytfjhcoeehjephaa.M9
open Go.RowKit Go.Maps Go.WideMaps

/-- the automaton that takes nothing -/
def emptyD : Dfa := ⟨fun _ => 0, [[-1]], [false]⟩
/-- what the least of D is -/
def LeastOf (D M : Dfa) : Prop := (¬ Live (autOf D) 0 ∧ M = emptyD) ∨ (Live (autOf D) 0 ∧ ∃ s, BEnd (autOf D) s ∧ M = narD s.wide s.met D.acc)
theorem LeastOf.eq {D M M' : Dfa} (h : LeastOf D M) (k : LeastOf D M') : M = M' := by
  rcases h with ⟨h1, rfl⟩ | ⟨h1, s, h2, rfl⟩
  · rcases k with ⟨_, rfl⟩ | ⟨k1, _⟩
    · rfl
    · exact (h1 k1).elim
  · rcases k with ⟨k1, _⟩ | ⟨_, t, k2, rfl⟩
    · exact (k1 h1).elim
    · rw [h2.eq k2]
section
variable {A : Aut} {q : List Int} {met : List Nat}
theorem BInv.len {s : Bf} (h : BInv A s) : s.met.length ≤ A.n := by
  have hn : s.met.Nodup := by
    rw [List.Nodup, List.pairwise_iff_getElem]
    intro i j hi hj hij he
    have h1 := h.apart i j hi hj (by
      have e1 : s.met.getD i 0 = s.met.getD j 0 := by rw [List.getD_eq_getElem?_getD, List.getD_eq_getElem?_getD, List.getElem?_eq_getElem hi, List.getElem?_eq_getElem hj, he]
      rw [e1]; exact LE.refl A _)
    omega
  have h2 : ∀ x ∈ s.met, x ∈ List.range A.n := fun x hx => by
    obtain ⟨k, hk, rfl⟩ := List.getElem_of_mem hx
    have := h.lt k hk
    rw [List.getD_eq_getElem?_getD, List.getElem?_eq_getElem hk] at this
    exact List.mem_range.2 this
  have h3 := hn.length_le_of_subset h2
  rwa [List.length_range] at h3
theorem idx_plc (hp : Parted A q) {j : Nat} (hj : j < A.n) (hl : Live A j) : ∀ (met : List Nat), (∀ m ∈ met, m < A.n) → plc (met.map (fun i => q.getD i 0)) (q.getD j 0) = idxL A met j
  | [], _ => rfl
  | m :: met, hm => by
    have ih := idx_plc hp hj hl met (fun x hx => hm x (List.mem_cons_of_mem _ hx))
    have h1 := hp.iff j m hj (hm m List.mem_cons_self) hl
    unfold plc idxL at ih ⊢
    rw [List.map_cons, List.idxOf_cons, List.findIdx_cons, ih]
    by_cases e : LE A A j m
    · have e2 : (q.getD m 0 == q.getD j 0) = true := by rw [h1.2 e]; simp
      rw [e2]; simp [e]
    · have e2 : (q.getD m 0 == q.getD j 0) = false := by
        rw [beq_eq_false_iff_ne]
        exact fun h9 => e (h1.1 h9.symm)
      rw [e2]; simp [e]
theorem plc_mem {l : List Int} {x : Int} {k : Nat} (h : plc l x = k) : decide (x ∈ l) = decide (k < l.length) := by
  refine decide_eq_decide.2 ?_
  rw [← h]; unfold plc
  exact List.idxOf_lt_length_iff.symm
theorem bmem {s : Bf} (h : BInv A s) : ∀ m ∈ s.met, m < A.n := fun x hx => by
  obtain ⟨k, hk, rfl⟩ := List.getElem_of_mem hx
  have := h.lt k hk
  rwa [List.getD_eq_getElem?_getD, List.getElem?_eq_getElem hk] at this
theorem rowV_set {row : List Int} {b : Nat} (h : row.length = b) (hb : b < 256) (x : Int) : (rowV row).set b (.int .i64 x) = rowV (row ++ [x]) := by
  apply List.ext_getElem?
  intro j
  rw [List.getElem?_set]
  by_cases e : b = j
  · subst e
    rw [if_pos rfl, if_pos (by rw [rowV_len]; exact hb), rowV_get _ hb, ← h, getD_app2]
  · rw [if_neg e]
    by_cases hj : j < 256
    · rw [rowV_get _ hj, rowV_get _ hj]
      by_cases h2 : j < row.length
      · rw [getD_app1 h2]
      · rw [List.getD_eq_getElem?_getD, List.getElem?_eq_none (by omega), List.getD_eq_getElem?_getD, List.getElem?_eq_none (by rw [List.length_append, List.length_singleton]; omega)]
    · rw [List.getElem?_eq_none (by rw [rowV_len]; omega), List.getElem?_eq_none (by rw [rowV_len]; omega)]
theorem rowV_set2 {row : List Int} {b : Nat} (h : row.length = b) (hb : b < 256) (y x : Int) : (rowV (row ++ [y])).set b (.int .i64 x) = rowV (row ++ [x]) := by
  rw [← rowV_set h hb y, List.set_set, rowV_set h hb x]
theorem zs48_row : zs48.toList = rowV [] := by
  apply List.ext_getElem?
  intro j
  have h0 : zs48.toList = List.replicate 256 (Value.int .i64 0) := rfl
  rw [h0, List.getElem?_replicate]
  by_cases hj : j < 256
  · rw [if_pos hj, rowV_get _ hj]; simp
  · rw [if_neg hj, List.getElem?_eq_none (by rw [rowV_len]; omega)]
theorem rowV_el (r : List Int) : cellsOfEl 256 cellW r = rowV r := rfl
theorem cellB_nar {met : List Nat} {i b : Nat} {x : Int} (h : CellB A met i b x) (hm : met.length ≤ 400) : Nar x := by
  rcases h with ⟨_, rfl⟩ | ⟨_, k, rfl, hk, _⟩
  · exact ⟨by omega, by omega⟩
  · exact ⟨by omega, by omega⟩
theorem wideOk_of {s : Bf} (h : BInv A s) (hn : A.n ≤ 400) : WideOk s.wide := fun k b => by
  have hm : s.met.length ≤ 400 := Nat.le_trans h.len hn
  by_cases hk : k < s.wide.length
  · by_cases hb : b < 256
    · exact cellB_nar ((h.rows k hk).2 b hb) hm
    · have h1 := (h.rows k hk).1
      rw [List.getD_eq_getElem?_getD (l := s.wide.getD k []), List.getElem?_eq_none (by omega)]
      exact ⟨by simp, by simp⟩
  · rw [List.getD_eq_getElem?_getD (l := s.wide), List.getElem?_eq_none (by omega)]
    exact ⟨by simp, by simp⟩
theorem wide_arr {W : World} {base c : Nat} {V : Option Addr} {wide : List (List Int)} (h : W.ownsRow base 104 256 (.slice V wide.length c) wide.length (flat 256 cellW [] wide)) : Arr W W.heap.size 256 V wide.length (WideC wide) := fun hn => by
  obtain ⟨g, cap, hv, _, hlt⟩ := h.form hn
  injection hv with hv _ hc
  subst hv
  refine ⟨g, 0, rfl, hlt, fun k j hk hj => ?_⟩
  have := h.cellAt (g := g) (k * 256 + j) (flat_idx hk hj)
  rw [Nat.zero_add, this, flat_get hk hj]
  rfl
theorem nats_arr {W : World} {base c n : Nat} {V : Option Addr} {met : List Nat} (hl : met.length = n) (h : W.ownsRow base 3 1 (.slice V n c) n (natsV met)) : Arr W W.heap.size 1 V n (NatC met) := fun hn => by
  obtain ⟨b, o, e, hlt, hcell⟩ := Arr.of_own h hn
  refine ⟨b, o, e, hlt, fun i j hi hj => ?_⟩
  rw [hcell i j hi hj]
  simp [NatC, natsV, show i < met.length by omega]
/-- slices of slices, as a caller reads them -/
theorem RowsW.inn {W : World} {base gb n : Nat} {V : Nat → Value} {ls : List (List Int)} (h : RowsW W base gb n V ls) (hn : n ≤ 400) {u : Nat} (hu : u ≤ 256) (hw : ∀ i, i < n → (ls.getD i []).length = u) : ∃ RA rc, RowsIn W (some ⟨gb, 0, none⟩) n ls RA rc := by
  have hc : ∀ j, ∃ p : Option Addr × Nat, j < n → V j = .slice p.1 (ls.getD j []).length p.2 := fun j => by
    by_cases hj : j < n
    · obtain ⟨A, c, e⟩ := own_sl (h.own j hj)
      exact ⟨(A, c), fun _ => e⟩
    · exact ⟨(none, 0), fun h9 => absurd h9 hj⟩
  refine ⟨fun j => (Classical.choose (hc j)).1, fun j => (Classical.choose (hc j)).2, h.len, by omega, fun hp => ⟨gb, 0, rfl, h.blk.lt, fun k j hk hj => ?_⟩, fun k hk => ?_, fun k hk => by rw [hw k hk]; omega⟩
  · obtain rfl : j = 0 := by omega
    rw [show 0 + (k * 1 + 0) = k by omega, h.cell hk, Classical.choose_spec (hc k) hk]
    rfl
  · exact (h.arr hk (Classical.choose_spec (hc k) hk)).2
end
theorem bools_arr {W : World} {g n : Nat} {t : TypeId} {lv : List Bool} (h : Blk W g t (lv.map Value.bool)) (hl : lv.length = n) : Arr W W.heap.size 1 (some ⟨g, 0, none⟩) n (BoolC lv) := fun _ => ⟨g, 0, rfl, h.lt, fun k j hk hj => by
  obtain rfl : j = 0 := by omega
  rw [show 0 + (k * 1 + 0) = k by omega, bools_cell h (by omega)]; rfl⟩
/-- an automaton as it is built: slices into the zero value -/
def e26 (v u : Value) : Array Value := (zs26.setIfInBounds 256 v).setIfInBounds 257 u
theorem size26 : zs26.size = 258 := by
  have := congrArg List.length zs26_cells
  rw [dCells_len] at this
  simpa using this
theorem e26_cells (v u : Value) : (e26 v u).toList = dCells [] v u := by
  unfold e26
  rw [Array.toList_setIfInBounds, Array.toList_setIfInBounds, zs26_cells, dCells_nx, dCells_ac]
theorem e26_size (v u : Value) : (e26 v u).size = 258 := by
  rw [← Array.length_toList, e26_cells, dCells_len]
theorem e26_one (A A' : Option Addr) (n m c c' : Nat) : (e26 (.slice A n c) (.slice A' m c')).all (·.oneCell') = true := by
  have h := dCells_one [] A A' n m c c'
  rw [← e26_cells] at h
  simpa using h
/-- an automaton that stands in a world, and in any other that differs in elder blocks alone -/
def DfaNew (B w : World) (ds : Array Value) (A1 A2 : Option Addr) (n1 n2 c1 c2 : Nat) (D : Dfa) (RA : Nat → Option Addr) (rc : Nat → Nat) : Prop := ∀ w', But (fun k => k < B.heap.size) w w' → DfaIn w' ds A1 A2 n1 n2 c1 c2 D RA rc
theorem DfaNew.here {B w : World} {ds : Array Value} {A1 A2 : Option Addr} {n1 n2 c1 c2 : Nat} {D : Dfa} {RA : Nat → Option Addr} {rc : Nat → Nat} (h : DfaNew B w ds A1 A2 n1 n2 c1 c2 D RA rc) : DfaIn w ds A1 A2 n1 n2 c1 c2 D RA rc := h w (But.refl _ _)
theorem DfaNew.but {B B' w w' : World} {ds : Array Value} {A1 A2 : Option Addr} {n1 n2 c1 c2 : Nat} {D : Dfa} {RA : Nat → Option Addr} {rc : Nat → Nat} (h : DfaNew B w ds A1 A2 n1 n2 c1 c2 D RA rc) (hs : B'.heap.size ≤ B.heap.size) {S : Nat → Prop} (hb : But S w w') (hS : ∀ k, S k → k < B.heap.size) : DfaNew B' w' ds A1 A2 n1 n2 c1 c2 D RA rc :=
  fun _ h2 => h _ ((hb.mono (S' := fun k => k < B.heap.size) (fun k _ hk => hS k hk)).trans h2 (fun k _ hk => by omega))
/-- the automaton that takes nothing, in memory -/
theorem empty_in (W : World) : DfaNew W (((W.alloc (.cells #[.int .i64 (-1)] 3)).alloc (.cells #[.slice (some ⟨W.heap.size, 0, none⟩) 1 1] 36)).alloc (.cells #[.bool false] 4))
      (e26 (.slice (some ⟨W.heap.size + 1, 0, none⟩) 1 1) (.slice (some ⟨W.heap.size + 1 + 1, 0, none⟩) 1 1)) (some ⟨W.heap.size + 1, 0, none⟩) (some ⟨W.heap.size + 1 + 1, 0, none⟩) 1 1 1 1 emptyD (fun _ => some ⟨W.heap.size, 0, none⟩) (fun _ => 1) := fun w' hb => by
  have b1 := blk_alloc W 3 #[.int .i64 (-1)]
  have b2 := blk_alloc (W.alloc (.cells #[.int .i64 (-1)] 3)) 36 #[.slice (some ⟨W.heap.size, 0, none⟩) 1 1]
  have b3 := blk_alloc ((W.alloc (.cells #[.int .i64 (-1)] 3)).alloc (.cells #[.slice (some ⟨W.heap.size, 0, none⟩) 1 1] 36)) 4 #[.bool false]
  rw [World.size_alloc, World.size_alloc] at b3
  rw [World.size_alloc] at b2
  have c1 := hb.blk ((b1.alloc (.cells #[.slice (some ⟨W.heap.size, 0, none⟩) 1 1] 36)).alloc (.cells #[.bool false] 4)) (by omega)
  have c2 := hb.blk (b2.alloc (.cells #[.bool false] 4)) (by omega)
  have c3 := hb.blk b3 (by omega)
  have hget : ∀ k, (e26 (.slice (some ⟨W.heap.size + 1, 0, none⟩) 1 1) (.slice (some ⟨W.heap.size + 1 + 1, 0, none⟩) 1 1))[k]? = (dCells [] (.slice (some ⟨W.heap.size + 1, 0, none⟩) 1 1) (.slice (some ⟨W.heap.size + 1 + 1, 0, none⟩) 1 1))[k]? := fun k => by rw [← e26_cells, Array.getElem?_toList]
  refine ⟨⟨e26_size _ _, fun b hb => ?_, ?_, ?_, fun b _ => ?_⟩, ⟨rfl, by omega, fun _ => ⟨_, 0, rfl, c2.lt, fun k j hk hj => ?_⟩, fun k hk hp => ⟨_, 0, rfl, c1.lt, fun i j hi hj => ?_⟩, fun k hk => ?_⟩, rfl, by omega, fun _ => ⟨_, 0, rfl, c3.lt, fun k j hk hj => ?_⟩⟩
  · rw [hget, dCells_get _ _ _ hb]; rfl
  · rw [hget, dCells_256]
  · rw [hget, dCells_257]
  · show (0 : Nat) < 256; omega
  · obtain rfl : k = 0 := by omega
    obtain rfl : j = 0 := by omega
    rw [c2.cell]; rfl
  · obtain rfl : k = 0 := by omega
    have hi : i < 1 := hi
    obtain rfl : i = 0 := by omega
    obtain rfl : j = 0 := by omega
    rw [c1.cell]; rfl
  · obtain rfl : k = 0 := by omega
    show 1 ≤ _; omega
  · obtain rfl : k = 0 := by omega
    obtain rfl : j = 0 := by omega
    rw [c3.cell]; rfl
theorem LstW.blk {B W W1 W' : World} {gm m : Nat} {D : DataW Unit} {q : List Int} {va vw : Value} {met : List Nat} {wide : List (List Int)} (h : LstW B W gm m D q va vw met wide) {g : Nat} {cs : List Value} (hb : Blk W g 104 cs) (hg1 : W.grownBy W1 (some gm)) {o : Obj} (hg2 : (W1.alloc o).grownBy W' va.ownBlock) : Blk W' g 104 cs :=
  (But.of_grown hg2).blk (((But.of_grown hg1).blk hb (fun e => by injection e with e; exact map_blk_ne h.nm hb e)).alloc o) (fun e => blk_own_ne hb h.all (by decide) e)
theorem info48b : (Try.prog.info? 104).map (fun i => (i.zero, i.size, i.bytes)) = some (some (.agg zs48), 256, 2048) := by kernel_rfl
theorem zs48_size : zs48.size = 256 := by unfold zs48; rw [List.size_toArray, List.length_replicate]
theorem fill_one (z rr : Array Value) (h : rr.size = 256) (hz : z.size = 256) : Instr.fill (fun i => some (i * 256, 256)) z [(0, .agg rr)] = some rr := by
  obtain ⟨r, hr, hsz, hk⟩ := Great.fill_dense (s := 256) (by decide) [.agg rr] 0 z (fun v hv => by simp at hv; rw [hv]; exact h) (by rw [hz]; simp)
  have e : r = rr := by
    apply Array.ext_getElem?
    intro k
    rw [hk k]
    by_cases h9 : k < 256
    · rw [if_pos ⟨by omega, by simpa using h9⟩, show k / 256 - 0 = 0 by omega, show k % 256 = k by omega]; rfl
    · rw [if_neg (fun h8 => h9 (by simpa using h8.2)), Array.getElem?_eq_none (by omega), Array.getElem?_eq_none (by omega)]
  rw [e] at hr; exact hr
/-- '[][256]int{row}' -/
theorem wpList_build47 {ops : Array Oper} {rest : List Oper} {o : Oper} {a : Act} {w : World} {Q : Exit → Act → World → Prop} (hg : o.guard = none) (x : Operand) (ho : o.op = .buildSlice 103 1 #[(0, x)]) (rr : Array Value) (hx : a.eval x = .agg rr) (hs : rr.size = 256)
    (h : wpList Try.prog ops Q rest (a.put o.dst (.slice (some ⟨w.heap.size, 0, none⟩) 1 1)) (w.alloc (.cells rr 104))) : wpList Try.prog ops Q (o :: rest) a w := by
  obtain ⟨i, hi, hz, h1, h2⟩ := info_parts info48b
  refine wpList_buildSlice hg 103 104 1 _ ho rr i (.agg zs48) Try.underlying103 hi hz (by rw [h1]; decide) (by rw [h1]; decide) ?_ h
  rw [h1]
  simp only [List.map_toArray, List.map_cons, List.map_nil, hx]
  exact fill_one _ rr hs (by simp)
theorem cells_one {ds : Array Value} {A1 A2 : Option Addr} {n1 n2 c1 c2 : Nat} {cls : Nat → Nat} (h : Cells ds A1 A2 n1 n2 c1 c2 cls) : ds.all (·.oneCell') = true := by
  rw [Array.all_eq_true]
  intro i hi
  have hi : i < 258 := by have := h.size; omega
  by_cases e : i < 256
  · have := h.cl i e
    rw [Array.getElem?_eq_some_iff] at this
    obtain ⟨_, e2⟩ := this
    rw [e2]; rfl
  · by_cases e3 : i = 256
    · subst e3
      have := h.nx
      rw [Array.getElem?_eq_some_iff] at this
      obtain ⟨_, e2⟩ := this
      rw [e2]; rfl
    · obtain rfl : i = 257 := by omega
      have := h.ac
      rw [Array.getElem?_eq_some_iff] at this
      obtain ⟨_, e2⟩ := this
      rw [e2]; rfl
/-- a map literal's entry -/
theorem wpList_insert_own {P : Program} (w : World) {ops : Array Oper} {rest : List Oper} {o : Oper} {a : Act} {Q : Exit → Act → World → Prop}
    (hg : o.guard = none) (m x v : Operand) (t : TypeId) (hop : o.op = Op.insert t m x v)
    (k e : TypeId) (K : Keyed P k) (ht : P.underlying t = some (.map k e)) (R : Value → Option (DataW Unit × List MemPlace)) (b n : Nat) (D : DataW Unit)
    (hm : a.eval m = .map (some b)) (hown : w.ownsMap P k R b n D) (hn : n < maxLen) (key val : Value) (kl : Lit) (hx : a.eval x = key) (hv : a.eval v = val) (hkey : keyOf P k key = some kl)
    (d : DataW Unit) (ps : List MemPlace) (hval : R val = some (d, ps))
    (hK : ∀ w', w'.ownsMap P k R b (n + 1) (D.put kl d) → w.grownBy w' (some b) → wpList P ops Q rest (a.put o.dst undef) w') :
    wpList P ops Q (o :: rest) a w := by
  refine wpList_plain hg fun K' hK' => ?_
  obtain ⟨w', hrun, r1, r2⟩ := hown.update K ht hn hkey hval
  unfold Oper.wp
  simp [execOp, hop, hm, hx, hv, hrun, Result.andThen]
  exact hK' _ _ (hK w' r1 r2)
/-- 'v, ok := m[k]' of a map from numbers to places -/
theorem wpList_lookup_num (w : World) {ops : Array Oper} {rest : List Oper} {o : Oper} {a : Act} {Q : Exit → Act → World → Prop}
    (hgd : o.guard = none) (m x : Operand) (hop : o.op = Op.lookup 102 m x true) (g n : Nat) (D : DataW Unit) (tx : List Int) (hm : a.eval m = .map (some g))
    (hown : w.ownsMap Try.prog 3 (plainElem Try.prog 3) g n D) (hidx : IdxD intK D tx) (y : Int) (hy : I64 y) (hx : a.eval x = .int .i64 y)
    (iv : Int) (ok : Bool) (hiv : placeI tx y = iv) (hok : decide (y ∈ tx) = ok)
    (h : wpList Try.prog ops Q rest (a.put o.dst (.tuple #[.int .i64 iv, .bool ok])) w) :
    wpList Try.prog ops Q (o :: rest) a w := by
  refine wpList_plain hgd fun K' hK' => ?_
  have hrun : (Instr.lookup 102 (.map (some g)) (.int .i64 y) true).run Try.prog w = .ok (.tuple #[.int .i64 iv, .bool ok]) w := by
    rw [idx_lookup (int_keyed Try.underlying3) Try.underlying102 hown hidx y hy (keyOf_int3 y hy), hiv, ← hok]
  unfold Oper.wp
  simp [execOp, hop, hm, hx, hrun, Result.andThen]
  exact hK' _ _ h
end Go.Proofs.Ytfjhcoeehjephaa.M9
/- mini.Least. -/
namespace Go.Proofs.Ytfjhcoeehjephaa.M9
open Go.RowKit Go.Maps Go.WideMaps
attribute [local go_sem ↓] load_26 load_48 store_26 store_48

theorem results_cell_row2 {fn : Func} {p u : Tmp} {ty : TypeId} (h : fn.results = #[.cell p ty, .tmp u]) (tmps : Array Value) (w : World) (g : Nat) (cs : Array Value)
    (hp : tmps.getD p undef = .pointer (some ⟨g, 0, none⟩)) (hl : (loadVar ty ⟨g, 0, none⟩).run Try.prog w = .ok (.agg cs) w) :
    (results fn tmps).run Try.prog w = .ok (.tuple #[.agg cs, tmps.getD u undef]) w := by
  rw [results_cell_tmp h, hp]
  simp [asAddr, Result.andThen, hl]
/-- a load of the whole automaton out of its box -/
theorem ldB {W : World} {g : Nat} {ds : Array Value} (h : Blk W g 30 ds.toList) (hs : ds.size = 258) : (loadB 30 (.pointer (some ⟨g, 0, none⟩))).run Try.prog W = .ok (.agg ds) W := by
  have := loadB_run 30 h.range (.inl rfl) (by rw [Array.length_toList, hs]; rfl)
  simpa using this
/-- the automaton's box and the result's stay -/
structure BxW (w W : World) (ds : Array Value) : Prop where
  bel : Below w.heap.size w W
  box : Blk W w.heap.size 30 ds.toList
  r6 : Blk W (w.heap.size + 1) 30 zs26.toList
theorem BxW.go {w W W' : World} {ds : Array Value} (h : BxW w W ds) (hb : Below W.heap.size W W') : BxW w W' ds :=
  ⟨h.bel.trans (hb.mono h.bel.size), h.box.below hb h.box.lt, h.r6.below hb h.r6.lt⟩
set_option maxRecDepth 100000 in
set_option maxHeartbeats 8000000 in
theorem least_right (ds : Array Value) (A1 A2 : Option Addr) (n n2 c1 c2 : Nat) (D : Dfa) (RA : Nat → Option Addr) (rc : Nat → Nat) (w : World) (h : DfaIn w ds A1 A2 n n2 c1 c2 D RA rc) (hr : RightD D) :
    Calls Try.prog 28 #[.agg ds] w fun e w' => ∃ ds' Ax cx Ay cy k RA' rc' M, e = .returned (.tuple #[.agg ds', .int .i64 0]) ∧ DfaNew w w' ds' Ax Ay k k cx cy M RA' rc' ∧ LeastOf D M ∧ Below w.heap.size w w' := by
  have hln := h.next.len
  have hal := h.alen
  have hra := hr.alen
  have hn4 := hr.hi
  have hn1 := hr.lo
  rw [hln] at hn4 hn1
  have hok := hr.aut
  have hAn : (autOf D).n = n := hln
  have hn2 : n2 = n := by omega
  subst hn2
  have hds := h.cells.size
  obtain ⟨i3, hi3, hz3, hsz3, hbt3⟩ := info_parts info3
  have hbw : BxW w ((w.alloc (.cells ds 30)).alloc (.cells zs26 30)) ds := by
    have b1 := blk_alloc w 30 ds
    have b2 := blk_alloc (w.alloc (.cells ds 30)) 30 zs26
    rw [World.size_alloc] at b2
    exact ⟨((Below.refl _ _).alloc (Nat.le_refl _) _).alloc (by simp) _, b1.alloc _, b2⟩
  have H := Lib.hid (And.intro h (And.intro hr (And.intro hok hAn)))
  have HB := Lib.hid hbw
  have hz26 := zeroV26
  have hld := ldB hbw.box hds
  clear h hr hok hAn hbw
  go_enter Try.func28, Try.ntmps28
  go_upto_block 1 with (fail)
  generalize (w.alloc (.cells ds 30)).alloc (.cells zs26 30) = w1 at HB hld ⊢
  clear hz26
  go_wp2_with fail
  refine (dright_any ds A1 A2 n2 n2 c1 c2 D RA rc w1 ((H.out.1.keep HB.out.bel))).mono ?_
  rintro e w2 ⟨rfl, hb2⟩
  rw [rightD_yes H.out.2.1]
  have hbw := HB.out.go hb2
  have hld := ldB hbw.box hds
  have HB2 := Lib.hid hbw
  clear HB hbw hb2
  go_wp2_with fail
  refine (going_any ds A1 A2 n2 n2 c1 c2 D RA rc w2 (H.out.1.keep HB2.out.bel) H.out.2.1).mono ?_
  rintro e w3 ⟨gb, V, ls, u, rfl, hrows, hgb, hgo, hu, hb3⟩
  have hbw := HB2.out.go hb3
  obtain ⟨RA3, rc3, hri⟩ := hrows.inn hn4 hu (fun i hi => hgo.wid i (by rw [H.out.2.2.2]; exact hi))
  have q2 := hbw.box.cell 257
  rw [show ds.toList[257]? = ds[257]? by simp, H.out.1.cells.ac] at q2
  have HB3 := Lib.hid hbw
  have HG := Lib.hid (And.intro hri hgo)
  clear HB2 hbw hb3 hrows hri hgo hgb
  go_wp2_with fail
  refine (living_any (autOf D) H.out.2.2.1 (some ⟨gb, 0, none⟩) n2 n2 ls RA3 rc3 A2 c2 D.acc u w3 H.out.2.2.2 HG.out.1 (((H.out.1.keep HB3.out.bel)).aarr) hn4 hu HG.out.2 (fun i _ => rfl)).mono ?_
  rintro e w4 ⟨gl, lv, rfl, hlb, hgl, hll, hlv, hb4⟩
  have hbw := HB3.out.go hb4
  have hri := HG.out.1.keep hb4
  have hc0 := bools_cell hlb (j := 0) (by omega)
  have hl0 := hlv 0 (by rw [H.out.2.2.2]; omega)
  obtain ⟨b0, hb0⟩ : ∃ b0, b0 = lv.getD 0 false := ⟨_, rfl⟩
  rw [← hb0] at hc0 hl0
  have hq2 := hbw.box.cell 257
  rw [show ds.toList[257]? = ds[257]? by simp, H.out.1.cells.ac] at hq2
  have HB4 := Lib.hid hbw
  have HL := Lib.hid (And.intro hri (And.intro hlb (And.intro hll (And.intro hlv hl0))))
  clear HB3 hbw hb4 hri hlb hll hlv hl0 hb0 hgl hld
  cases b0 with
  | false =>
    have hz26 := zeroV26
    have hz58 := size26
    have hw5 := HB4.out.go (((((Below.refl w4.heap.size w4).alloc (Nat.le_refl _) (.cells #[.int .i64 (-1)] 3)).alloc (by simp) (.cells #[.slice (some ⟨w4.heap.size, 0, none⟩) 1 1] 36))).alloc (by simp; omega) (.cells #[.bool false] 4))
    have hst := storeB_run 30 hw5.r6 (.inl rfl) (e26 (.slice (some ⟨w4.heap.size + 1, 0, none⟩) 1 1) (.slice (some ⟨w4.heap.size + 1 + 1, 0, none⟩) 1 1)) (by rw [zs26_cells, dCells_len]; rfl) (by rw [e26_size]; rfl) (e26_one _ _ _ _ _ _)
    have hed := (empty_in w4).but (B' := w) HB4.out.bel.size (but_setRow _ (w.heap.size + 1) (e26 (.slice (some ⟨w4.heap.size + 1, 0, none⟩) 1 1) (.slice (some ⟨w4.heap.size + 1 + 1, 0, none⟩) 1 1))) (fun k hk => by have := HB4.out.r6.lt; omega)
    have hbk := hw5.r6.row (e26 (.slice (some ⟨w4.heap.size + 1, 0, none⟩) 1 1) (.slice (some ⟨w4.heap.size + 1 + 1, 0, none⟩) 1 1))
    have hbe := below_setRow (g := w.heap.size + 1) hw5.bel (by omega) (e26 (.slice (some ⟨w4.heap.size + 1, 0, none⟩) 1 1) (.slice (some ⟨w4.heap.size + 1 + 1, 0, none⟩) 1 1))
    have hun : (zs26.setIfInBounds 256 (.slice (some ⟨w4.heap.size + 1, 0, none⟩) 1 1)).setIfInBounds 257 (.slice (some ⟨w4.heap.size + 1 + 1, 0, none⟩) 1 1) = e26 (.slice (some ⟨w4.heap.size + 1, 0, none⟩) 1 1) (.slice (some ⟨w4.heap.size + 1 + 1, 0, none⟩) 1 1) := rfl
    obtain ⟨ee, hee⟩ : ∃ ee, ee = e26 (.slice (some ⟨w4.heap.size + 1, 0, none⟩) 1 1) (.slice (some ⟨w4.heap.size + 1 + 1, 0, none⟩) 1 1) := ⟨_, rfl⟩
    have hes := e26_size (.slice (some ⟨w4.heap.size + 1, 0, none⟩) 1 1) (.slice (some ⟨w4.heap.size + 1 + 1, 0, none⟩) 1 1)
    rw [← hee] at hst hed hbk hbe hun hes
    have HE := Lib.hid (And.intro hed (And.intro hbk (And.intro hbe hes)))
    clear hw5 hed hbk hbe hee hes
    go_wp2_with fail
    (try simp only [Exit.inBlock, Exit.then])
    refine bodyPost_ret (results_cell_row2 rfl _ _ (w.heap.size + 1) ee rfl (by
      have h9 := run_loadVar_row _ (w.heap.size + 1) 30 30 ee.toList.toArray (0, 0) _ HE.out.2.1 Try.underlying30 rfl (by rw [List.size_toArray, Array.length_toList, HE.out.2.2.2]; exact info26)
      simpa using h9)) rfl ?_
    exact ⟨ee, _, _, _, _, 1, _, _, emptyD, rfl, HE.out.1, .inl ⟨fun h9 => (by have := HL.out.2.2.2.2.2 h9; cases this), rfl⟩, HE.out.2.2.1⟩
  | true =>
    go_wp2_with fail
    refine (parts_any (autOf D) H.out.2.2.1 (some ⟨gb, 0, none⟩) n2 n2 ls RA3 rc3 A2 c2 D.acc (some ⟨gl, 0, none⟩) n2 lv u w4 H.out.2.2.2 HL.out.1 (((H.out.1.keep HB4.out.bel)).aarr) (bools_arr HL.out.2.1 HL.out.2.2.1) hn4 hu HG.out.2 HL.out.2.2.2.1 (fun i _ => rfl)).mono ?_
    rintro e w5 ⟨v5, q, rfl, hown, hql, hqs, hpd, hb5⟩
    have hbw := HB4.out.go hb5
    obtain ⟨Aq, cq, rfl⟩ := own_sl hown
    have hlive : Live (autOf D) 0 := HL.out.2.2.2.2.1 trivial
    obtain ⟨bq, oq, e5, hbq, hcq⟩ := (own_ints hown).one (k := 0) (by omega)
    have HQA := Lib.hid (own_ints hown)
    subst e5
    obtain ⟨q0, hq0⟩ : ∃ q0, q0 = q.getD 0 0 := ⟨_, rfl⟩
    rw [← hq0, Nat.add_zero] at hcq
    have hqb := hqs 0
    rw [← hq0] at hqb
    have hqs' : ∀ i, I64 (q.getD i 0) := fun i => i64_sm (hqs i).1 (by have := (hqs i).2; omega)
    have hcq1 := cell_al hcq (.map #[] 0)
    have hmd := World.ownsMap_made w5 Try.prog 3 (plainElem (H := Unit) Try.prog 3)
    have HP := Lib.hid (And.intro hbw (And.intro hown (And.intro hql (And.intro hqs' (And.intro hpd (And.intro hlive hq0))))))
    have HM := Lib.hid hmd
    have hk0 := keyOf_int3 q0 (i64_sm hqb.1 (by omega))
    have HQB := Lib.hid hqb
    clear hbw hown hql hqs hqs' hpd hb5 HG HL HB4 hq0 hlive hq2 hmd hqb
    have hmm := @run_makeMap Try.prog
    go_wp2_with (first
      | (refine wpList_insert_own _ rfl _ _ _ 102 rfl 3 3 (int_keyed Try.underlying3) Try.underlying102 (plainElem (H := Unit) Try.prog 3) w5.heap.size 0 _ rfl HM.out (by decide) _ _ _ rfl rfl hk0 _ [] (plainElem_int Try.underlying3 (i64_sm (a := 0) (by omega) (by omega))) ?_; intro w6 hown6 hgrow6))
    clear hmm hcq hcq1 hk0
    have hst : LstW w5 (w6.alloc (.cells #[.int .i64 0] 3)) w5.heap.size 1 ((DataW.map []).put (intK.lit q0) (.lit (.int .i64 (0 : Nat)))) q (.slice (some ⟨w6.heap.size, 0, none⟩) 1 1) (.slice none 0 0) [0] [] := by
      have hb6 : Below w5.heap.size w5 w6 := ((Below.refl _ _).alloc (Nat.le_refl _) (.map #[] 0)).grown hgrow6 (by simp) (fun j hj => by cases hj; exact Nat.le_refl _)
      refine ⟨hb6.alloc hb6.size _, hown6.alloc _, ?_, Nat.le_refl _, own_one _ _ _ _ hb6.size, World.ownsRow_nil _ _ _ _⟩
      have h9 := idx_snoc (idx_empty (H := Unit) intK) q0 (i64_sm HQB.out.1 (by have := HQB.out.2; omega)) (by simp)
      simpa [HP.out.2.2.2.2.2.2] using h9
    have HS := Lib.hid hst
    clear hst hgrow6 hown6 HM HQB
    obtain ⟨gm, hgm⟩ : ∃ gm, gm = w5.heap.size := ⟨_, rfl⟩
    rw [← hgm] at HS ⊢
    clear hgm
    obtain ⟨w7, hw7⟩ : ∃ w7, w7 = w6.alloc (.cells #[.int .i64 0] 3) := ⟨_, rfl⟩
    rw [← hw7] at HS ⊢
    clear hw7
    have HN := Lib.hid (And.intro hln (And.intro hal hra))
    clear hln hal hra
    go_loopw [8, 9, 10] (fun va vw i wr => ∃ (k m : Nat) (Dm : DataW Unit) (met : List Nat) (wide : List (List Int)), i = .int .i64 k ∧ LstW w5 wr gm m Dm q va vw met wide ∧ wide.length = k ∧ BReach (autOf D) ⟨met, [], wide⟩ ∧ m ≤ met.length ∧ k ≤ met.length) (fun _ _ i _ => 400 - (intOf i).toNat)
    case atStart => exact ⟨0, 1, _, [0], [], rfl, HS.out, rfl, BReach.start, Nat.le_refl _, Nat.zero_le _⟩
    case round =>
      obtain ⟨k, m, Dm, met, wide, rfl, hl, hwl, hbr, hm, hkm⟩ := hrel
      have hinv := hbr.inv H.out.2.2.1 HP.out.2.2.2.2.2.1
      have hml := hinv.len
      have hml : met.length ≤ n2 := by rw [← H.out.2.2.2]; exact hml
      obtain ⟨Aa, ca, rfl⟩ := own_sl hl.all
      obtain ⟨Aw, cw, rfl⟩ := own_sl hl.wid
      obtain ⟨ml, hml9⟩ : ∃ ml, ml = met.length := ⟨_, rfl⟩
      rw [hwl] at hl ⊢
      rw [← hml9] at hml hm hkm ⊢
      have HL := Lib.hid (And.intro hl (And.intro hwl (And.intro hbr (And.intro hml9 hinv))))
      clear hl hwl hbr hinv hml9 HS
      by_cases hlt : k < ml
      · have hz48 := zeroV48
        have hbk0 := blk_alloc wr 104 zs48
        rw [zs48_row] at hbk0
        have hla := HL.out.1.alloc (.cells zs48 104)
        have hwn : ∀ x, (Value.slice Aw k cw).ownBlock = some x → x < wr.heap.size := fun x hx => by
          have h9 := HL.out.1.wid
          exact (h9.lt x hx).2
        have hB11 := HL.out.1.bel.size
        go_wp2_with fail
        clear hz48
        have hbr := HL.out.2.2.1
        have hmlE := HL.out.2.2.2.1
        have hwlE := HL.out.2.1
        obtain ⟨g11, hg11⟩ : ∃ g11, g11 = wr.heap.size := ⟨_, rfl⟩
        rw [← hg11] at hbk0 hwn hB11 ⊢
        generalize wr.alloc (.cells zs48 104) = w8 at hla hbk0 ⊢
        have hkk : k < met.length := by rw [← hmlE]; exact hlt
        have hm' : m ≤ met.length := by rw [← hmlE]; exact hm
        have HW := Lib.hid (And.intro hla (And.intro hbk0 (And.intro hwn (And.intro hB11 (And.intro hbr (And.intro hwlE (And.intro hkk hm')))))))
        clear hla hbk0 hwn hB11 hbr hwlE hkk hm' hg11
        rw [hmlE]
        clear hmlE HL hlt hkm hm hml
        have HL2 : Hid (wide.length = k) := Lib.hid HW.out.2.2.2.2.2.1
        go_loopw [8, 51] (fun va b wx => ∃ (t m : Nat) (Dm : DataW Unit) (met : List Nat) (row : List Int) (Aa : Option Addr) (ca : Nat), t ≤ 256 ∧ va = .slice Aa met.length ca ∧ b = .int .i64 t ∧ LstW w5 wx gm m Dm q (.slice Aa met.length ca) (.slice Aw k cw) met wide ∧ row.length = t ∧ BReach (autOf D) ⟨met, row, wide⟩ ∧ Blk wx g11 104 (rowV row) ∧ m ≤ met.length ∧ k < met.length) (fun _ b _ => 256 - (intOf b).toNat)
        case atStart => exact ⟨0, m, Dm, met, [], Aa, ca, by omega, rfl, rfl, HW.out.1, rfl, HW.out.2.2.2.2.1, HW.out.2.1, HW.out.2.2.2.2.2.2.2, HW.out.2.2.2.2.2.2.1⟩
        case round =>
          obtain ⟨t, m, Dm, met, row, Aa, ca, ht, rfl, rfl, hl, hrl, hbr, hbk, hm, hkm⟩ := hrel
          have HT := Lib.hid (And.intro hl (And.intro hrl (And.intro hbr (And.intro hbk (And.intro hm hkm)))))
          clear hl hrl hbr hbk hm hkm
          by_cases hlt : t < 256
          · have hce := HT.out.2.2.2.1.cell t
            rw [rowV_get _ hlt] at hce
            have hfz := HT.out.2.2.2.1.frozen t
            obtain ⟨c9, hc9⟩ : ∃ c9, c9 = row.getD t 0 := ⟨_, rfl⟩
            rw [← hc9] at hce
            have hl9 := HT.out.1.cell HT.out.2.2.2.1 HW.out.2.2.2.1 (fun e => by have := HW.out.2.2.1 _ e; omega) t (.int .i64 (-1))
            have hb9 := HT.out.2.2.2.1.set t (.int .i64 (-1))
            rw [rowV_set HT.out.2.1 hlt] at hb9
            obtain ⟨w9, hw9⟩ : ∃ w9, w9 = wr.setCell ⟨g11, t, none⟩ (.int .i64 (-1)) := ⟨_, rfl⟩
            rw [← hw9] at hl9 hb9
            have hbw := HP.out.1.go hl9.bel
            have hkl := HT.out.2.2.2.2.2
            obtain ⟨i, hi⟩ : ∃ i, i = met.getD k 0 := ⟨_, rfl⟩
            have hbi := HT.out.2.2.1.inv H.out.2.2.1 HP.out.2.2.2.2.2.1
            have hin := hbi.lt k hkl
            replace hin : i < n2 := by rw [hi, ← H.out.2.2.2]; exact hin
            obtain ⟨b0, o0, e0, hb0, hc0⟩ := (nats_arr rfl hl9.all).one hkl
            subst e0
            replace hc0 : w9.cell? ⟨b0, o0 + k, none⟩ = some (.int .i64 (i : Int)) := by rw [hc0, hi]; rfl
            have p0 := hbw.box.cell t
            have p1 := hbw.box.cell 256
            rw [show ds.toList[t]? = ds[t]? by simp, H.out.1.cells.cl t hlt] at p0
            rw [show ds.toList[256]? = ds[256]? by simp, H.out.1.cells.nx] at p1
            obtain ⟨b1, o1, e1, hb1, hc1⟩ := H.out.1.next.arr.one hin
            subst e1
            unfold RowC at hc1
            replace hc1 := (hbw.bel.cell (p := ⟨b1, o1 + i, none⟩) hb1).trans hc1
            have hrw := (H.out.2.1.row (i := i) (by rw [HN.out.1]; exact hin)).1
            have hcl := H.out.2.1.cl hlt
            obtain ⟨b2, o2, e2, hb2, hc2⟩ := (H.out.1.next.row i hin).one (k := D.cls t) (by rw [hrw]; exact hcl)
            rw [hrw, e2] at hc1
            unfold NumC at hc2
            replace hc2 := (hbw.bel.cell (p := ⟨b2, o2 + D.cls t, none⟩) hb2).trans hc2
            obtain ⟨x, hx⟩ : ∃ x, x = (D.next.getD i []).getD (D.cls t) 0 := ⟨_, rfl⟩
            rw [← hx] at hc2
            have hxn : x = (autOf D).nx (met.getD k 0) t := by rw [hx, hi]; rfl
            have hxlo := H.out.2.2.1.lo i t (by rw [H.out.2.2.2]; exact hin) hlt
            have hxhi := H.out.2.2.1.hi i t (by rw [H.out.2.2.2]; exact hin) hlt
            replace hxlo : -1 ≤ x := by rw [hx]; exact hxlo
            replace hxhi : x < (n2 : Int) := by rw [hx, ← H.out.2.2.2]; exact hxhi
            obtain ⟨cc, hcc⟩ : ∃ cc, cc = D.cls t := ⟨_, rfl⟩
            obtain ⟨mm, hmm⟩ : ∃ mm, mm = D.many := ⟨_, rfl⟩
            rw [← hcc] at p0 hc2 hcl
            rw [← hmm] at hc1 hcl
            obtain ⟨ml, hml⟩ : ∃ ml, ml = met.length := ⟨_, rfl⟩
            rw [← hml] at hkl ⊢
            have HX := Lib.hid (And.intro hl9 (And.intro hb9 (And.intro hbw (And.intro hxn (And.intro hml (And.intro hbi hi))))))
            have HW9 := Lib.hid hw9
            clear hl9 hb9 hbw hxn hml hx hcc hmm hrw e2 hbi hi hb0 hb1 hb2 hc9
            go_wp2_with fail
            rw [← HW9.out]
            clear HW9 hce hfz hw9
            go_quiet (fail)
            have hqd : Below w9.heap.size w9 (w9.drewN nq) := below_drewN (Below.refl _ _) nq
            have hl10 := HX.out.1.go hqd
            have hb10 := HX.out.2.1.below hqd HX.out.2.1.lt
            have H10 := Lib.hid (And.intro hl10 hb10)
            clear hl10 hb10 hqd hc0 hc1 hc2 p0 p1
            generalize w9.drewN nq = w10 at H10 ⊢
            have hml := HX.out.2.2.2.2.1
            by_cases hneg : x < 0
            · have d1 : decide (x < 0) = true := by simpa using hneg
              have hbr := HT.out.2.2.1.dead (by rw [HL2.out]; exact HT.out.2.2.2.2.2) (by rw [HT.out.2.1]; exact hlt) (.inl (by rw [HL2.out, HT.out.2.1, ← HX.out.2.2.2.1]; exact hneg))
              have HR := Lib.hid (And.intro hbr hml)
              clear hneg hbr hml
              go_wp2_with fail
              go_roundw
              case rel => exact ⟨t + 1, m, Dm, met, row ++ [-1], some ⟨b0, o0, none⟩, ca, by omega, by rw [HR.out.2], by go_num, H10.out.1, by rw [List.length_append, HT.out.2.1]; rfl, HR.out.1, H10.out.2, HT.out.2.2.2.2.1, HT.out.2.2.2.2.2⟩
              case measure => simp [intOf]; omega
            · have d1 : decide (x < 0) = false := by simpa using hneg
              obtain ⟨j, rfl⟩ : ∃ j : Nat, x = (j : Int) := ⟨x.toNat, by omega⟩
              have hj : j < n2 := by omega
              obtain ⟨b5, o5, e6, hb5, hc5⟩ := HQA.out.one hj
              injection e6 with e6
              injection e6 with e7 e8
              subst e7
              subst e8
              replace hc5 := (H10.out.1.bel.cell (p := ⟨bq, oq + j, none⟩) hb5).trans hc5
              have hy64 := HP.out.2.2.2.1 j
              obtain ⟨y, hy⟩ : ∃ y, y = q.getD j 0 := ⟨_, rfl⟩
              rw [← hy] at hc5 hy64
              have hnx : ((autOf D).nx (met.getD k 0) t).toNat = j := by rw [← HX.out.2.2.2.1]; rfl
              have hng := HP.out.2.2.2.2.1.ok.neg (i := j) (by rw [H.out.2.2.2]; exact hj)
              have hng : y < 0 ↔ ¬ Live (autOf D) j := by rw [hy]; exact hng
              by_cases hyn : y < 0
              · have d2 : decide (y < 0) = true := by simpa using hyn
                have hbr := HT.out.2.2.1.dead (by rw [HL2.out]; exact HT.out.2.2.2.2.2) (by rw [HT.out.2.1]; exact hlt) (.inr (by rw [HL2.out, HT.out.2.1, hnx]; exact hng.1 hyn))
                have HR := Lib.hid (And.intro hbr hml)
                clear hyn hbr hml hneg hng hnx hy hb5
                go_wp2_with fail
                go_roundw
                case rel => exact ⟨t + 1, m, Dm, met, row ++ [-1], some ⟨b0, o0, none⟩, ca, by omega, by rw [HR.out.2], by go_num, H10.out.1, by rw [List.length_append, HT.out.2.1]; rfl, HR.out.1, H10.out.2, HT.out.2.2.2.2.1, HT.out.2.2.2.2.2⟩
                case measure => simp [intOf]; omega
              · have d2 : decide (y < 0) = false := by simpa using hyn
                have hlj : Live (autOf D) j := Classical.byContradiction fun h9 => hyn (hng.2 h9)
                have hnd : ¬ Dead (autOf D) (met.getD k 0) t := fun h9 => by
                  rcases h9 with h9 | h9
                  · rw [← HX.out.2.2.2.1] at h9; omega
                  · rw [hnx] at h9; exact h9 hlj
                have hpl := idx_plc HP.out.2.2.2.2.1 (j := j) (by rw [H.out.2.2.2]; exact hj) hlj met (bmem HX.out.2.2.2.2.2.1)
                rw [← hy] at hpl
                obtain ⟨kk, hkk⟩ : ∃ kk, kk = idxL (autOf D) met j := ⟨_, rfl⟩
                rw [← hkk] at hpl
                have hmem := plc_mem hpl
                rw [List.length_map] at hmem
                have hkle := idxL_le (A := autOf D) met j
                rw [← hkk] at hkle
                have hbw := HP.out.1.go H10.out.1.bel
                have hce := H10.out.2.cell t
                rw [rowV_get _ hlt] at hce
                have hfz := H10.out.2.frozen t
                obtain ⟨c9, hc9⟩ : ∃ c9, c9 = (row ++ [-1]).getD t 0 := ⟨_, rfl⟩
                rw [← hc9] at hce
                have HH := Lib.hid (And.intro hkk (And.intro hpl (And.intro hmem (And.intro hnd (And.intro hnx (And.intro hml hy))))))
                clear hkk hpl hmem hnd hnx hml hyn hneg hng hlj hbw hc9 hy hb5
                by_cases hold : kk < met.length
                · have hmm := HH.out.2.2.1
                  rw [decide_eq_true hold] at hmm
                  have hiv : placeI (met.map (fun i => q.getD i 0)) y = (kk : Int) := by
                    unfold placeI
                    rw [if_pos (of_decide_eq_true hmm), HH.out.2.1]
                  have hbr := HT.out.2.2.1.old (by rw [HL2.out]; exact HT.out.2.2.2.2.2) (by rw [HT.out.2.1]; exact hlt) (by rw [HL2.out, HT.out.2.1]; exact HH.out.2.2.2.1) (j := j) (k := kk) (by rw [HL2.out, HT.out.2.1]; exact HH.out.2.2.2.2.1) HH.out.1.symm hold
                  have HR := Lib.hid (And.intro hmm (And.intro hiv hbr))
                  clear hmm hiv hbr hold
                  go_wp2_with (first | (at_lookup; refine wpList_lookup_num _ rfl _ _ rfl gm m Dm _ rfl H10.out.1.nm H10.out.1.idx y hy64 rfl _ true HR.out.2.1 HR.out.1 ?_))
                  go_roundw
                  case rel =>
                    have hlf := H10.out.1.cell H10.out.2 HW.out.2.2.2.1 (fun e => by have := HW.out.2.2.1 _ e; omega) t (.int .i64 (kk : Int))
                    have hbf := H10.out.2.set t (.int .i64 (kk : Int))
                    rw [rowV_set2 HT.out.2.1 hlt] at hbf
                    exact ⟨t + 1, m, Dm, met, row ++ [(kk : Int)], some ⟨b0, o0, none⟩, ca, by omega, by rw [HH.out.2.2.2.2.2.1], by go_num, hlf, by rw [List.length_append, HT.out.2.1]; rfl, HR.out.2.2, hbf, HT.out.2.2.2.2.1, HT.out.2.2.2.2.2⟩
                  case measure => simp [intOf]; omega
                · have hke : kk = met.length := by omega
                  have hmm := HH.out.2.2.1
                  rw [decide_eq_false hold] at hmm
                  have hnm := of_decide_eq_false hmm
                  have hiv : placeI (met.map (fun i => q.getD i 0)) y = 0 := by
                    unfold placeI
                    rw [if_neg hnm]
                  have hbr := HT.out.2.2.1.new (by rw [HL2.out]; exact HT.out.2.2.2.2.2) (by rw [HT.out.2.1]; exact hlt) (by rw [HL2.out, HT.out.2.1]; exact HH.out.2.2.2.1) (j := j) (by rw [HL2.out, HT.out.2.1]; exact HH.out.2.2.2.2.1) (HH.out.1.symm.trans hke)
                  have hmE := HH.out.2.2.2.2.2.1
                  rw [← hmE] at hbr
                  have hidx := idx_snoc H10.out.1.idx y hy64 hnm
                  rw [List.length_map, ← hmE] at hidx
                  have hlen := HX.out.2.2.2.2.2.1.len
                  have hlen : ml ≤ n2 := by rw [hmE, ← H.out.2.2.2]; exact hlen
                  have hmm' := HT.out.2.2.2.2.1
                  have hm5 : m < maxLen := by rw [← hmE] at hmm'; unfold maxLen; omega
                  have HR := Lib.hid (And.intro hmm (And.intro hiv (And.intro hbr hidx)))
                  have hkey := keyOf_int3 y hy64
                  have y1 : (ml + 1) * 8 ≤ 140737488355328 := by omega
                  have y2 : ml + 1 ≤ maxLen := by unfold maxLen; omega
                  have y3 : ∀ v ∈ [Value.int .i64 (j : Int)], v.oneCell' = true := by intro v hv9; simp at hv9; rw [hv9]; rfl
                  clear hmm hiv hbr hidx hnm hold hke hmE hmm'
                  go_wp2_with (first
                    | (at_lookup; refine wpList_lookup_num _ rfl _ _ rfl gm m Dm _ rfl H10.out.1.nm H10.out.1.idx y hy64 rfl _ false HR.out.2.1 HR.out.1 ?_)
                    | (at_mapUpdate; refine wpList_mapUpdate_own _ rfl _ _ _ 102 rfl 3 3 (int_keyed Try.underlying3) Try.underlying102 (plainElem (H := Unit) Try.prog 3) gm m Dm rfl H10.out.1.nm hm5 _ _ _ rfl rfl hkey _ [] (plainElem_int Try.underlying3 (i64_sm (a := (ml : Int)) (by omega) (by omega))) ?_; intro w11 hown11 hgrow11; have HN11 := Lib.hid (And.intro hgrow11 (And.intro hown11 (H10.out.1.name (x := j) hgrow11 hown11))); have hown12 : (w11.alloc (.cells #[.int .i64 (j : Int)] 3)).ownsRow w5.heap.size 3 1 (.slice (some ⟨b0, o0, none⟩) ml ca) ml (natsV met) := (by rw [HH.out.2.2.2.2.2.1]; exact own_kept HN11.out.2.2.2.1 ((Below.refl _ _).alloc (Nat.le_refl _) _)); have y4 : w5.heap.size ≤ (w11.alloc (.cells #[.int .i64 (j : Int)] 3)).heap.size := (HN11.out.2.2.1.alloc HN11.out.2.2.1.size _).size; clear hown11 hgrow11)
                    | (at_builtin; refine wpList_append_lies _ rfl (.tmp 98) (.tmp 100) 36 rfl w5.heap.size 3 i3 (.int .i64 0) 1 8 Try.underlying36 hi3 hz3 hsz3 hbt3 rfl (by decide) (.slice (some ⟨b0, o0, none⟩) ml ca) ml (natsV met) rfl hown12 ⟨_, 0, none⟩ 1 1 [.int .i64 (j : Int)] rfl rfl (World.news_of_block (heap_alloc_new _ _)) y3 (by decide) y2 y1 y4 _ rfl ?_; intro g12 c12 w12 hown13 hg13 hat13 hlt13; have HB12 := Lib.hid (H10.out.1.blk H10.out.2 HN11.out.1 hg13); have hce12 := HB12.out.cell t; rw [rowV_get _ hlt] at hce12; have hfz12 := HB12.out.frozen t))
                  have H13 := Lib.hid (And.intro hown13 hg13)
                  clear hown13 hg13 hat13 hlt13
                  go_roundw
                  case rel =>
                    have hp := H10.out.1.push (va' := .slice (some ⟨g12, 0, none⟩) (ml + 1) c12) (x := j) HN11.out.1 HN11.out.2.1 (by rw [List.map_append, List.map_singleton, ← HH.out.2.2.2.2.2.2]; exact HR.out.2.2.2) (W' := w12) (by rw [← HH.out.2.2.2.2.2.1]; exact H13.out.1) H13.out.2
                    have hlf := hp.cell HB12.out HW.out.2.2.2.1 (fun e => by have := HW.out.2.2.1 _ e; omega) t (.int .i64 (ml : Int))
                    have hbf := HB12.out.set t (.int .i64 (ml : Int))
                    rw [rowV_set2 HT.out.2.1 hlt] at hbf
                    have hl9 : (met ++ [j]).length = ml + 1 := by rw [List.length_append, ← HH.out.2.2.2.2.2.1]; rfl
                    have h8 := HT.out.2.2.2.2.1
                    have h7 := HT.out.2.2.2.2.2
                    rw [← HH.out.2.2.2.2.2.1] at h8 h7
                    exact ⟨t + 1, m + 1, _, met ++ [j], row ++ [(ml : Int)], some ⟨g12, 0, none⟩, c12, by omega, by rw [hl9], by go_num, by rw [hl9]; exact hlf, by rw [List.length_append, HT.out.2.1]; rfl, HR.out.2.2.1, hbf, by omega, by omega⟩
                  case measure => simp [intOf]; omega
          · have ht6 : t = 256 := by omega
            have hld := loadB_run 104 HT.out.2.2.2.1.range (by simp) (by rw [rowV_len]; rfl)
            have hon := rowV_one row
            obtain ⟨rr, hrr⟩ : ∃ rr, rr = (rowV row).toArray := ⟨_, rfl⟩
            have hsz : rr.size = 256 := by rw [hrr, List.size_toArray, rowV_len]
            rw [← hrr] at hld
            have hla := HT.out.1.alloc (.cells rr 104)
            have hown := hla.wid
            rw [HL2.out] at hown
            obtain ⟨xs, hxs⟩ : ∃ xs, xs = flat 256 cellW [] wide := ⟨_, rfl⟩
            rw [← hxs] at hown
            have hn8 : (wr.alloc (.cells rr 104)).heap[wr.heap.size]? = some (.cells rr 104 (0, 0)) := heap_alloc_new _ _
            have hk4 : k < 400 := by
              have h8 := (HT.out.2.2.1.inv H.out.2.2.1 HP.out.2.2.2.2.2.1).len
              have h7 := HT.out.2.2.2.2.2
              have h8 : met.length ≤ n2 := by rw [← H.out.2.2.2]; exact h8
              omega
            have y1 : (k + 1) * 2048 ≤ 140737488355328 := by omega
            have y2 : k + 1 ≤ maxLen := by unfold maxLen; omega
            have y3 : ∀ v ∈ rowV row, v.oneCell' = true := by
              rw [Array.all_eq_true_iff_forall_mem] at hon
              intro v hv9
              exact hon v (by simpa using hv9)
            have y4 : w5.heap.size ≤ (wr.alloc (.cells rr 104)).heap.size := hla.bel.size
            have hnw : ∀ j u, (rowV row)[j]? = some u → (wr.alloc (.cells rr 104)).cell? ((⟨wr.heap.size, 0, none⟩ : Addr).add j) = some u := fun j u hu => World.news_of_block hn8 j u (by rw [hrr, List.toList_toArray]; exact hu)
            have HF := Lib.hid (And.intro hla (And.intro hxs hown))
            have hbr := HT.out.2.2.1.row (by rw [HL2.out]; exact HT.out.2.2.2.2.2) (by rw [HT.out.2.1]; exact ht6)
            have HBR := Lib.hid hbr
            obtain ⟨i48, hi48, hz48, hsz48, hbt48⟩ := info_parts info48b
            clear hla hxs hown hn8 hon hrr hbr ht6
            go_wp2_with (first
              | (refine wpList_build47 rfl (.tmp 107) rfl rr rfl hsz ?_)
              | (at_builtin; refine wpList_append_lies _ rfl (.tmp 106) (.tmp 108) 103 rfl w5.heap.size 104 i48 (.agg zs48) 256 2048 Try.underlying103 hi48 hz48 hsz48 hbt48 zs48_size (by decide) (.slice Aw k cw) k xs rfl HF.out.2.2 ⟨_, 0, none⟩ 1 1 (rowV row) rfl (by rw [rowV_len]) hnw y3 (by decide) y2 y1 y4 _ rfl ?_; intro g12 c12 w12 hown13 hg13 hat13 hlt13))
            have H13 := Lib.hid (And.intro hown13 hg13)
            clear hown13 hg13 hat13 hlt13
            go_roundw
            case rel =>
              have hrow := HF.out.1.row (vw' := .slice (some ⟨g12, 0, none⟩) (k + 1) c12) (r := row) (W' := w12) (by rw [HL2.out, ← HF.out.2.1]; exact H13.out.1) H13.out.2
              exact ⟨k + 1, m, Dm, met, wide ++ [row], by go_num, hrow, by rw [List.length_append, HL2.out]; rfl, HBR.out, HT.out.2.2.2.2.1, HT.out.2.2.2.2.2⟩
            case measure => simp [intOf]; omega
      · have hke : k = ml := by omega
        have hbw := HP.out.1.go HL.out.1.bel
        have hq3 := hbw.box.cell 257
        rw [show ds.toList[257]? = ds[257]? by simp, H.out.1.cells.ac] at hq3
        have hend : BEnd (autOf D) ⟨met, [], wide⟩ := ⟨HL.out.2.2.1, by show met.length ≤ wide.length; rw [HL.out.2.1, ← HL.out.2.2.2.1]; omega⟩
        have hps := HL.out.2.2.2.2.pos
        have hps : 1 ≤ k := by rw [hke, HL.out.2.2.2.1]; exact hps
        have hwa : Arr wr wr.heap.size 256 Aw k (WideC wide) := by
          have h9 := HL.out.1.wid
          rw [← HL.out.2.1] at h9 ⊢
          exact wide_arr h9
        have hna : Arr wr wr.heap.size 1 Aa k (NatC met) := by
          have h9 := HL.out.1.all
          rw [← HL.out.2.2.2.1, ← hke] at h9
          exact nats_arr (by rw [← HL.out.2.2.2.1, ← hke]) h9
        have hnr := narrow_any Aw k cw wide Aa ca met A2 n2 c2 D.acc wr hwa HL.out.2.1 hps (by omega) (wideOk_of HL.out.2.2.2.2 (by rw [H.out.2.2.2]; exact hn4)) hna (by rw [← HL.out.2.2.2.1, ← hke]) (H.out.1.keep hbw.bel).aarr (fun i hi => by
          have h9 := HL.out.2.2.2.2.lt i (by rw [← HL.out.2.2.2.1, ← hke]; exact hi)
          rw [H.out.2.2.2] at h9
          exact h9)
        have HE := Lib.hid (And.intro hbw (And.intro hend hnr))
        clear hbw hend hnr hwa hna hps
        have hkl : ¬ k < ml := hlt
        subst hke
        go_wp2_with fail
        refine HE.out.2.2.mono ?_
        rintro e w15 ⟨ds', Ax, cx, Ay, cy, RA', rc', rfl, hdf, hb15⟩
        have hbw := HE.out.1.go hb15
        have hone := cells_one (hdf w15 (But.refl _ _)).cells
        have hsz := (hdf w15 (But.refl _ _)).cells.size
        have hst := storeB_run 30 hbw.r6 (.inl rfl) ds' (by rw [zs26_cells, dCells_len]; rfl) (by rw [hsz]; rfl) hone
        have hbk := hbw.r6.row ds'
        have hbe := below_setRow (g := w.heap.size + 1) hbw.bel (by omega) ds'
        have hdf2 : DfaNew w (w15.setRow (w.heap.size + 1) ds') ds' Ax Ay k k cx cy _ RA' rc' := DfaNew.but (B := wr) hdf HE.out.1.bel.size (but_setRow w15 (w.heap.size + 1) ds') (fun x hx => by
          have := HE.out.1.r6.lt
          omega)
        have HZ := Lib.hid (And.intro hbk (And.intro hbe (And.intro hdf2 hsz)))
        clear hbw hone hsz hbk hbe hdf2 hdf hb15
        go_wp2_with fail
        (try simp only [Exit.inBlock, Exit.then])
        refine bodyPost_ret (results_cell_row2 rfl _ _ (w.heap.size + 1) ds' rfl (by
          have h9 := run_loadVar_row _ (w.heap.size + 1) 30 30 ds'.toList.toArray (0, 0) _ HZ.out.1 Try.underlying30 rfl (by rw [List.size_toArray, Array.length_toList, HZ.out.2.2.2]; exact info26)
          simpa using h9)) rfl ?_
        exact ⟨ds', Ax, cx, Ay, cy, k, RA', rc', _, rfl, HZ.out.2.2.1, .inr ⟨HP.out.2.2.2.2.2.1, _, HE.out.2.1, rfl⟩, HZ.out.2.1⟩
end Go.Proofs.Ytfjhcoeehjephaa.M9
/- The reference's Like, of two that are alike. -/
namespace Go.Proofs.Ytfjhcoeehjephaa.M9
open Go.RowKit
attribute [local go_sem ↓] load_22

theorem cells5 : Try.prog.cellsOf 5 = 1 := by kernel_rfl
def clsV (f : Nat → Nat) : List Value := (List.range 256).map (fun b => .int .u8 ((f b : Nat) : Int))
theorem clsV_len (f : Nat → Nat) : (clsV f).length = 256 := by rw [clsV, List.length_map, List.length_range]
theorem clsV_get (f : Nat → Nat) {b : Nat} (h : b < 256) : (clsV f)[b]? = some (.int .u8 ((f b : Nat) : Int)) := by
  rw [clsV, List.getElem?_map, List.getElem?_range h]; rfl
/-- the classes, read whole -/
theorem cls_load {W : World} {g : Nat} {ds : Array Value} {A1 A2 : Option Addr} {n1 n2 c1 c2 : Nat} {cls : Nat → Nat} (hb : Blk W g 30 ds.toList) (h : Cells ds A1 A2 n1 n2 c1 c2 cls) : (loadB 26 (.pointer (some ⟨g, 0, none⟩))).run Try.prog W = .ok (.agg (clsV cls).toArray) W :=
  loadB_run 26 (fun j v hv => by
    have hj : j < 256 := by rw [← clsV_len cls]; exact (List.getElem?_eq_some_iff.1 hv).1
    rw [clsV_get cls hj] at hv
    rw [Nat.zero_add, hb.cell, Array.getElem?_toList, h.cl j hj]; exact hv) (by simp) (by rw [clsV_len]; rfl)
/-- an array of bytes is itself -/
theorem eq22 (f : Nat → Nat) (W : World) : (Op.equalIn 10000 26 (.agg (clsV f).toArray) (.agg (clsV f).toArray)).run Try.prog W = .ok true W := by
  obtain ⟨i5, hi5, _⟩ := info_parts info5
  rw [run_equalIn_array W 9999 _ _ Try.underlying26 hi5, cells5]
  have key : ∀ is : List Nat, (∀ i ∈ is, i < 256) → (Op.eqItems 9999 5 1 (clsV f).toArray (clsV f).toArray is).run Try.prog W = .ok true W := fun is => by
    induction is with
    | nil => intro _; simp [Op.eqItems]
    | cons i is ih =>
      intro hi
      have hg := clsV_get f (hi i (by simp))
      have hp : (part 5 (clsV f).toArray (i * 1)).run Try.prog W = .ok (.int .u8 ((f i : Nat) : Int)) W := run_part_plain W (by kernel_rfl) (by simpa using hg)
      simp only [Op.eqItems, Sem.run_bind, hp, Result.andThen_ok, run_equalIn_int W 9998 5 .u8 .u8 _ _ Try.underlying5]
      simpa using ih (fun j hj => hi j (by simp [hj]))
  exact key _ (fun i hi => by simpa using hi)
set_option maxRecDepth 100000 in
set_option maxHeartbeats 8000000 in
theorem like_same (ds ds' : Array Value) (A1 A2 B1 B2 : Option Addr) (n m c1 c2 e1 e2 : Nat) (D : Dfa) (RA RB : Nat → Option Addr) (rc re : Nat → Nat) (w : World) (h : DfaIn w ds A1 A2 n m c1 c2 D RA rc) (k : DfaIn w ds' B1 B2 n m e1 e2 D RB re) :
    Calls Try.prog 30 #[.agg ds, .agg ds'] w fun e w' => e = .returned (.bool true) ∧ Below w.heap.size w w' := by
  have hn := h.next.le
  have hm := h.ale
  have hr := h.next.small
  have b1 := (blk_alloc w 30 ds).alloc (.cells ds' 30)
  have b2 := blk_alloc (w.alloc (.cells ds 30)) 30 ds'
  rw [World.size_alloc] at b2
  have hbl : Below w.heap.size w ((w.alloc (.cells ds 30)).alloc (.cells ds' 30)) := ((Below.refl _ _).alloc (Nat.le_refl _) _).alloc (by simp) _
  have hl1 := cls_load b1 h.cells
  have hl2 := cls_load b2 k.cells
  have heq := eq22 D.cls
  obtain ⟨cv, hcv⟩ : ∃ cv, cv = (clsV D.cls).toArray := ⟨_, rfl⟩
  rw [← hcv] at hl1 hl2 heq
  have q1 := b1.cell 256
  have q2 := b1.cell 257
  have p1 := b2.cell 256
  have p2 := b2.cell 257
  rw [Array.getElem?_toList, h.cells.nx] at q1
  rw [Array.getElem?_toList, h.cells.ac] at q2
  rw [Array.getElem?_toList, k.cells.nx] at p1
  rw [Array.getElem?_toList, k.cells.ac] at p2
  have H := Lib.hid (And.intro h (And.intro k (And.intro hbl hr)))
  clear h k hbl b1 b2 hcv hr
  go_enter Try.func30, Try.ntmps30
  go_upto_region 1 with (fail)
  generalize (w.alloc (.cells ds 30)).alloc (.cells ds' 30) = w1 at H hl1 hl2 q1 q2 p1 p2 ⊢
  go_wp2_with fail
  clear hl1 hl2 heq
  go_loopw [34] (fun i wr => ∃ (k : Nat) (mq : Nat), k ≤ n ∧ i = .int .i64 k ∧ wr = w1.drewN mq) (fun i _ => n - (intOf i).toNat)
  case atStart => exact ⟨0, 0, by omega, rfl, rfl⟩
  case round =>
    obtain ⟨k, mq, hk, rfl, rfl⟩ := hrel
    by_cases hlt : k < n
    · have dt : decide ((k : Int) < (n : Int)) = true := by simp; omega
      obtain ⟨b1, o1, x1, hb1, hc1⟩ := H.out.1.next.arr.one hlt
      obtain ⟨b2, o2, x2, hb2, hc2⟩ := H.out.2.1.next.arr.one hlt
      subst x1
      subst x2
      unfold RowC at hc1 hc2
      replace hc1 := (H.out.2.2.1.cell (p := ⟨b1, o1 + k, none⟩) hb1).trans hc1
      replace hc2 := (H.out.2.2.1.cell (p := ⟨b2, o2 + k, none⟩) hb2).trans hc2
      have hrk := H.out.2.2.2 k hlt
      have HR1 := Lib.hid (H.out.1.next.row k hlt)
      have HR2 := Lib.hid (H.out.2.1.next.row k hlt)
      obtain ⟨r, hr⟩ : ∃ r, r = D.next.getD k [] := ⟨_, rfl⟩
      rw [← hr] at HR1 HR2 hc1 hc2 hrk
      obtain ⟨rl, hrl⟩ : ∃ rl, rl = r.length := ⟨_, rfl⟩
      rw [← hrl] at HR1 HR2 hc1 hc2 hrk
      obtain ⟨AR, hAR⟩ : ∃ AR, AR = RA k := ⟨_, rfl⟩
      obtain ⟨BR, hBR⟩ : ∃ BR, BR = RB k := ⟨_, rfl⟩
      rw [← hAR] at HR1 hc1
      rw [← hBR] at HR2 hc2
      have bb : ((rl : Int) == (rl : Int)) = true := by simp
      clear hr hrl hAR hBR hb1 hb2
      go_wp2_with fail
      go_quiet (fail)
      go_wp2_with fail
      (try rw [World.drewN_drewN])
      clear dt bb
      obtain ⟨mm, hmm⟩ : ∃ mm, mm = mq + nq := ⟨_, rfl⟩
      rw [← hmm]
      clear hmm
      go_loopw [56] (fun i wr => ∃ (t : Nat) (mz : Nat), t ≤ rl ∧ i = .int .i64 t ∧ wr = w1.drewN mz) (fun i _ => rl - (intOf i).toNat)
      case atStart => exact ⟨0, mm, by omega, rfl, rfl⟩
      case round =>
        obtain ⟨t, mz, ht, rfl, rfl⟩ := hrel
        by_cases htl : t < rl
        · obtain ⟨b3, o3, x3, hb3, hc3⟩ := HR1.out.one htl
          obtain ⟨b4, o4, x4, hb4, hc4⟩ := HR2.out.one htl
          have HX3 := Lib.hid x3
          have HX4 := Lib.hid x4
          subst x3
          subst x4
          unfold NumC at hc3 hc4
          replace hc3 := (H.out.2.2.1.cell (p := ⟨b3, o3 + t, none⟩) hb3).trans hc3
          replace hc4 := (H.out.2.2.1.cell (p := ⟨b4, o4 + t, none⟩) hb4).trans hc4
          obtain ⟨x, hx⟩ : ∃ x, x = r.getD t 0 := ⟨_, rfl⟩
          rw [← hx] at hc3 hc4
          have bb : (x == x) = true := by simp
          clear hx hb3 hb4
          go_wp2_with fail
          go_quiet (fail)
          go_wp2_with fail
          go_roundw
          case rel => exact ⟨t + 1, mz + nq, by omega, by go_num, by first | rfl | trivial⟩
          case measure => simp [intOf]; omega
        · have hte : t = rl := by omega
          go_wp2_with fail
          go_roundw
          case rel => exact ⟨k + 1, mz, by omega, by go_num, by first | rfl | trivial⟩
          case measure => simp [intOf]; omega
    · have hke : k = n := by omega
      go_wp2_with fail
      go_loopw [81] (fun i wr => ∃ (t : Nat) (mz : Nat), t ≤ m ∧ i = .int .i64 t ∧ wr = w1.drewN mz) (fun i _ => m - (intOf i).toNat)
      case atStart => exact ⟨0, mq, by omega, rfl, rfl⟩
      case round =>
        obtain ⟨t, mz, ht, rfl, rfl⟩ := hrel
        by_cases htl : t < m
        · obtain ⟨b3, o3, x3, hb3, hc3⟩ := H.out.1.aarr.one htl
          obtain ⟨b4, o4, x4, hb4, hc4⟩ := H.out.2.1.aarr.one htl
          subst x3
          subst x4
          unfold BoolC at hc3 hc4
          replace hc3 := (H.out.2.2.1.cell (p := ⟨b3, o3 + t, none⟩) hb3).trans hc3
          replace hc4 := (H.out.2.2.1.cell (p := ⟨b4, o4 + t, none⟩) hb4).trans hc4
          obtain ⟨x, hx⟩ : ∃ x, x = D.acc.getD t false := ⟨_, rfl⟩
          rw [← hx] at hc3 hc4
          have bb : (x == x) = true := by cases x <;> rfl
          clear hx hb3 hb4
          go_wp2_with fail
          go_quiet (fail)
          go_wp2_with fail
          go_roundw
          case rel => exact ⟨t + 1, mz + nq, by omega, by go_num, by first | rfl | trivial⟩
          case measure => simp [intOf]; omega
        · have hte : t = m := by omega
          go_wp2_with fail
          go_returns
          exact ⟨by first | rfl | simp, below_drewN H.out.2.2.1 _⟩
end Go.Proofs.Ytfjhcoeehjephaa.M9
