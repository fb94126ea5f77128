/- Bx, BuN, BuP of this seat, in one text. -/
import Derived.Test.YtfjhcoeehjephaaButMe
import Derived.Great.BuildSlice
import Derived.Test.YtfjhcoeehjephaaLeavingMe
/- The box of an automaton: 258 cells. -/
namespace Go.Proofs.Ytfjhcoeehjephaa
open Go.RowKit

def dV (f : Nat → Nat) (nx ac : Value) : List Value := bytV f ++ [nx, ac]
theorem dV_len (f : Nat → Nat) (nx ac : Value) : (dV f nx ac).length = 258 := by rw [dV, List.length_append, bytV_len]; rfl
theorem dV_cls (f : Nat → Nat) (nx ac : Value) {b : Nat} (h : b < 256) : (dV f nx ac)[b]? = some (.int .u8 ((f b : Nat) : Int)) := by
  rw [dV, List.getElem?_append_left (by rw [bytV_len]; exact h), bytV_get _ h]
theorem dV_nx (f : Nat → Nat) (nx ac : Value) : (dV f nx ac)[256]? = some nx := by
  rw [dV, List.getElem?_append_right (by rw [bytV_len]; omega), bytV_len]; rfl
theorem dV_ac (f : Nat → Nat) (nx ac : Value) : (dV f nx ac)[257]? = some ac := by
  rw [dV, List.getElem?_append_right (by rw [bytV_len]; omega), bytV_len]; rfl
theorem dV_set_nx (f : Nat → Nat) (nx ac v : Value) : (dV f nx ac).set 256 v = dV f v ac := by
  rw [dV, List.set_append_right _ _ (by rw [bytV_len]; omega), bytV_len]; rfl
theorem dV_set_ac (f : Nat → Nat) (nx ac v : Value) : (dV f nx ac).set 257 v = dV f nx v := by
  rw [dV, List.set_append_right _ _ (by rw [bytV_len]; omega), bytV_len]; rfl
theorem dV_one (f : Nat → Nat) (A A' : Option Addr) (n m c c' : Nat) : (dV f (.slice A n c) (.slice A' m c')).toArray.all (·.oneCell') = true := by
  rw [Array.all_eq_true_iff_forall_mem]
  intro x hx
  simp only [dV, bytV, List.mem_toArray, List.mem_append, List.mem_map] at hx
  rcases hx with ⟨b, _, rfl⟩ | hx
  · rfl
  · simp at hx
    rcases hx with rfl | rfl <;> rfl
def zs30 : Array Value := (dV (fun _ => 0) (.slice none 0 0) (.slice none 0 0)).toArray
theorem zs30_get (k : Nat) : zs30[k]? = (dV (fun _ => 0) (.slice none 0 0) (.slice none 0 0))[k]? := by unfold zs30; rw [List.getElem?_toArray]
set_option maxRecDepth 100000 in
theorem zeroV30 (W : World) : (zeroValue 30).run Try.prog W = .ok (.agg zs30) W := by kernel_rfl
theorem info30 : (Try.prog.info? 30).map (·.size) = some 258 := by kernel_rfl
theorem info30z : (Try.prog.info? 30).map (·.zero) = some (some (.agg zs30)) := by kernel_rfl
def loadD (v : Value) : Sem Value := Instr.loadAt 30 v
theorem load_dfa (v : Value) : Instr.loadAt 30 v = loadD v := rfl
def storeD (p v : Value) : Sem Unit := Instr.storeAt 30 p v
theorem store_dfa (p v : Value) : Instr.storeAt 30 p v = storeD p v := rfl
def buildD (a : Array (Nat × Value)) : Sem Value := Instr.build 30 a
theorem build_dfa (a : Array (Nat × Value)) : Instr.build 30 a = buildD a := rfl
theorem load30 {W : World} {g : Nat} {ds : List Value} (h : Blk W g 30 ds) (hl : ds.length = 258) : (loadD (.pointer (some ⟨g, 0, none⟩))).run Try.prog W = .ok (.agg ds.toArray) W := by
  have hr : W.rangeAt g 0 ds := fun j v hv => by rw [h.cell]; simpa using hv
  have := run_loadAt_mid W g 0 30 ds _ hr Try.underlying30 rfl (by rw [hl]; exact info30)
  unfold loadD
  rw [this]
theorem store30 {W : World} {g : Nat} {cs : List Value} (h : Blk W g 30 cs) (hc : cs.length = 258) (ds : List Value) (hd : ds.length = 258) (h1 : ds.toArray.all (·.oneCell') = true) : (storeD (.pointer (some ⟨g, 0, none⟩)) (.agg ds.toArray)).run Try.prog W = .ok () (W.setRow g ds.toArray) := by
  simp only [storeD, Instr.storeAt, Instr.sureAddr, Sem.run_bind, Sem.run_pure, Result.andThen_ok]
  exact run_storeVar_row W g 30 30 _ _ h (by rw [List.size_toArray, hd]; exact info30) (by simp [hc, hd]) h1
theorem load_var30 {W : World} {g : Nat} {ds : List Value} (h : Blk W g 30 ds) (hl : ds.length = 258) : (loadVar 30 ⟨g, 0, none⟩).run Try.prog W = .ok (.agg ds.toArray) W :=
  run_loadVar_row W g 30 30 ds.toArray (0, 0) _ h Try.underlying30 rfl (by rw [List.size_toArray, hl]; exact info30)
theorem res30 {fn : Func} {p u : Tmp} (h : fn.results = #[.cell p 30, .tmp u]) {tmps : Array Value} {W : World} {g : Nat} {ds : List Value} {b : Value} (hp : tmps.getD p undef = .pointer (some ⟨g, 0, none⟩)) (hb : tmps.getD u undef = b) (hB : Blk W g 30 ds) (hl : ds.length = 258) : (results fn tmps).run Try.prog W = .ok (.tuple #[.agg ds.toArray, b]) W := by
  rw [results_cell_tmp h, hp, hb]
  simp only [asAddr, Sem.run_pure, Result.andThen_ok]
  rw [load_var30 hB hl]
  rfl
theorem fill_step (p : Nat → Option (Nat × Nat)) {i off size : Nat} (hp : p i = some (off, size)) {v : Value} (hs : v.cells.size = size) {z : Array Value} (hle : off + size ≤ z.size) (rest : List (Nat × Value)) :
    Instr.fill p z ((i, v) :: rest) = Instr.fill p ((v.cells.toList.zipIdx 0).foldl (fun cs (x : Value × Nat) => cs.setIfInBounds (off + x.2) x.1) z) rest := by
  conv => lhs; unfold Instr.fill
  simp only [hp, hs]
  rw [if_neg (by simp; omega)]
  congr 1
  rw [← Array.foldl_toList, Array.toList_zipIdx]
theorem fill30 (f : Nat → Nat) (p : Nat → Option (Nat × Nat)) (h0 : p 0 = some (0, 256)) : Instr.fill p zs30 [(0, .agg (bytV f).toArray)] = some (dV f (.slice none 0 0) (.slice none 0 0)).toArray := by
  have hzs : zs30.size = 258 := by unfold zs30; rw [List.size_toArray, dV_len]
  have hcs : (Value.agg (bytV f).toArray).cells = (bytV f).toArray := rfl
  rw [fill_step p h0 (by rw [hcs, List.size_toArray, bytV_len]) (by omega), hcs, List.toList_toArray]
  obtain ⟨g1, g2⟩ := Great.foldl_set 0 (bytV f) 0 zs30
  obtain ⟨r, hr⟩ : ∃ r, r = (((bytV f).zipIdx 0).foldl (fun cs (x : Value × Nat) => cs.setIfInBounds (0 + x.2) x.1) zs30) := ⟨_, rfl⟩
  rw [← hr] at g1 g2 ⊢
  obtain ⟨t, ht⟩ : ∃ t, t = dV f (.slice none 0 0) (.slice none 0 0) := ⟨_, rfl⟩
  have htl : t.length = 258 := by rw [ht, dV_len]
  rw [← ht]
  have hz := zs30_get
  generalize zs30 = z at g1 g2 hzs hz
  clear hr
  unfold Instr.fill
  refine congrArg some ?_
  apply Array.ext_getElem?
  intro k
  have h8 : t.toArray[k]? = t[k]? := by simp
  rw [g2 k, h8]
  have hbl := bytV_len f
  by_cases e2 : k < 256
  · rw [ht, dV_cls _ _ _ e2, if_pos (by omega)]
    have := bytV_get f e2
    simpa using this
  · rw [if_neg (by omega), hz k]
    by_cases e3 : k = 256
    · subst e3; rw [ht, dV_nx, dV_nx]
    · by_cases e4 : k = 257
      · subst e4; rw [ht, dV_ac, dV_ac]
      · rw [List.getElem?_eq_none (by rw [dV_len]; omega), List.getElem?_eq_none (by omega)]
theorem buildD_run (f : Nat → Nat) (W : World) : (buildD #[(0, .agg (bytV f).toArray)]).run Try.prog W = .ok (.agg (dV f (.slice none 0 0) (.slice none 0 0)).toArray) W := by
  unfold buildD
  refine run_build W 30 _ _ ?_
  unfold Program.built
  have hz := info30z
  cases hi : Try.prog.info? 30 with
  | none => rw [hi] at hz; cases hz
  | some it =>
    rw [hi] at hz
    have hz : it.zero = some (.agg zs30) := by injection hz
    rw [Try.underlying30]
    simp only [hz]
    rw [show (Array.toList _ : List Field).mapM (fun f => (Try.prog.info? f.type).map fun i => (f.offset, i.size)) = some [(0, 256), (256, 1), (257, 1)] by kernel_rfl]
    exact fill30 f _ rfl
theorem buildD_nil (W : World) : (buildD #[]).run Try.prog W = .ok (.agg zs30) W := run_build W 30 #[] _ (by kernel_rfl)
end Go.Proofs.Ytfjhcoeehjephaa
/- dfa.Build: what is read of its rows behind the first loop. -/
namespace Go.Proofs.Ytfjhcoeehjephaa
open Go.RowKit

theorem Arr.congr {w : World} {B size n : Nat} {A : Option Addr} {C C' : Nat → Nat → Value} (h : Arr w B size A n C) (he : ∀ k j, k < n → j < size → C k j = C' k j) : Arr w B size A n C' := fun hn => by
  obtain ⟨b, off, e, hlt, hc⟩ := h hn
  exact ⟨b, off, e, hlt, fun k j hk hj => (hc k j hk hj).trans (congrArg some (he k j hk hj))⟩
theorem own_nums {w : World} {base c n : Nat} {e : TypeId} {A : Option Addr} {l : List Int} (h : w.ownsRow base e 1 (.slice A n c) n (numsV .i64 l)) : Arr w w.heap.size 1 A n (NumC .i64 l) := by
  have hl : l.length = n := by have := h.1; simp only [numsV, List.length_map] at this; omega
  refine (Arr.of_own h).congr (fun k j hk _ => ?_)
  simp [numsV, NumC, show k < l.length by omega]
/-- rows of edges that read, read only -/
structure RowsO (E : List Ed) (S : Nat) (w : World) (A : Option Addr) (RA : Nat → Option Addr) (rc : Nat → Nat) : Prop where
  arr : Arr w w.heap.size 1 A S (fun k _ => .slice (RA k) (overE E k).length (rc k))
  row : ∀ k, k < S → Arr w w.heap.size 7 (RA k) (overE E k).length (EdC (overE E k))
theorem RowsO.keep {E : List Ed} {S : Nat} {w w' : World} {A : Option Addr} {RA : Nat → Option Addr} {rc : Nat → Nat} (h : RowsO E S w A RA rc) (hb : Below w.heap.size w w') : RowsO E S w' A RA rc :=
  ⟨(h.arr.below hb).more hb.size, fun k hk => ((h.row k hk).below hb).more hb.size⟩
theorem own_form {w : World} {base size n : Nat} {e : TypeId} {v : Value} {xs : List Value} (h : w.ownsRow base e size v n xs) : v = .slice (sA v) n (sC v) := by
  rcases h.2 with ⟨h1, h2⟩ | ⟨g, cap, cur, h1, _⟩
  · rw [h1, h2]; rfl
  · rw [h1]; rfl
theorem own_off {w : World} {base size n c : Nat} {e : TypeId} {A : Option Addr} {xs : List Value} (h : w.ownsRow base e size (.slice A n c) n xs) : (A = none ∧ n = 0) ∨ ∃ g, A = some ⟨g, 0, none⟩ := by
  rcases h.2 with ⟨h1, h2⟩ | ⟨g, cap, cur, h1, _⟩
  · injection h1 with h3; exact .inl ⟨h3, h2⟩
  · injection h1 with h3; exact .inr ⟨g, h3⟩
section
variable {W0 W : World} {gN gR gF gO S : Nat} {cN cR cF vF cO vO : List Value} {vs : Value} {E : List Ed} {ov : Nat → List Ed} {fr : Nat → List Int} {sets : List Quad}
theorem BI.rowsI (h : BI W0 gN gR gF gO S cN cR vF vF cO vO vs (freeD E) ov sets W) : RowsI E S W (some ⟨gF, 0, none⟩) (fun k => sA (vF.getD k undef)) (fun k => sC (vF.getD k undef)) := by
  refine ⟨fun _ => ⟨gF, 0, rfl, h.blkF.lt, fun k j hk hj => ?_⟩, fun k hk => ?_⟩
  · obtain rfl : j = 0 := by omega
    rw [show 0 + (k * 1 + 0) = k by omega, h.cellF hk]
    exact congrArg some (own_form (h.ownF k hk))
  · have := h.ownF k hk
    rw [own_form this] at this
    exact own_nums this
theorem BI.rowsO (h : BI W0 gN gR gF gO S cN cR cF vF vO vO vs fr (overE E) sets W) : RowsO E S W (some ⟨gO, 0, none⟩) (fun k => sA (vO.getD k undef)) (fun k => sC (vO.getD k undef)) := by
  refine ⟨fun _ => ⟨gO, 0, rfl, h.blkO.lt, fun k j hk hj => ?_⟩, fun k hk => ?_⟩
  · obtain rfl : j = 0 := by omega
    rw [show 0 + (k * 1 + 0) = k by omega, h.cellO hk]
    exact congrArg some (own_form (h.ownO k hk))
  · have := h.ownO k hk
    rw [own_form this] at this
    exact own_eds this
theorem BI.setsA (h : BI W0 gN gR gF gO S cN cR cF vF cO vO vs fr ov sets W) : vs = .slice (sA vs) sets.length (sC vs) ∧ Arr W W.heap.size 4 (sA vs) sets.length (QdC sets) := by
  have h9 := h.ownS
  have hf := own_form h9
  refine ⟨hf, ?_⟩
  rw [hf] at h9
  exact own_quads h9
end
/-- the cells of least: places of a class's bytes -/
def leastV (many : Nat) (ls : Nat → Nat) : List Value := (List.range many).map (fun c => .int .u8 ((ls c : Nat) : Int))
theorem leastV_get {many : Nat} (ls : Nat → Nat) {c : Nat} (h : c < many) : (leastV many ls)[c]? = some (.int .u8 ((ls c : Nat) : Int)) := by simp [leastV, h]
theorem leastV_set (many : Nat) (ls : Nat → Nat) (c x : Nat) : (leastV many ls).set c (.int .u8 (x : Int)) = leastV many (fun j => if j = c then x else ls j) := by
  apply List.ext_getElem?
  intro j
  rw [List.getElem?_set]
  by_cases h : j < many
  · rw [leastV_get _ h]
    by_cases e : c = j
    · subst e
      rw [if_pos rfl, show (leastV many ls).length = many by simp [leastV], if_pos h, leastV_get _ h, if_pos rfl]
    · rw [if_neg e, leastV_get _ h, if_neg (fun h => e h.symm)]
  · have h1 : (leastV many ls)[j]? = none := List.getElem?_eq_none (by simp [leastV]; omega)
    have h2 : (leastV many (fun j => if j = c then x else ls j))[j]? = none := List.getElem?_eq_none (by simp [leastV]; omega)
    rw [h2]
    by_cases e : c = j
    · rw [if_pos e, show (leastV many ls).length = many by simp [leastV], if_neg (by omega)]
    · rw [if_neg e, h1]
/-- from byte b on the least of each class has been found -/
def LeastOk (cls : Nat → Nat) (ls : Nat → Nat) (b : Nat) : Prop := (∀ c, ls c < 256) ∧ ∀ b', b ≤ b' → b' < 256 → cls (ls (cls b')) = cls b'
theorem least_start (cls : Nat → Nat) : LeastOk cls (fun _ => 0) 256 := ⟨fun _ => show 0 < 256 by omega, fun b' h1 h2 => by omega⟩
theorem least_step {cls ls : Nat → Nat} {b : Nat} (hb : b < 256) (h : LeastOk cls ls (b + 1)) : LeastOk cls (fun j => if j = cls b then b else ls j) b := by
  refine ⟨fun c => ?_, fun b' h1 h2 => ?_⟩
  · show (if c = cls b then b else ls c) < 256
    split
    · exact hb
    · exact h.1 c
  · show cls (if cls b' = cls b then b else ls (cls b')) = cls b'
    by_cases e : cls b' = cls b
    · rw [if_pos e, e]
    · rw [if_neg e]
      refine h.2 b' ?_ h2
      rcases Nat.lt_or_ge b b' with h9 | h9
      · exact h9
      · exact absurd (by rw [show b' = b by omega]) e
/-- what the main loop of Build reads -/
structure BEnv (E : List Ed) (S : Nat) (cN : List Value) (cls : Nat → Nat) (many : Nat) (ls : Nat → Nat) (gN gF gO gC gL : Nat) (RA RB : Nat → Option Addr) (rc rd : Nat → Nat) (w : World) : Prop where
  fr : RowsI E S w (some ⟨gF, 0, none⟩) RA rc
  ov : RowsO E S w (some ⟨gO, 0, none⟩) RB rd
  bn : Blk w gN 24 cN
  bc : Blk w gC 26 (bytV cls)
  bl : Blk w gL 5 (leastV many ls)
theorem BEnv.keep {E : List Ed} {S : Nat} {cN : List Value} {cls : Nat → Nat} {many : Nat} {ls : Nat → Nat} {gN gF gO gC gL : Nat} {RA RB : Nat → Option Addr} {rc rd : Nat → Nat} {w w' : World}
    (h : BEnv E S cN cls many ls gN gF gO gC gL RA RB rc rd w) (hb : Below w.heap.size w w') : BEnv E S cN cls many ls gN gF gO gC gL RA RB rc rd w' :=
  ⟨h.fr.keep hb, h.ov.keep hb, h.bn.below hb h.bn.lt, h.bc.below hb h.bc.lt, h.bl.below hb h.bl.lt⟩
theorem keyed9 : Maps.Keyed Try.prog 9 := Maps.string_keyed Try.underlying9
/-- 'm[k] = v' in a literal, by its run -/
theorem wpList_ins (w w' : World) {ops : Array Oper} {rest : List Oper} {o : Oper} {a : Act} {Q : Exit → Act → World → Prop} (hgd : o.guard = none) (m k x : Operand) (t : TypeId) (hop : o.op = Op.insert t m k x) (mv kv xv : Value) (hm : a.eval m = mv) (hk : a.eval k = kv) (hx : a.eval x = xv)
    (hrun : (Instr.mapUpdate t mv kv xv).run Try.prog w = .ok () w') (h : wpList Try.prog ops Q rest (a.put o.dst undef) w') : wpList Try.prog ops Q (o :: rest) a w := by
  refine wpList_plain hgd fun K' hK' => ?_
  unfold Oper.wp
  simp [execOp, hop, hm, hk, hx, hrun, Result.andThen]
  exact hK' _ _ h
theorem closN_len (E : List Ed) (S : Nat) (L : List Int) : (closN E S L).length ≤ S := by
  unfold closN
  exact Nat.le_trans (List.length_filter_le _ _) (by simp)
end Go.Proofs.Ytfjhcoeehjephaa
/- dfa.Build: memory of its main loop. -/
namespace Go.Proofs.Ytfjhcoeehjephaa
open Go.RowKit Go.Maps Go.WideMaps

/-- what the main loop has made: its sets, their rows, the marks, the map; F: blocks of numbers that are still written -/
structure ML (w0 : World) (gD gm : Nat) (cls : Nat → Nat) (vall vnx vac : Value) (sA sN : List Value) (all : List (List Nat)) (next : List (List Int)) (acc : List Bool) (n : Nat) (D : DataW Unit) (F : Nat → Prop) (W : World) : Prop where
  bel : Below w0.heap.size w0 W
  hD : w0.heap.size ≤ gD
  hm : w0.heap.size ≤ gm
  box : Blk W gD 30 (dV cls vnx vac)
  map : W.ownsMap Try.prog 9 (plainElem (H := Unit) Try.prog 3) gm n D
  ownA : W.ownsRow w0.heap.size 36 1 vall all.length sA
  ownN : W.ownsRow w0.heap.size 36 1 vnx next.length sN
  ownC : W.ownsRow w0.heap.size 4 1 vac acc.length (acc.map Value.bool)
  ap : ∀ b, vall.ownBlock = some b → vnx.ownBlock ≠ some b
  rowA : ∀ k, k < all.length → W.ownsRow w0.heap.size 3 1 (sA.getD k undef) (all.getD k []).length (numsV .i64 (natL (all.getD k [])))
  rowN : ∀ k, k < next.length → W.ownsRow w0.heap.size 3 1 (sN.getD k undef) (next.getD k []).length (numsV .i64 (next.getD k []))
  frA : ∀ k, k < all.length → ∀ b, (sA.getD k undef).ownBlock = some b → ¬ F b
  frN : ∀ k, k < next.length → ∀ b, (sN.getD k undef).ownBlock = some b → ¬ F b
section
variable {w0 W W' : World} {gD gm : Nat} {cls : Nat → Nat} {vall vnx vac : Value} {sA sN : List Value} {all : List (List Nat)} {next : List (List Int)} {acc : List Bool} {n : Nat} {D : DataW Unit} {F : Nat → Prop}
theorem ML.go (h : ML w0 gD gm cls vall vnx vac sA sN all next acc n D F W) (hb : Below W.heap.size W W') : ML w0 gD gm cls vall vnx vac sA sN all next acc n D F W' :=
  ⟨h.bel.trans (hb.mono h.bel.size), h.hD, h.hm, h.box.below hb h.box.lt, h.map.kept (row := none) ⟨hb.os, hb.tape, hb.output, hb.size, fun b hb' _ => hb.block b hb'⟩ (by simp), own_kept h.ownA hb, own_kept h.ownN hb, own_kept h.ownC hb, h.ap,
    fun k hk => own_kept (h.rowA k hk) hb, fun k hk => own_kept (h.rowN k hk) hb, h.frA, h.frN⟩
theorem ML.alloc (h : ML w0 gD gm cls vall vnx vac sA sN all next acc n D F W) (o : Obj) : ML w0 gD gm cls vall vnx vac sA sN all next acc n D F (W.alloc o) := h.go ((Below.refl _ _).alloc (Nat.le_refl _) o)
/-- a row of numbers that is still written has grown -/
theorem ML.grow3 (h : ML w0 gD gm cls vall vnx vac sA sN all next acc n D F W) {v : Value} {m : Nat} {xs : List Value} (hv : W.ownsRow w0.heap.size 3 1 v m xs) (hF : ∀ b, v.ownBlock = some b → F b) (hg : W.grownBy W' v.ownBlock) : ML w0 gD gm cls vall vnx vac sA sN all next acc n D F W' := by
  have hb := But.of_grown hg
  exact ⟨h.bel.grown hg h.bel.size (fun k hk => (hv.lt k hk).1), h.hD, h.hm, hb.blk h.box (blk_own_ne h.box hv (by decide)), hb.maps h.map (map_own_ne h.map hv), kept_ne hg h.ownA (own_own_ne hv h.ownA (by decide)), kept_ne hg h.ownN (own_own_ne hv h.ownN (by decide)), kept_ne hg h.ownC (own_own_ne hv h.ownC (by decide)), h.ap,
    fun k hk => kept_ne hg (h.rowA k hk) (fun b e e2 => h.frA k hk b e2 (hF b e)), fun k hk => kept_ne hg (h.rowN k hk) (fun b e e2 => h.frN k hk b e2 (hF b e)), h.frA, h.frN⟩
/-- a cell of a block of numbers that is still written -/
theorem ML.cell3 (h : ML w0 gD gm cls vall vnx vac sA sN all next acc n D F W) {g j : Nat} {cur : List Value} (hb : Blk W g 3 cur) (hg : w0.heap.size ≤ g) (hF : F g) (u : Value) : ML w0 gD gm cls vall vnx vac sA sN all next acc n D F (W.setCell ⟨g, j, none⟩ u) := by
  have hgr := grownBy_setCell W g j u
  exact ⟨below_sc h.bel hg _, h.hD, h.hm, blk_cell hb h.box (by decide), h.map.setCell (fun e => map_blk_ne h.map hb e) u, kept_cell hb h.ownA (by decide), kept_cell hb h.ownN (by decide), kept_cell hb h.ownC (by decide), h.ap,
    fun k hk => kept_ne hgr (h.rowA k hk) (fun b e e2 => h.frA k hk b e2 (by cases e; exact hF)), fun k hk => kept_ne hgr (h.rowN k hk) (fun b e e2 => h.frN k hk b e2 (by cases e; exact hF)), h.frA, h.frN⟩
/-- the map has a key more -/
theorem ML.put (h : ML w0 gD gm cls vall vnx vac sA sN all next acc n D F W) {n' : Nat} {D' : DataW Unit} (hg : W.grownBy W' (some gm)) (hm : W'.ownsMap Try.prog 9 (plainElem (H := Unit) Try.prog 3) gm n' D') : ML w0 gD gm cls vall vnx vac sA sN all next acc n' D' F W' := by
  have hk : ∀ {e base size m : Nat} {v : Value} {xs : List Value}, W.ownsRow base e size v m xs → W'.ownsRow base e size v m xs := fun ho => kept_ne hg ho (fun b e e2 => by cases e; exact map_own_ne h.map ho e2)
  exact ⟨h.bel.grown hg h.bel.size (fun k e => by cases e; exact h.hm), h.hD, h.hm, h.box.same (hg.block _ h.box.lt (fun e => map_blk_ne h.map h.box (by cases e; rfl))), hm, hk h.ownA, hk h.ownN, hk h.ownC, h.ap, fun k h9 => hk (h.rowA k h9), fun k h9 => hk (h.rowN k h9), h.frA, h.frN⟩
/-- fewer blocks are still written -/
theorem ML.less (h : ML w0 gD gm cls vall vnx vac sA sN all next acc n D F W) {F' : Nat → Prop} (hF : ∀ b, b < W.heap.size → F' b → F b) : ML w0 gD gm cls vall vnx vac sA sN all next acc n D F' W :=
  ⟨h.bel, h.hD, h.hm, h.box, h.map, h.ownA, h.ownN, h.ownC, h.ap, h.rowA, h.rowN, fun k hk b hb h9 => h.frA k hk b hb (hF b ((h.rowA k hk).lt b hb).2 h9), fun k hk b hb h9 => h.frN k hk b hb (hF b ((h.rowN k hk).lt b hb).2 h9)⟩
end
theorem own_base {w : World} {base base' size n : Nat} {e : TypeId} {v : Value} {xs : List Value} (h : w.ownsRow base e size v n xs) (hb : base' ≤ base) : w.ownsRow base' e size v n xs := by
  refine ⟨h.1, ?_⟩
  rcases h.2 with h1 | ⟨g, cap, cur, h1, h2, h3⟩
  · exact .inl h1
  · exact .inr ⟨g, cap, cur, h1, Nat.le_trans hb h2, h3⟩
/-- the main loop's first memory -/
theorem ml_start {w0 w7 w8 : World} {gD g8 nx c8 : Nat} {a : Int} {cls : Nat → Nat} {X : List Nat} (hb7 : Below w0.heap.size w0 w7) (hD : w0.heap.size ≤ gD) (hd : Blk w7 gD 30 (dV cls (.slice none 0 0) (.slice none 0 0)))
    (hb8 : Below (w7.alloc (.cells #[.int .i64 a] 3)).heap.size (w7.alloc (.cells #[.int .i64 a] 3)) w8) (hX : nx = X.length)
    (ho : w8.ownsRow (w7.alloc (.cells #[.int .i64 a] 3)).heap.size 3 1 (.slice (some ⟨g8, 0, none⟩) nx c8) nx (numsV .i64 (natL X)))
    (hm : ((w8.alloc (.cells #[.slice (some ⟨g8, 0, none⟩) nx c8] 36)).alloc (.map #[] 0)).ownsMap Try.prog 9 (plainElem (H := Unit) Try.prog 3) (w8.heap.size + 1) 0 (.map [])) :
    ML w0 gD (w8.heap.size + 1) cls (.slice (some ⟨w8.heap.size, 0, none⟩) 1 1) (.slice none 0 0) (.slice none 0 0) [.slice (some ⟨g8, 0, none⟩) nx c8] [] [X] [] [] 0 (.map []) (fun _ => False) ((w8.alloc (.cells #[.slice (some ⟨g8, 0, none⟩) nx c8] 36)).alloc (.map #[] 0)) := by
  have h7 : Below w0.heap.size w0 (w7.alloc (.cells #[.int .i64 a] 3)) := hb7.alloc hb7.size _
  have h8 : Below w0.heap.size w0 w8 := h7.trans (hb8.mono h7.size)
  have hs := h8.size
  refine ⟨(h8.alloc hs _).alloc (by simp; omega) _, hD, by omega, (((hd.alloc _).below hb8 (hd.alloc _).lt).alloc _).alloc _, hm, ?_, World.ownsRow_nil _ _ _ _, World.ownsRow_nil _ _ _ _, fun b _ => by simp [Value.ownBlock], fun k hk => ?_, fun k hk => absurd hk (by simp), fun k _ b _ h9 => h9, fun k _ b _ h9 => h9⟩
  · exact (World.ownsRow_lit w8 #[.slice (some ⟨g8, 0, none⟩) nx c8] 1 hs (by decide) (by simp)).alloc _
  · obtain rfl : k = 0 := by simpa using hk
    have h9 := ((own_base ho h7.size).alloc (.cells #[.slice (some ⟨g8, 0, none⟩) nx c8] 36)).alloc (.map #[] 0)
    show World.ownsRow _ _ 3 1 (.slice (some ⟨g8, 0, none⟩) nx c8) X.length _
    rw [← hX]
    exact h9
section
variable {w0 W W' : World} {gD gm : Nat} {cls : Nat → Nat} {vall vnx vac : Value} {sA sN : List Value} {all : List (List Nat)} {next : List (List Int)} {acc : List Bool} {n : Nat} {D : DataW Unit} {F : Nat → Prop}
theorem getD_app {α : Type} {d x : α} {l : List α} {k : Nat} : (l ++ [x]).getD k d = if k < l.length then l.getD k d else if k = l.length then x else d := by
  by_cases h : k < l.length
  · rw [if_pos h]; simp [List.getD_eq_getElem?_getD, List.getElem?_append_left h]
  · rw [if_neg h]
    by_cases e : k = l.length
    · subst e; rw [if_pos rfl]; simp
    · rw [if_neg e]; simp [List.getD_eq_getElem?_getD, List.getElem?_eq_none (show (l ++ [x]).length ≤ k by simp; omega)]
/-- a set has come to the list -/
theorem ML.addA (h : ML w0 gD gm cls vall vnx vac sA sN all next acc n D F W) {v : Value} {X : List Nat} {g5 c5 : Nat} (hv : W.ownsRow w0.heap.size 3 1 v X.length (numsV .i64 (natL X))) (hF : ∀ b, v.ownBlock = some b → ¬ F b)
    (hown : W'.ownsRow w0.heap.size 36 1 (.slice (some ⟨g5, 0, none⟩) (all.length + 1) c5) (all.length + 1) (sA ++ [v])) (hg : W.grownBy W' vall.ownBlock) (hat : vall.ownBlock = some g5 ∨ g5 = W.heap.size) :
    ML w0 gD gm cls (.slice (some ⟨g5, 0, none⟩) (all.length + 1) c5) vnx vac (sA ++ [v]) sN (all ++ [X]) next acc n D F W' := by
  have hb := But.of_grown hg
  have hA := h.ownA
  have hlA : sA.length = all.length := by have := hA.1; omega
  have h3 : ∀ {m : Nat} {u : Value} {xs : List Value}, W.ownsRow w0.heap.size 3 1 u m xs → W'.ownsRow w0.heap.size 3 1 u m xs := fun ho => kept_ne hg ho (own_own_ne hA ho (by decide))
  refine ⟨h.bel.grown hg h.bel.size (fun k hk => (hA.lt k hk).1), h.hD, h.hm, hb.blk h.box (blk_own_ne h.box hA (by decide)), hb.maps h.map (map_own_ne h.map hA), by rw [List.length_append]; exact hown, kept_ne hg h.ownN h.ap, kept_ne hg h.ownC (own_own_ne hA h.ownC (by decide)), fun b hb9 hn => ?_, fun k hk => ?_, fun k hk => h3 (h.rowN k hk), fun k hk b hb9 => ?_, h.frN⟩
  · obtain rfl : g5 = b := by simpa [Value.ownBlock] using hb9
    rcases hat with hat | hat
    · exact h.ap g5 hat hn
    · have := (h.ownN.lt g5 hn).2; omega
  · rw [List.length_append, List.length_singleton] at hk
    rw [getD_app, getD_app, hlA]
    by_cases e : k < all.length
    · rw [if_pos e, if_pos e]; exact h3 (h.rowA k e)
    · rw [if_neg e, if_neg e, if_pos (by omega), if_pos (by omega)]; exact h3 hv
  · rw [List.length_append, List.length_singleton] at hk
    rw [getD_app, hlA] at hb9
    by_cases e : k < all.length
    · rw [if_pos e] at hb9; exact h.frA k e b hb9
    · rw [if_neg e, if_pos (by omega)] at hb9; exact hF b hb9
end
section
variable {w0 W W' : World} {gD gm : Nat} {cls : Nat → Nat} {vall vnx vac : Value} {sA sN : List Value} {all : List (List Nat)} {next : List (List Int)} {acc : List Bool} {n : Nat} {D : DataW Unit} {F : Nat → Prop}
/-- a row has come to the automaton: appended, then told in the box -/
theorem ML.addN (h : ML w0 gD gm cls vall vnx vac sA sN all next acc n D F W) {v : Value} {R : List Int} {g5 c5 : Nat} (hv : W.ownsRow w0.heap.size 3 1 v R.length (numsV .i64 R)) (hF : ∀ b, v.ownBlock = some b → ¬ F b)
    (hown : W'.ownsRow w0.heap.size 36 1 (.slice (some ⟨g5, 0, none⟩) (next.length + 1) c5) (next.length + 1) (sN ++ [v])) (hg : W.grownBy W' vnx.ownBlock) (hat : vnx.ownBlock = some g5 ∨ g5 = W.heap.size) :
    ML w0 gD gm cls vall (.slice (some ⟨g5, 0, none⟩) (next.length + 1) c5) vac sA (sN ++ [v]) all (next ++ [R]) acc n D F (W'.setCell ⟨gD, 256, none⟩ (.slice (some ⟨g5, 0, none⟩) (next.length + 1) c5)) := by
  have hb := But.of_grown hg
  have hN := h.ownN
  have hlN : sN.length = next.length := by have := hN.1; omega
  have hbx := hb.blk h.box (blk_own_ne h.box hN (by decide))
  have h3 : ∀ {m : Nat} {u : Value} {xs : List Value}, W.ownsRow w0.heap.size 3 1 u m xs → (W'.setCell ⟨gD, 256, none⟩ (.slice (some ⟨g5, 0, none⟩) (next.length + 1) c5)).ownsRow w0.heap.size 3 1 u m xs := fun ho => kept_cell hbx (kept_ne hg ho (own_own_ne hN ho (by decide))) (by decide)
  refine ⟨below_sc (h.bel.grown hg h.bel.size (fun k hk => (hN.lt k hk).1)) h.hD _, h.hD, h.hm, ?_, (hb.maps h.map (map_own_ne h.map hN)).setCell (fun e => map_blk_ne (hb.maps h.map (map_own_ne h.map hN)) hbx e) _, kept_cell hbx (kept_ne hg h.ownA (fun b e e2 => h.ap b e2 e)) (by decide), by rw [List.length_append]; exact kept_cell hbx hown (by decide), kept_cell hbx (kept_ne hg h.ownC (own_own_ne hN h.ownC (by decide))) (by decide), fun b hb9 hn => ?_, fun k hk => h3 (h.rowA k hk), fun k hk => ?_, h.frA, fun k hk b hb9 => ?_⟩
  · have := hbx.set 256 (.slice (some ⟨g5, 0, none⟩) (next.length + 1) c5)
    rw [dV_set_nx] at this
    exact this
  · obtain rfl : g5 = b := by simpa [Value.ownBlock] using hn
    rcases hat with hat | hat
    · exact h.ap g5 hb9 hat
    · have := (h.ownA.lt g5 hb9).2; omega
  · rw [List.length_append, List.length_singleton] at hk
    rw [getD_app, getD_app, hlN]
    by_cases e : k < next.length
    · rw [if_pos e, if_pos e]; exact h3 (h.rowN k e)
    · rw [if_neg e, if_neg e, if_pos (by omega), if_pos (by omega)]; exact h3 hv
  · rw [List.length_append, List.length_singleton] at hk
    rw [getD_app, hlN] at hb9
    by_cases e : k < next.length
    · rw [if_pos e] at hb9; exact h.frN k e b hb9
    · rw [if_neg e, if_pos (by omega)] at hb9; exact hF b hb9
/-- a mark has come -/
theorem ML.addC (h : ML w0 gD gm cls vall vnx vac sA sN all next acc n D F W) {x : Bool} {g5 c5 : Nat}
    (hown : W'.ownsRow w0.heap.size 4 1 (.slice (some ⟨g5, 0, none⟩) (acc.length + 1) c5) (acc.length + 1) (acc.map Value.bool ++ [.bool x])) (hg : W.grownBy W' vac.ownBlock) :
    ML w0 gD gm cls vall vnx (.slice (some ⟨g5, 0, none⟩) (acc.length + 1) c5) sA sN all next (acc ++ [x]) n D F (W'.setCell ⟨gD, 257, none⟩ (.slice (some ⟨g5, 0, none⟩) (acc.length + 1) c5)) := by
  have hb := But.of_grown hg
  have hC := h.ownC
  have hbx := hb.blk h.box (blk_own_ne h.box hC (by decide))
  have h3 : ∀ {m : Nat} {u : Value} {xs : List Value}, W.ownsRow w0.heap.size 3 1 u m xs → (W'.setCell ⟨gD, 257, none⟩ (.slice (some ⟨g5, 0, none⟩) (acc.length + 1) c5)).ownsRow w0.heap.size 3 1 u m xs := fun ho => kept_cell hbx (kept_ne hg ho (own_own_ne hC ho (by decide))) (by decide)
  refine ⟨below_sc (h.bel.grown hg h.bel.size (fun k hk => (hC.lt k hk).1)) h.hD _, h.hD, h.hm, ?_, (hb.maps h.map (map_own_ne h.map hC)).setCell (fun e => map_blk_ne (hb.maps h.map (map_own_ne h.map hC)) hbx e) _, kept_cell hbx (kept_ne hg h.ownA (own_own_ne hC h.ownA (by decide))) (by decide), kept_cell hbx (kept_ne hg h.ownN (own_own_ne hC h.ownN (by decide))) (by decide), ?_, h.ap, fun k hk => h3 (h.rowA k hk), fun k hk => h3 (h.rowN k hk), h.frA, h.frN⟩
  · have := hbx.set 257 (.slice (some ⟨g5, 0, none⟩) (acc.length + 1) c5)
    rw [dV_set_ac] at this
    exact this
  · rw [List.length_append, List.map_append]
    exact kept_cell hbx hown (by decide)
end
end Go.Proofs.Ytfjhcoeehjephaa
