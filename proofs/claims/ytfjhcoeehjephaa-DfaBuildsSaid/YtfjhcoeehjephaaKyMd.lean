/- Boxes of 256 bytes; keys of maps: pairs, sets, texts. -/
import Derived.Test.YtfjhcoeehjephaaNameAMd
import Derived.Laws.Tables
import Derived.Deep.MidRow
import Derived.Laws.CopyOwn
import Derived.Laws.ResultCell
import Derived.Maps.OwnOps
import Derived.Maps.OwnSet
import Derived.DeepKeys4
import Derived.ChangeKeys
namespace Go.Proofs.Ytfjhcoeehjephaa
open Go.RowKit Go.Maps Go.WideMaps

def bytV (f : Nat → Nat) : List Value := (List.range 256).map (fun b => .int .u8 ((f b : Nat) : Int))
theorem bytV_len (f : Nat → Nat) : (bytV f).length = 256 := by simp [bytV]
theorem bytV_get (f : Nat → Nat) {b : Nat} (h : b < 256) : (bytV f)[b]? = some (.int .u8 ((f b : Nat) : Int)) := by simp [bytV, h]
theorem bytV_set (f : Nat → Nat) (b x : Nat) : (bytV f).set b (.int .u8 (x : Int)) = bytV (fun j => if j = b then x else f j) := by
  apply List.ext_getElem?
  intro j
  rw [List.getElem?_set]
  by_cases h : j < 256
  · rw [bytV_get _ h]
    by_cases e : b = j
    · subst e
      rw [if_pos rfl, bytV_len, if_pos h, bytV_get _ h, if_pos rfl]
    · rw [if_neg e, bytV_get _ h, if_neg (fun h => e h.symm)]
  · have h1 : (bytV f)[j]? = none := List.getElem?_eq_none (by rw [bytV_len]; omega)
    have h2 : (bytV (fun j => if j = b then x else f j))[j]? = none := List.getElem?_eq_none (by rw [bytV_len]; omega)
    rw [h2]
    by_cases e : b = j
    · rw [if_pos e, bytV_len, if_neg (by omega)]
    · rw [if_neg e, h1]
theorem bytV_congr {f g : Nat → Nat} (h : ∀ j, j < 256 → f j = g j) : bytV f = bytV g := by
  unfold bytV
  apply List.map_congr_left
  intro j hj
  rw [h j (List.mem_range.1 hj)]
theorem bytV_one (f : Nat → Nat) : (bytV f).toArray.all (·.oneCell') = true := by
  rw [Array.all_eq_true_iff_forall_mem]
  intro x hx
  simp only [bytV, List.mem_toArray, List.mem_map] at hx
  obtain ⟨b, _, rfl⟩ := hx
  rfl
def zs26 : Array Value := (bytV (fun _ => 0)).toArray
set_option maxRecDepth 100000 in
theorem zeroV26 (W : World) : (zeroValue 26).run Try.prog W = .ok (.agg zs26) W := by kernel_rfl
theorem info26 : (Try.prog.info? 26).map (·.size) = some 256 := by kernel_rfl
def loadBox (v : Value) : Sem Value := Instr.loadAt 26 v
theorem load_box (v : Value) : Instr.loadAt 26 v = loadBox v := rfl
def storeBox (p v : Value) : Sem Unit := Instr.storeAt 26 p v
theorem store_box (p v : Value) : Instr.storeAt 26 p v = storeBox p v := rfl
theorem load26 {W : World} {g : Nat} {f : Nat → Nat} (h : Blk W g 26 (bytV f)) : (loadBox (.pointer (some ⟨g, 0, none⟩))).run Try.prog W = .ok (.agg (bytV f).toArray) W := by
  have hr : W.rangeAt g 0 (bytV f) := fun j v hv => by rw [h.cell]; simpa using hv
  have := run_loadAt_mid W g 0 26 (bytV f) _ hr Try.underlying26 rfl (by rw [bytV_len]; exact info26)
  unfold loadBox
  rw [this]
theorem Blk.row {W : World} {g : Nat} {t : TypeId} {cs : List Value} (h : Blk W g t cs) (ds : Array Value) : Blk (W.setRow g ds) g t ds.toList := setRow_heap W g _ _ t _ h
theorem Blk.row_other {W : World} {g g' : Nat} {t : TypeId} {cs : List Value} (h : Blk W g t cs) (ds : Array Value) (hg : g ≠ g') : Blk (W.setRow g' ds) g t cs := (setRow_other W g' g ds hg).trans h
theorem store26 {W : World} {g : Nat} {e f : Nat → Nat} (h : Blk W g 26 (bytV e)) : (storeBox (.pointer (some ⟨g, 0, none⟩)) (.agg (bytV f).toArray)).run Try.prog W = .ok () (W.setRow g (bytV f).toArray) := by
  simp only [storeBox, Instr.storeAt, Instr.sureAddr, Sem.run_bind, Sem.run_pure, Result.andThen_ok]
  exact run_storeVar_row W g 26 26 _ _ h (by rw [List.size_toArray, bytV_len]; exact info26) (by simp [bytV_len]) (bytV_one f)
theorem load_var26 {W : World} {g : Nat} {f : Nat → Nat} (h : Blk W g 26 (bytV f)) : (loadVar 26 ⟨g, 0, none⟩).run Try.prog W = .ok (.agg (bytV f).toArray) W :=
  run_loadVar_row W g 26 26 (bytV f).toArray (0, 0) _ h Try.underlying26 rfl (by rw [List.size_toArray, bytV_len]; exact info26)

theorem res26 {fn : Func} {p u : Tmp} (h : fn.results = #[.cell p 26, .tmp u]) {tmps : Array Value} {W : World} {g : Nat} {f : Nat → Nat} {b : Value} (hp : tmps.getD p undef = .pointer (some ⟨g, 0, none⟩)) (hb : tmps.getD u undef = b) (hB : Blk W g 26 (bytV f)) : (results fn tmps).run Try.prog W = .ok (.tuple #[.agg (bytV f).toArray, b]) W := by
  rw [results_cell_tmp h, hp, hb]
  simp only [asAddr, Sem.run_pure, Result.andThen_ok]
  rw [load_var26 hB]
  rfl

/-- how things are spelled as keys -/
structure KeyS (S : Type) where
  lit : S → Lit
  ok : S → Prop
  inj : ∀ a b, ok a → ok b → lit a = lit b → a = b
  isLit : ∀ s, WideAt.IsKeyLit (lit s)
section
variable {H S : Type} [DecidableEq S]
/-- the place of a thing -/
def plc (all : List S) (s : S) : Nat := all.idxOf s
theorem plc_get {l : List S} {s : S} (h : s ∈ l) : l[plc l s]? = some s := by
  unfold plc
  rw [List.getElem?_eq_getElem (List.idxOf_lt_length_of_mem h)]
  simp
theorem plc_lt {l : List S} {s : S} (h : s ∈ l) : plc l s < l.length := List.idxOf_lt_length_of_mem h
theorem plc_old {l : List S} {x : S} (r : List S) (h : x ∈ l) : plc (l ++ r) x = plc l x := by
  unfold plc; rw [List.idxOf_append, if_pos h]
theorem plc_new {l : List S} {x : S} (h : x ∉ l) : plc (l ++ [x]) x = l.length := by
  unfold plc; rw [List.idxOf_append, if_neg h]; simp
theorem plc_at {l : List S} (hn : l.Nodup) {c : Nat} (hc : c < l.length) : plc l l[c] = c := by
  unfold plc
  exact hn.idxOf_getElem c hc
theorem plc_inj {l : List S} {x y : S} (hx : x ∈ l) (hy : y ∈ l) (h : plc l x = plc l y) : x = y := by
  have h1 := plc_get hx
  rw [h, plc_get hy] at h1
  exact (Option.some.inj h1).symm
def placeI (all : List S) (s : S) : Int := if s ∈ all then (plc all s : Int) else 0
/-- a map from things to their places, as numbers of a kind -/
def IdxD (K : KeyS S) (q : IntKind) (D : DataW H) (all : List S) : Prop :=
  IsMap D ∧ ∀ s, K.ok s → Maps.has D (K.lit s) = decide (s ∈ all) ∧ ∀ z, D.atKey (K.lit s) z = if s ∈ all then .lit (.int q (plc all s : Nat)) else z
theorem idx_empty (K : KeyS S) (q : IntKind) : IdxD K q (.map [] : DataW H) ([] : List S) :=
  ⟨isMap_empty, fun s _ => ⟨by simp; rfl, fun z => by simp; rfl⟩⟩
theorem idx_snoc {K : KeyS S} {q : IntKind} {D : DataW H} {all : List S} (h : IdxD K q D all) (s : S) (hs : K.ok s) (hn : s ∉ all) : IdxD K q (D.put (K.lit s) (.lit (.int q (all.length : Nat)))) (all ++ [s]) := by
  refine ⟨h.1.put _ _, fun x hx => ?_⟩
  by_cases e : x = s
  · subst e
    refine ⟨by rw [has_put_same h.1 (K.isLit _)]; simp, fun z => ?_⟩
    rw [atKey_put_same h.1 (K.isLit _), if_pos (by simp), plc_new hn]
  · have hne : K.lit x ≠ K.lit s := fun hk => e (K.inj _ _ hx hs hk)
    refine ⟨by rw [has_put_other hne, (h.2 x hx).1]; simp [e], fun z => ?_⟩
    rw [atKey_put_other hne, (h.2 x hx).2 z]
    by_cases hm : x ∈ all
    · rw [if_pos hm, if_pos (by simp [hm]), plc_old _ hm]
    · rw [if_neg hm, if_neg (by simp [hm, e])]
/-- how many keys there are -/
theorem size_snoc {K : KeyS S} {q : IntKind} {D : DataW H} {all : List S} (h : IdxD K q D all) (ht : Tidy D) (hz : Maps.size D = all.length) (s : S) (hs : K.ok s) (hn : s ∉ all) (d : DataW H) : Maps.size (D.put (K.lit s) d) = (all ++ [s]).length := by
  rw [size_put ht, (h.2 s hs).1, hz]
  simp [hn]
end
theorem zero_u8 (w : World) : (zeroValue 5).run Try.prog w = .ok (.int .u8 0) w := by kernel_rfl
theorem zero_i64 (w : World) : (zeroValue 3).run Try.prog w = .ok (.int .i64 0) w := by kernel_rfl
theorem idx_look {S : Type} [DecidableEq S] {K : KeyS S} {q : IntKind} {te : TypeId} (hte : Try.prog.underlying te = some (.int q)) (hz : ∀ w, (zeroValue te).run Try.prog w = .ok (.int q 0) w) (hq : (Lit.int q 0).wf = true) {w : World} {g n : Nat} {D : DataW Unit} {all : List S} {mt kt : TypeId} (hkd : Keyed Try.prog kt) (hmt : Try.prog.underlying mt = some (.map kt te)) (hown : w.ownsMap Try.prog kt (plainElem Try.prog te) g n D) (hR : IdxD K q D all) (s : S) (hs : K.ok s)
    {v : Value} (hv : keyOf Try.prog kt v = some (K.lit s)) :
    (Instr.lookup mt (.map (some g)) v true).run Try.prog w = .ok (.tuple #[.int q (placeI all s), .bool (decide (s ∈ all))]) w := by
  obtain ⟨v', ps, hrun, hv'⟩ := hown.look_ok hkd hmt (hz w) (plainElem_int hte hq) hv
  obtain ⟨c, rfl, hc, _⟩ := plainElem_int_inv hte hv'
  simp only [Prod.mk.injEq] at hc
  obtain ⟨hh, hat⟩ := hR.2 s hs
  rw [hrun, hh]
  rw [hat] at hc
  unfold placeI
  by_cases hm : s ∈ all
  · rw [if_pos hm] at hc ⊢
    have : c = (plc all s : Nat) := by have := hc.1; simpa using this.symm
    rw [this]
  · rw [if_neg hm] at hc ⊢
    have : c = 0 := by have := hc.1; simpa using this.symm
    rw [this]
theorem idx_yes {S : Type} [DecidableEq S] {K : KeyS S} {q : IntKind} {te : TypeId} (hte : Try.prog.underlying te = some (.int q)) (hz : ∀ w, (zeroValue te).run Try.prog w = .ok (.int q 0) w) (hq : (Lit.int q 0).wf = true) {w : World} {g n : Nat} {D : DataW Unit} {all : List S} {mt kt : TypeId} (hkd : Keyed Try.prog kt) (hmt : Try.prog.underlying mt = some (.map kt te)) (hown : w.ownsMap Try.prog kt (plainElem Try.prog te) g n D) (hR : IdxD K q D all) (s : S) (hs : K.ok s)
    {v : Value} (hv : keyOf Try.prog kt v = some (K.lit s)) (hin : s ∈ all) :
    (Instr.lookup mt (.map (some g)) v true).run Try.prog w = .ok (.tuple #[.int q ((plc all s : Nat) : Int), .bool true]) w := by
  rw [idx_look hte hz hq hkd hmt hown hR s hs hv]
  unfold placeI
  rw [if_pos hin, decide_eq_true hin]
theorem idx_no {S : Type} [DecidableEq S] {K : KeyS S} {q : IntKind} {te : TypeId} (hte : Try.prog.underlying te = some (.int q)) (hz : ∀ w, (zeroValue te).run Try.prog w = .ok (.int q 0) w) (hq : (Lit.int q 0).wf = true) {w : World} {g n : Nat} {D : DataW Unit} {all : List S} {mt kt : TypeId} (hkd : Keyed Try.prog kt) (hmt : Try.prog.underlying mt = some (.map kt te)) (hown : w.ownsMap Try.prog kt (plainElem Try.prog te) g n D) (hR : IdxD K q D all) (s : S) (hs : K.ok s)
    {v : Value} (hv : keyOf Try.prog kt v = some (K.lit s)) (hin : s ∉ all) :
    (Instr.lookup mt (.map (some g)) v true).run Try.prog w = .ok (.tuple #[.int q 0, .bool false]) w := by
  rw [idx_look hte hz hq hkd hmt hown hR s hs hv]
  unfold placeI
  rw [if_neg hin, decide_eq_false hin]
theorem Try.laidOut' : laidOutB Try.prog = true := by kernel_rfl
/-! texts -/
def textK : KeyS (List UInt8) := ⟨fun t => .string t, fun t => t.length ≤ 9223372036854775807, fun _ _ _ _ h => by injection h, fun _ => trivial⟩
theorem keyOf_text (t : List UInt8) (h : t.length ≤ 9223372036854775807) : keyOf Try.prog 9 (.string ⟨t.toArray⟩) = some (textK.lit t) := by
  rw [keyOf_string_mk Try.underlying9 (by show t.toArray.size ≤ maxLen; simp [maxLen]; exact h)]
  rfl
/-! pairs of ints -/
def I64 (a : Int) : Prop := (Lit.int .i64 a).wf = true
theorem i64_of (a : Int) (h0 : -1 ≤ a) (h1 : a < 9223372036854775807) : I64 a := by
  unfold I64
  exact WalkArith.wf_i64 (by omega)
theorem u64w_lit {a : Int} (h : U64w a) : (Lit.int .u64 a).wf = true := by
  have h1 : IntKind.u64.min = 0 := by decide
  have h2 : IntKind.u64.max = 18446744073709551615 := by decide
  simp only [Lit.wf, Bool.and_eq_true, decide_eq_true_eq, h1, h2]
  unfold U64w at h
  omega
set_option maxRecDepth 100000 in
theorem key125 : Try.prog.keyTypeAt 2 125 = true := by kernel_rfl
set_option maxRecDepth 100000 in
theorem row125 : (125 : TypeId) < Try.prog.types.size := of_decide_eq_true (by kernel_rfl)
set_option maxRecDepth 100000 in
theorem wide125 : (match Try.prog.underlying 125 with | some (.array _ _) | some (.struct _) => true | _ => false) = true := by rw [Try.underlying125]
set_option maxRecDepth 100000 in
theorem keyed125 : Keyed Try.prog 125 := Keyed.of_law (deep_law_laid Try.laidOut' (m := 2) (by omega) row125 key125 wide125)
set_option maxRecDepth 100000 in
theorem cells125 : Try.prog.cellsOf 125 = 2 := by kernel_rfl
theorem cells3k : Try.prog.cellsOf 3 = 1 := by kernel_rfl
set_option maxRecDepth 100000 in
theorem keyType125 : Try.prog.keyType 125 = true := by kernel_rfl
def keyM (a b : Int) : Lit := .string (keyBytes [.int .i64 a, .int .i64 b])
set_option maxRecDepth 100000 in
theorem keyLits125 (n : Nat) (a b : Int) (ha : I64 a) (hb : I64 b) : Try.prog.keyLits (n + 2) 125 [.int .i64 a, .int .i64 b] = some [.int .i64 a, .int .i64 b] := by
  unfold I64 at ha hb
  simp only [Program.keyLits, Try.underlying125, cells125]
  simp [Try.underlying3, cells3k, ha, hb, List.mapM_cons, show List.range 2 = [0, 1] from rfl]
set_option maxRecDepth 100000 in
theorem keyOf125 (a b : Int) (ha : I64 a) (hb : I64 b) : keyOf Try.prog 125 (.agg #[.int .i64 a, .int .i64 b]) = some (keyM a b) := by
  have hf : (Value.agg #[.int .i64 a, .int .i64 b]).formed Try.prog 125 = true := by simp [Value.formed, Try.underlying125, cells125]
  have hsz : ∃ n, Try.prog.types.size + 1 = n + 2 := ⟨Try.prog.types.size - 1, by have h : 125 < Try.prog.types.size := row125; omega⟩
  obtain ⟨n, hn⟩ := hsz
  simp only [keyOf, Try.underlying125, keyType125, hf, Bool.and_self, if_true, Value.cells, hn]
  rw [keyLits125 n a b ha hb]
  rfl
theorem keyM_inj {a b c d : Int} (ha : I64 a) (hb : I64 b) (hc : I64 c) (hd : I64 d) (h : keyM a b = keyM c d) : a = c ∧ b = d := by
  have e : keyBytes [.int .i64 a, .int .i64 b] = keyBytes [.int .i64 c, .int .i64 d] := by injection h
  have hsz := keyLits_inj (keyLits125 0 a b ha hb) (keyLits125 0 c d hc hd) e
  simpa using hsz
def pairK : KeyS (Int × Int) := ⟨fun p => keyM p.1 p.2, fun p => I64 p.1 ∧ I64 p.2, fun _ _ ha hb h => Prod.ext (keyM_inj ha.1 ha.2 hb.1 hb.2 h).1 (keyM_inj ha.1 ha.2 hb.1 hb.2 h).2, fun _ => trivial⟩
/-! sets of bytes -/
set_option maxRecDepth 100000 in
theorem key44 : Try.prog.keyTypeAt 2 44 = true := by kernel_rfl
set_option maxRecDepth 100000 in
theorem row44 : (44 : TypeId) < Try.prog.types.size := of_decide_eq_true (by kernel_rfl)
set_option maxRecDepth 100000 in
theorem wide44 : (match Try.prog.underlying 44 with | some (.array _ _) | some (.struct _) => true | _ => false) = true := by rw [Try.underlying44]
set_option maxRecDepth 100000 in
theorem keyed44 : Keyed Try.prog 44 := Keyed.of_law (deep_law_laid Try.laidOut' (m := 2) (by omega) row44 key44 wide44)
set_option maxRecDepth 100000 in
theorem cells44 : Try.prog.cellsOf 44 = 4 := by kernel_rfl
theorem cells43k : Try.prog.cellsOf 43 = 1 := by kernel_rfl
set_option maxRecDepth 100000 in
theorem keyType44 : Try.prog.keyType 44 = true := by kernel_rfl
structure Quad where
  a : Int
  b : Int
  c : Int
  d : Int
deriving DecidableEq
def Quad.ok (q : Quad) : Prop := U64w q.a ∧ U64w q.b ∧ U64w q.c ∧ U64w q.d
def Quad.cells (q : Quad) : List Value := [.int .u64 q.a, .int .u64 q.b, .int .u64 q.c, .int .u64 q.d]
def keyQ (q : Quad) : Lit := .string (keyBytes [.int .u64 q.a, .int .u64 q.b, .int .u64 q.c, .int .u64 q.d])
set_option maxRecDepth 100000 in
theorem keyLits44 (n : Nat) (q : Quad) (h : q.ok) : Try.prog.keyLits (n + 2) 44 q.cells = some [.int .u64 q.a, .int .u64 q.b, .int .u64 q.c, .int .u64 q.d] := by
  have h0 := u64w_lit h.1
  have h1 := u64w_lit h.2.1
  have h2 := u64w_lit h.2.2.1
  have h3 := u64w_lit h.2.2.2
  unfold Quad.cells
  simp only [Program.keyLits, Try.underlying44, cells44]
  simp [Try.underlying43, cells43k, h0, h1, h2, h3, List.mapM_cons, show List.range 4 = [0, 1, 2, 3] from rfl]
set_option maxRecDepth 100000 in
theorem keyOf44 (q : Quad) (h : q.ok) : keyOf Try.prog 44 (.agg #[.int .u64 q.a, .int .u64 q.b, .int .u64 q.c, .int .u64 q.d]) = some (keyQ q) := by
  have hf : (Value.agg #[.int .u64 q.a, .int .u64 q.b, .int .u64 q.c, .int .u64 q.d]).formed Try.prog 44 = true := by simp [Value.formed, Try.underlying44, cells44]
  have hsz : ∃ n, Try.prog.types.size + 1 = n + 2 := ⟨Try.prog.types.size - 1, by have h : 44 < Try.prog.types.size := row44; omega⟩
  obtain ⟨n, hn⟩ := hsz
  simp only [keyOf, Try.underlying44, keyType44, hf, Bool.and_self, if_true, Value.cells, hn]
  have := keyLits44 n q h
  unfold Quad.cells at this
  rw [this]
  rfl
theorem keyQ_inj {p q : Quad} (hp : p.ok) (hq : q.ok) (h : keyQ p = keyQ q) : p = q := by
  have e : keyBytes [.int .u64 p.a, .int .u64 p.b, .int .u64 p.c, .int .u64 p.d] = keyBytes [.int .u64 q.a, .int .u64 q.b, .int .u64 q.c, .int .u64 q.d] := by injection h
  have hsz := keyLits_inj (keyLits44 0 p hp) (keyLits44 0 q hq) e
  obtain ⟨a, b, c, d⟩ := p
  obtain ⟨a', b', c', d'⟩ := q
  simpa using hsz
def quadK : KeyS Quad := ⟨keyQ, Quad.ok, fun _ _ ha hb h => keyQ_inj ha hb h, fun _ => trivial⟩
end Go.Proofs.Ytfjhcoeehjephaa
