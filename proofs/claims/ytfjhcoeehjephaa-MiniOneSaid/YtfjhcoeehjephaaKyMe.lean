/- Ky, Par, Cls of this seat, in one text. -/
import Derived.Test.YtfjhcoeehjephaaNameAMe
import Derived.Laws.Tables
import Derived.Deep.MidRow
import Derived.Laws.CopyOwn
import Derived.Laws.ResultCell
import Derived.Maps.OwnOps
import Derived.Maps.OwnSet
import Derived.DeepKeys4
import Derived.ChangeKeys
/- Boxes of 256 bytes; keys of maps: pairs, sets, texts. -/
namespace Go.Proofs.Ytfjhcoeehjephaa
open Go.RowKit Go.Maps Go.WideMaps

def bytV (f : Nat → Nat) : List Value := (List.range 256).map (fun b => .int .u8 ((f b : Nat) : Int))
theorem bytV_len (f : Nat → Nat) : (bytV f).length = 256 := by simp [bytV]
theorem bytV_get (f : Nat → Nat) {b : Nat} (h : b < 256) : (bytV f)[b]? = some (.int .u8 ((f b : Nat) : Int)) := by simp [bytV, h]
theorem bytV_set (f : Nat → Nat) (b x : Nat) : (bytV f).set b (.int .u8 (x : Int)) = bytV (fun j => if j = b then x else f j) := by
  apply List.ext_getElem?
  intro j
  rw [List.getElem?_set]
  by_cases h : j < 256
  · rw [bytV_get _ h]
    by_cases e : b = j
    · subst e
      rw [if_pos rfl, bytV_len, if_pos h, bytV_get _ h, if_pos rfl]
    · rw [if_neg e, bytV_get _ h, if_neg (fun h => e h.symm)]
  · have h1 : (bytV f)[j]? = none := List.getElem?_eq_none (by rw [bytV_len]; omega)
    have h2 : (bytV (fun j => if j = b then x else f j))[j]? = none := List.getElem?_eq_none (by rw [bytV_len]; omega)
    rw [h2]
    by_cases e : b = j
    · rw [if_pos e, bytV_len, if_neg (by omega)]
    · rw [if_neg e, h1]
theorem bytV_congr {f g : Nat → Nat} (h : ∀ j, j < 256 → f j = g j) : bytV f = bytV g := by
  unfold bytV
  apply List.map_congr_left
  intro j hj
  rw [h j (List.mem_range.1 hj)]
theorem bytV_one (f : Nat → Nat) : (bytV f).toArray.all (·.oneCell') = true := by
  rw [Array.all_eq_true_iff_forall_mem]
  intro x hx
  simp only [bytV, List.mem_toArray, List.mem_map] at hx
  obtain ⟨b, _, rfl⟩ := hx
  rfl
def zs26 : Array Value := (bytV (fun _ => 0)).toArray
set_option maxRecDepth 100000 in
theorem zeroV26 (W : World) : (zeroValue 26).run Try.prog W = .ok (.agg zs26) W := by kernel_rfl
theorem info26 : (Try.prog.info? 26).map (·.size) = some 256 := by kernel_rfl
def loadBox (v : Value) : Sem Value := Instr.loadAt 26 v
theorem load_box (v : Value) : Instr.loadAt 26 v = loadBox v := rfl
def storeBox (p v : Value) : Sem Unit := Instr.storeAt 26 p v
theorem store_box (p v : Value) : Instr.storeAt 26 p v = storeBox p v := rfl
theorem load26 {W : World} {g : Nat} {f : Nat → Nat} (h : Blk W g 26 (bytV f)) : (loadBox (.pointer (some ⟨g, 0, none⟩))).run Try.prog W = .ok (.agg (bytV f).toArray) W := by
  have hr : W.rangeAt g 0 (bytV f) := fun j v hv => by rw [h.cell]; simpa using hv
  have := run_loadAt_mid W g 0 26 (bytV f) _ hr Try.underlying26 rfl (by rw [bytV_len]; exact info26)
  unfold loadBox
  rw [this]
theorem Blk.row {W : World} {g : Nat} {t : TypeId} {cs : List Value} (h : Blk W g t cs) (ds : Array Value) : Blk (W.setRow g ds) g t ds.toList := setRow_heap W g _ _ t _ h
theorem Blk.row_other {W : World} {g g' : Nat} {t : TypeId} {cs : List Value} (h : Blk W g t cs) (ds : Array Value) (hg : g ≠ g') : Blk (W.setRow g' ds) g t cs := (setRow_other W g' g ds hg).trans h
theorem store26 {W : World} {g : Nat} {e f : Nat → Nat} (h : Blk W g 26 (bytV e)) : (storeBox (.pointer (some ⟨g, 0, none⟩)) (.agg (bytV f).toArray)).run Try.prog W = .ok () (W.setRow g (bytV f).toArray) := by
  simp only [storeBox, Instr.storeAt, Instr.sureAddr, Sem.run_bind, Sem.run_pure, Result.andThen_ok]
  exact run_storeVar_row W g 26 26 _ _ h (by rw [List.size_toArray, bytV_len]; exact info26) (by simp [bytV_len]) (bytV_one f)
theorem load_var26 {W : World} {g : Nat} {f : Nat → Nat} (h : Blk W g 26 (bytV f)) : (loadVar 26 ⟨g, 0, none⟩).run Try.prog W = .ok (.agg (bytV f).toArray) W :=
  run_loadVar_row W g 26 26 (bytV f).toArray (0, 0) _ h Try.underlying26 rfl (by rw [List.size_toArray, bytV_len]; exact info26)

theorem res26 {fn : Func} {p u : Tmp} (h : fn.results = #[.cell p 26, .tmp u]) {tmps : Array Value} {W : World} {g : Nat} {f : Nat → Nat} {b : Value} (hp : tmps.getD p undef = .pointer (some ⟨g, 0, none⟩)) (hb : tmps.getD u undef = b) (hB : Blk W g 26 (bytV f)) : (results fn tmps).run Try.prog W = .ok (.tuple #[.agg (bytV f).toArray, b]) W := by
  rw [results_cell_tmp h, hp, hb]
  simp only [asAddr, Sem.run_pure, Result.andThen_ok]
  rw [load_var26 hB]
  rfl

/-- how things are spelled as keys -/
structure KeyS (S : Type) where
  lit : S → Lit
  ok : S → Prop
  inj : ∀ a b, ok a → ok b → lit a = lit b → a = b
  isLit : ∀ s, WideAt.IsKeyLit (lit s)
section
variable {H S : Type} [DecidableEq S]
/-- the place of a thing -/
def plc (all : List S) (s : S) : Nat := all.idxOf s
theorem plc_get {l : List S} {s : S} (h : s ∈ l) : l[plc l s]? = some s := by
  unfold plc
  rw [List.getElem?_eq_getElem (List.idxOf_lt_length_of_mem h)]
  simp
theorem plc_lt {l : List S} {s : S} (h : s ∈ l) : plc l s < l.length := List.idxOf_lt_length_of_mem h
theorem plc_old {l : List S} {x : S} (r : List S) (h : x ∈ l) : plc (l ++ r) x = plc l x := by
  unfold plc; rw [List.idxOf_append, if_pos h]
theorem plc_new {l : List S} {x : S} (h : x ∉ l) : plc (l ++ [x]) x = l.length := by
  unfold plc; rw [List.idxOf_append, if_neg h]; simp
theorem plc_at {l : List S} (hn : l.Nodup) {c : Nat} (hc : c < l.length) : plc l l[c] = c := by
  unfold plc
  exact hn.idxOf_getElem c hc
theorem plc_inj {l : List S} {x y : S} (hx : x ∈ l) (hy : y ∈ l) (h : plc l x = plc l y) : x = y := by
  have h1 := plc_get hx
  rw [h, plc_get hy] at h1
  exact (Option.some.inj h1).symm
def placeI (all : List S) (s : S) : Int := if s ∈ all then (plc all s : Int) else 0
/-- a map from things to their places, as numbers of a kind -/
def IdxD (K : KeyS S) (q : IntKind) (D : DataW H) (all : List S) : Prop :=
  IsMap D ∧ ∀ s, K.ok s → Maps.has D (K.lit s) = decide (s ∈ all) ∧ ∀ z, D.atKey (K.lit s) z = if s ∈ all then .lit (.int q (plc all s : Nat)) else z
theorem idx_empty (K : KeyS S) (q : IntKind) : IdxD K q (.map [] : DataW H) ([] : List S) :=
  ⟨isMap_empty, fun s _ => ⟨by simp; rfl, fun z => by simp; rfl⟩⟩
theorem idx_snoc {K : KeyS S} {q : IntKind} {D : DataW H} {all : List S} (h : IdxD K q D all) (s : S) (hs : K.ok s) (hn : s ∉ all) : IdxD K q (D.put (K.lit s) (.lit (.int q (all.length : Nat)))) (all ++ [s]) := by
  refine ⟨h.1.put _ _, fun x hx => ?_⟩
  by_cases e : x = s
  · subst e
    refine ⟨by rw [has_put_same h.1 (K.isLit _)]; simp, fun z => ?_⟩
    rw [atKey_put_same h.1 (K.isLit _), if_pos (by simp), plc_new hn]
  · have hne : K.lit x ≠ K.lit s := fun hk => e (K.inj _ _ hx hs hk)
    refine ⟨by rw [has_put_other hne, (h.2 x hx).1]; simp [e], fun z => ?_⟩
    rw [atKey_put_other hne, (h.2 x hx).2 z]
    by_cases hm : x ∈ all
    · rw [if_pos hm, if_pos (by simp [hm]), plc_old _ hm]
    · rw [if_neg hm, if_neg (by simp [hm, e])]
/-- how many keys there are -/
theorem size_snoc {K : KeyS S} {q : IntKind} {D : DataW H} {all : List S} (h : IdxD K q D all) (ht : Tidy D) (hz : Maps.size D = all.length) (s : S) (hs : K.ok s) (hn : s ∉ all) (d : DataW H) : Maps.size (D.put (K.lit s) d) = (all ++ [s]).length := by
  rw [size_put ht, (h.2 s hs).1, hz]
  simp [hn]
end
theorem zero_u8 (w : World) : (zeroValue 5).run Try.prog w = .ok (.int .u8 0) w := by kernel_rfl
theorem zero_i64 (w : World) : (zeroValue 3).run Try.prog w = .ok (.int .i64 0) w := by kernel_rfl
theorem idx_look {S : Type} [DecidableEq S] {K : KeyS S} {q : IntKind} {te : TypeId} (hte : Try.prog.underlying te = some (.int q)) (hz : ∀ w, (zeroValue te).run Try.prog w = .ok (.int q 0) w) (hq : (Lit.int q 0).wf = true) {w : World} {g n : Nat} {D : DataW Unit} {all : List S} {mt kt : TypeId} (hkd : Keyed Try.prog kt) (hmt : Try.prog.underlying mt = some (.map kt te)) (hown : w.ownsMap Try.prog kt (plainElem Try.prog te) g n D) (hR : IdxD K q D all) (s : S) (hs : K.ok s)
    {v : Value} (hv : keyOf Try.prog kt v = some (K.lit s)) :
    (Instr.lookup mt (.map (some g)) v true).run Try.prog w = .ok (.tuple #[.int q (placeI all s), .bool (decide (s ∈ all))]) w := by
  obtain ⟨v', ps, hrun, hv'⟩ := hown.look_ok hkd hmt (hz w) (plainElem_int hte hq) hv
  obtain ⟨c, rfl, hc, _⟩ := plainElem_int_inv hte hv'
  simp only [Prod.mk.injEq] at hc
  obtain ⟨hh, hat⟩ := hR.2 s hs
  rw [hrun, hh]
  rw [hat] at hc
  unfold placeI
  by_cases hm : s ∈ all
  · rw [if_pos hm] at hc ⊢
    have : c = (plc all s : Nat) := by have := hc.1; simpa using this.symm
    rw [this]
  · rw [if_neg hm] at hc ⊢
    have : c = 0 := by have := hc.1; simpa using this.symm
    rw [this]
theorem idx_yes {S : Type} [DecidableEq S] {K : KeyS S} {q : IntKind} {te : TypeId} (hte : Try.prog.underlying te = some (.int q)) (hz : ∀ w, (zeroValue te).run Try.prog w = .ok (.int q 0) w) (hq : (Lit.int q 0).wf = true) {w : World} {g n : Nat} {D : DataW Unit} {all : List S} {mt kt : TypeId} (hkd : Keyed Try.prog kt) (hmt : Try.prog.underlying mt = some (.map kt te)) (hown : w.ownsMap Try.prog kt (plainElem Try.prog te) g n D) (hR : IdxD K q D all) (s : S) (hs : K.ok s)
    {v : Value} (hv : keyOf Try.prog kt v = some (K.lit s)) (hin : s ∈ all) :
    (Instr.lookup mt (.map (some g)) v true).run Try.prog w = .ok (.tuple #[.int q ((plc all s : Nat) : Int), .bool true]) w := by
  rw [idx_look hte hz hq hkd hmt hown hR s hs hv]
  unfold placeI
  rw [if_pos hin, decide_eq_true hin]
theorem idx_no {S : Type} [DecidableEq S] {K : KeyS S} {q : IntKind} {te : TypeId} (hte : Try.prog.underlying te = some (.int q)) (hz : ∀ w, (zeroValue te).run Try.prog w = .ok (.int q 0) w) (hq : (Lit.int q 0).wf = true) {w : World} {g n : Nat} {D : DataW Unit} {all : List S} {mt kt : TypeId} (hkd : Keyed Try.prog kt) (hmt : Try.prog.underlying mt = some (.map kt te)) (hown : w.ownsMap Try.prog kt (plainElem Try.prog te) g n D) (hR : IdxD K q D all) (s : S) (hs : K.ok s)
    {v : Value} (hv : keyOf Try.prog kt v = some (K.lit s)) (hin : s ∉ all) :
    (Instr.lookup mt (.map (some g)) v true).run Try.prog w = .ok (.tuple #[.int q 0, .bool false]) w := by
  rw [idx_look hte hz hq hkd hmt hown hR s hs hv]
  unfold placeI
  rw [if_neg hin, decide_eq_false hin]
theorem Try.laidOut' : laidOutB Try.prog = true := by kernel_rfl
/-! texts -/
def textK : KeyS (List UInt8) := ⟨fun t => .string t, fun t => t.length ≤ 9223372036854775807, fun _ _ _ _ h => by injection h, fun _ => trivial⟩
theorem keyOf_text (t : List UInt8) (h : t.length ≤ 9223372036854775807) : keyOf Try.prog 9 (.string ⟨t.toArray⟩) = some (textK.lit t) := by
  rw [keyOf_string_mk Try.underlying9 (by show t.toArray.size ≤ maxLen; simp [maxLen]; exact h)]
  rfl
/-! pairs of ints -/
def I64 (a : Int) : Prop := (Lit.int .i64 a).wf = true
theorem i64_of (a : Int) (h0 : -1 ≤ a) (h1 : a < 9223372036854775807) : I64 a := by
  unfold I64
  exact WalkArith.wf_i64 (by omega)
theorem u64w_lit {a : Int} (h : U64w a) : (Lit.int .u64 a).wf = true := by
  have h1 : IntKind.u64.min = 0 := by decide
  have h2 : IntKind.u64.max = 18446744073709551615 := by decide
  simp only [Lit.wf, Bool.and_eq_true, decide_eq_true_eq, h1, h2]
  unfold U64w at h
  omega
set_option maxRecDepth 100000 in
theorem key125 : Try.prog.keyTypeAt 2 125 = true := by kernel_rfl
set_option maxRecDepth 100000 in
theorem row125 : (125 : TypeId) < Try.prog.types.size := of_decide_eq_true (by kernel_rfl)
set_option maxRecDepth 100000 in
theorem wide125 : (match Try.prog.underlying 125 with | some (.array _ _) | some (.struct _) => true | _ => false) = true := by rw [Try.underlying125]
set_option maxRecDepth 100000 in
theorem keyed125 : Keyed Try.prog 125 := Keyed.of_law (deep_law_laid Try.laidOut' (m := 2) (by omega) row125 key125 wide125)
set_option maxRecDepth 100000 in
theorem cells125 : Try.prog.cellsOf 125 = 2 := by kernel_rfl
theorem cells3k : Try.prog.cellsOf 3 = 1 := by kernel_rfl
set_option maxRecDepth 100000 in
theorem keyType125 : Try.prog.keyType 125 = true := by kernel_rfl
def keyM (a b : Int) : Lit := .string (keyBytes [.int .i64 a, .int .i64 b])
set_option maxRecDepth 100000 in
theorem keyLits125 (n : Nat) (a b : Int) (ha : I64 a) (hb : I64 b) : Try.prog.keyLits (n + 2) 125 [.int .i64 a, .int .i64 b] = some [.int .i64 a, .int .i64 b] := by
  unfold I64 at ha hb
  simp only [Program.keyLits, Try.underlying125, cells125]
  simp [Try.underlying3, cells3k, ha, hb, List.mapM_cons, show List.range 2 = [0, 1] from rfl]
set_option maxRecDepth 100000 in
theorem keyOf125 (a b : Int) (ha : I64 a) (hb : I64 b) : keyOf Try.prog 125 (.agg #[.int .i64 a, .int .i64 b]) = some (keyM a b) := by
  have hf : (Value.agg #[.int .i64 a, .int .i64 b]).formed Try.prog 125 = true := by simp [Value.formed, Try.underlying125, cells125]
  have hsz : ∃ n, Try.prog.types.size + 1 = n + 2 := ⟨Try.prog.types.size - 1, by have h : 125 < Try.prog.types.size := row125; omega⟩
  obtain ⟨n, hn⟩ := hsz
  simp only [keyOf, Try.underlying125, keyType125, hf, Bool.and_self, if_true, Value.cells, hn]
  rw [keyLits125 n a b ha hb]
  rfl
theorem keyM_inj {a b c d : Int} (ha : I64 a) (hb : I64 b) (hc : I64 c) (hd : I64 d) (h : keyM a b = keyM c d) : a = c ∧ b = d := by
  have e : keyBytes [.int .i64 a, .int .i64 b] = keyBytes [.int .i64 c, .int .i64 d] := by injection h
  have hsz := keyLits_inj (keyLits125 0 a b ha hb) (keyLits125 0 c d hc hd) e
  simpa using hsz
def pairK : KeyS (Int × Int) := ⟨fun p => keyM p.1 p.2, fun p => I64 p.1 ∧ I64 p.2, fun _ _ ha hb h => Prod.ext (keyM_inj ha.1 ha.2 hb.1 hb.2 h).1 (keyM_inj ha.1 ha.2 hb.1 hb.2 h).2, fun _ => trivial⟩
/-! sets of bytes -/
set_option maxRecDepth 100000 in
theorem key44 : Try.prog.keyTypeAt 2 44 = true := by kernel_rfl
set_option maxRecDepth 100000 in
theorem row44 : (44 : TypeId) < Try.prog.types.size := of_decide_eq_true (by kernel_rfl)
set_option maxRecDepth 100000 in
theorem wide44 : (match Try.prog.underlying 44 with | some (.array _ _) | some (.struct _) => true | _ => false) = true := by rw [Try.underlying44]
set_option maxRecDepth 100000 in
theorem keyed44 : Keyed Try.prog 44 := Keyed.of_law (deep_law_laid Try.laidOut' (m := 2) (by omega) row44 key44 wide44)
set_option maxRecDepth 100000 in
theorem cells44 : Try.prog.cellsOf 44 = 4 := by kernel_rfl
theorem cells43k : Try.prog.cellsOf 43 = 1 := by kernel_rfl
set_option maxRecDepth 100000 in
theorem keyType44 : Try.prog.keyType 44 = true := by kernel_rfl
structure Quad where
  a : Int
  b : Int
  c : Int
  d : Int
deriving DecidableEq
def Quad.ok (q : Quad) : Prop := U64w q.a ∧ U64w q.b ∧ U64w q.c ∧ U64w q.d
def Quad.cells (q : Quad) : List Value := [.int .u64 q.a, .int .u64 q.b, .int .u64 q.c, .int .u64 q.d]
def keyQ (q : Quad) : Lit := .string (keyBytes [.int .u64 q.a, .int .u64 q.b, .int .u64 q.c, .int .u64 q.d])
set_option maxRecDepth 100000 in
theorem keyLits44 (n : Nat) (q : Quad) (h : q.ok) : Try.prog.keyLits (n + 2) 44 q.cells = some [.int .u64 q.a, .int .u64 q.b, .int .u64 q.c, .int .u64 q.d] := by
  have h0 := u64w_lit h.1
  have h1 := u64w_lit h.2.1
  have h2 := u64w_lit h.2.2.1
  have h3 := u64w_lit h.2.2.2
  unfold Quad.cells
  simp only [Program.keyLits, Try.underlying44, cells44]
  simp [Try.underlying43, cells43k, h0, h1, h2, h3, List.mapM_cons, show List.range 4 = [0, 1, 2, 3] from rfl]
set_option maxRecDepth 100000 in
theorem keyOf44 (q : Quad) (h : q.ok) : keyOf Try.prog 44 (.agg #[.int .u64 q.a, .int .u64 q.b, .int .u64 q.c, .int .u64 q.d]) = some (keyQ q) := by
  have hf : (Value.agg #[.int .u64 q.a, .int .u64 q.b, .int .u64 q.c, .int .u64 q.d]).formed Try.prog 44 = true := by simp [Value.formed, Try.underlying44, cells44]
  have hsz : ∃ n, Try.prog.types.size + 1 = n + 2 := ⟨Try.prog.types.size - 1, by have h : 44 < Try.prog.types.size := row44; omega⟩
  obtain ⟨n, hn⟩ := hsz
  simp only [keyOf, Try.underlying44, keyType44, hf, Bool.and_self, if_true, Value.cells, hn]
  have := keyLits44 n q h
  unfold Quad.cells at this
  rw [this]
  rfl
theorem keyQ_inj {p q : Quad} (hp : p.ok) (hq : q.ok) (h : keyQ p = keyQ q) : p = q := by
  have e : keyBytes [.int .u64 p.a, .int .u64 p.b, .int .u64 p.c, .int .u64 p.d] = keyBytes [.int .u64 q.a, .int .u64 q.b, .int .u64 q.c, .int .u64 q.d] := by injection h
  have hsz := keyLits_inj (keyLits44 0 p hp) (keyLits44 0 q hq) e
  obtain ⟨a, b, c, d⟩ := p
  obtain ⟨a', b', c', d'⟩ := q
  simpa using hsz
def quadK : KeyS Quad := ⟨keyQ, Quad.ok, fun _ _ ha hb h => keyQ_inj ha hb h, fun _ => trivial⟩
end Go.Proofs.Ytfjhcoeehjephaa
/- set.parted: classes are parted by a set. -/
namespace Go.Proofs.Ytfjhcoeehjephaa
open Go.RowKit Go.Maps Go.WideMaps
attribute [local go_sem ↓] load_box store_box

def keyP (old : Nat → Nat) (h : Nat → Bool) (b : Nat) : Int × Int := ((old b : Int), if h b = true then 1 else 0)
def distK (old : Nat → Nat) (h : Nat → Bool) : Nat → List (Int × Int)
  | 0 => []
  | k + 1 => if keyP old h k ∈ distK old h k then distK old h k else distK old h k ++ [keyP old h k]
section
variable {old : Nat → Nat} {h : Nat → Bool}
theorem distK_len (k : Nat) : (distK old h k).length ≤ k := by
  induction k with
  | zero => exact Nat.le_refl _
  | succ k ih =>
    simp only [distK]
    split
    · omega
    · simp only [List.length_append, List.length_singleton]; omega
theorem distK_mem {k j : Nat} (hj : j < k) : keyP old h j ∈ distK old h k := by
  induction k with
  | zero => omega
  | succ k ih =>
    simp only [distK]
    by_cases e : j = k
    · subst e
      split
      · assumption
      · simp
    · have := ih (by omega)
      split
      · exact this
      · simp [this]
theorem distK_from {k : Nat} {p : Int × Int} (hp : p ∈ distK old h k) : ∃ j, j < k ∧ keyP old h j = p := by
  induction k with
  | zero => cases hp
  | succ k ih =>
    simp only [distK] at hp
    split at hp
    · obtain ⟨j, h1, h2⟩ := ih hp; exact ⟨j, by omega, h2⟩
    · rcases List.mem_append.1 hp with h9 | h9
      · obtain ⟨j, h1, h2⟩ := ih h9; exact ⟨j, by omega, h2⟩
      · exact ⟨k, by omega, (List.mem_singleton.1 h9).symm⟩
theorem distK_nodup (k : Nat) : (distK old h k).Nodup := by
  induction k with
  | zero => exact List.nodup_nil
  | succ k ih =>
    simp only [distK]
    split
    · exact ih
    · rename_i hn
      rw [List.nodup_append]
      exact ⟨ih, by simp, fun a ha b hb e => hn (by rw [List.mem_singleton] at hb; rw [← hb, ← e]; exact ha)⟩
theorem plc_step {k j : Nat} (hj : j < k) : plc (distK old h (k + 1)) (keyP old h j) = plc (distK old h k) (keyP old h j) := by
  simp only [distK]
  split
  · rfl
  · exact plc_old _ (distK_mem hj)
end
/-- all keys, and the new classes -/
def distB (old : Nat → Nat) (h : Nat → Bool) : List (Int × Int) := distK old h 256
def newC (old : Nat → Nat) (h : Nat → Bool) (b : Nat) : Nat := plc (distB old h) (keyP old h b)
theorem distB_len (old : Nat → Nat) (h : Nat → Bool) : (distB old h).length ≤ 256 := distK_len 256
theorem distB_mem {old : Nat → Nat} {h : Nat → Bool} {j : Nat} (hj : j < 256) : keyP old h j ∈ distB old h := distK_mem hj
theorem distB_from {old : Nat → Nat} {h : Nat → Bool} {p : Int × Int} (hp : p ∈ distB old h) : ∃ j, j < 256 ∧ keyP old h j = p := distK_from hp
theorem distB_nodup (old : Nat → Nat) (h : Nat → Bool) : (distB old h).Nodup := distK_nodup 256
/-- classes that are right: each has a byte, and bytes of one have all sets alike -/
structure ClsOk (cls : Nat → Nat) (many : Nat) (l : List Quad) : Prop where
  lt : ∀ b, b < 256 → cls b < many
  has : ∀ c, c < many → ∃ b, b < 256 ∧ cls b = c
  alike : ∀ b b', b < 256 → b' < 256 → cls b = cls b' → ∀ q ∈ l, hasB q.a q.b q.c q.d b = hasB q.a q.b q.c q.d b'
  hi : many ≤ 256
theorem cls_begin : ClsOk (fun _ => 0) 1 [] := ⟨fun _ _ => by omega, fun c hc => ⟨0, by omega, by omega⟩, fun _ _ _ _ _ q hq => (by cases hq), by omega⟩
theorem ClsOk.many_pos {cls : Nat → Nat} {many : Nat} {l : List Quad} (h : ClsOk cls many l) : 1 ≤ many := by have := h.lt 0 (by omega); omega
theorem cls_parted {old : Nat → Nat} {many : Nat} {l : List Quad} (hc : ClsOk old many l) (q : Quad) : ClsOk (newC old (hasB q.a q.b q.c q.d)) (distB old (hasB q.a q.b q.c q.d)).length (l ++ [q]) := by
  refine ⟨fun b hb => plc_lt (distB_mem hb), fun c h9 => ?_, fun b b' hb hb' he p hp => ?_, distB_len _ _⟩
  · have hm : (distB old (hasB q.a q.b q.c q.d))[c] ∈ distB old (hasB q.a q.b q.c q.d) := List.getElem_mem h9
    obtain ⟨b, hb, hk⟩ := distB_from hm
    refine ⟨b, hb, ?_⟩
    unfold newC
    rw [hk]
    exact plc_at (distB_nodup _ _) h9
  · have hk := plc_inj (distB_mem hb) (distB_mem hb') he
    unfold keyP at hk
    simp only [Prod.mk.injEq] at hk
    rcases List.mem_append.1 hp with h9 | h9
    · exact hc.alike b b' hb hb' (by omega) p h9
    · have : p = q := by simpa using h9
      subst this
      have h8 := hk.2
      cases h1 : hasB p.a p.b p.c p.d b <;> cases h2 : hasB p.a p.b p.c p.d b' <;> rw [h1, h2] at h8 <;> simp at h8 ⊢
/-- what stays in parted -/
structure PW (W : World) (old : Nat → Nat) (q : Quad) (gm : Nat) (cls : Nat → Nat) (n : Nat) (D : DataW Unit) (w : World) : Prop where
  bel : Below W.heap.size W w
  b0 : Blk w W.heap.size 26 (bytV old)
  b1 : Blk w (W.heap.size + 1) 46 q.cells
  b2 : Blk w (W.heap.size + 1 + 1) 26 (bytV (fun _ => 0))
  b3 : Blk w (W.heap.size + 1 + 1 + 1) 26 (bytV cls)
  mp : w.ownsMap Try.prog 125 (plainElem Try.prog 5) gm n D
  gm : gm = W.heap.size + 1 + 1 + 1 + 1
section
variable {W w w' : World} {old cls : Nat → Nat} {q : Quad} {gm n : Nat} {D : DataW Unit}
theorem PW.go (h : PW W old q gm cls n D w) (hb : Below w.heap.size w w') : PW W old q gm cls n D w' :=
  ⟨h.bel.trans (hb.mono h.bel.size), h.b0.below hb h.b0.lt, h.b1.below hb h.b1.lt, h.b2.below hb h.b2.lt, h.b3.below hb h.b3.lt, h.mp.kept (row := none) ⟨hb.os, hb.tape, hb.output, hb.size, fun b hb' _ => hb.block b hb'⟩ (by simp), h.gm⟩
theorem PW.alloc (h : PW W old q gm cls n D w) (o : Obj) : PW W old q gm cls n D (w.alloc o) := h.go ((Below.refl _ _).alloc (Nat.le_refl _) _)
/-- a cell of a block that lies behind -/
theorem PW.far (h : PW W old q gm cls n D w) {g : Nat} (hg : gm < g) (k : Nat) (v : Value) : PW W old q gm cls n D (w.setCell ⟨g, k, none⟩ v) := by
  have := h.gm
  exact ⟨h.bel.setCell (p := ⟨g, k, none⟩) (by show W.heap.size ≤ g; omega) v, h.b0.same (Below.heap_setCell _ _ _ _ (by show W.heap.size ≠ g; omega)), h.b1.same (Below.heap_setCell _ _ _ _ (by show W.heap.size + 1 ≠ g; omega)), h.b2.same (Below.heap_setCell _ _ _ _ (by show W.heap.size + 1 + 1 ≠ g; omega)),
    h.b3.same (Below.heap_setCell _ _ _ _ (by show W.heap.size + 1 + 1 + 1 ≠ g; omega)), h.mp.setCell (by show gm ≠ g; omega) v, h.gm⟩
/-- a class is told -/
theorem PW.tell (h : PW W old q gm cls n D w) (b x : Nat) : PW W old q gm (fun j => if j = b then x else cls j) n D (w.setCell ⟨W.heap.size + 1 + 1 + 1, b, none⟩ (.int .u8 (x : Int))) := by
  have := h.gm
  refine ⟨h.bel.setCell (p := ⟨W.heap.size + 1 + 1 + 1, b, none⟩) (by show W.heap.size ≤ W.heap.size + 1 + 1 + 1; omega) _, h.b0.same (Below.heap_setCell _ _ _ _ (by show W.heap.size ≠ W.heap.size + 1 + 1 + 1; omega)), h.b1.same (Below.heap_setCell _ _ _ _ (by show W.heap.size + 1 ≠ W.heap.size + 1 + 1 + 1; omega)), h.b2.same (Below.heap_setCell _ _ _ _ (by show W.heap.size + 1 + 1 ≠ W.heap.size + 1 + 1 + 1; omega)), ?_, h.mp.setCell (by show gm ≠ W.heap.size + 1 + 1 + 1; omega) _, h.gm⟩
  rw [← bytV_set]; exact h.b3.set b _
/-- the map has grown -/
theorem PW.put (h : PW W old q gm cls n D w) {n' : Nat} {D' : DataW Unit} (hg : w.grownBy w' (some gm)) (hm : w'.ownsMap Try.prog 125 (plainElem Try.prog 5) gm n' D') : PW W old q gm cls n' D' w' := by
  have := h.gm
  have hk : ∀ {g t : Nat} {cur : List Value}, Blk w g t cur → g ≠ gm → Blk w' g t cur := fun h9 hne => h9.same (hg.block _ h9.lt (fun e => hne (by cases e; rfl)))
  exact ⟨h.bel.grown hg h.bel.size (fun k e => by cases e; omega), hk h.b0 (by omega), hk h.b1 (by omega), hk h.b2 (by omega), hk h.b3 (by omega), hm, h.gm⟩
end

/-- 'v, ok := m[k]' by its run -/
theorem wpList_look (w : World) {ops : Array Oper} {rest : List Oper} {o : Oper} {a : Act} {Q : Exit → Act → World → Prop} (hgd : o.guard = none) (m x : Operand) (t : TypeId) (hop : o.op = Op.lookup t m x true) (mv kv r : Value) (hm : a.eval m = mv) (hx : a.eval x = kv)
    (hrun : (Instr.lookup t mv kv true).run Try.prog w = .ok r w) (h : wpList Try.prog ops Q rest (a.put o.dst r) w) : wpList Try.prog ops Q (o :: rest) a w := by
  refine wpList_plain hgd fun K' hK' => ?_
  unfold Oper.wp
  simp [execOp, hop, hm, hx, hrun, Result.andThen]
  exact hK' _ _ h
theorem wf_u8 {x : Int} (h0 : 0 ≤ x) (h1 : x ≤ 255) : (Lit.int .u8 x).wf = true := by
  have h1 : IntKind.u8.min = 0 := by decide
  have h2 : IntKind.u8.max = 255 := by decide
  simp only [Lit.wf, Bool.and_eq_true, decide_eq_true_eq, h1, h2]
  omega
theorem tell_eq {old : Nat → Nat} {h : Nat → Bool} {k x : Nat} (hx : x = plc (distK old h (k + 1)) (keyP old h k)) :
    (fun j => if j = k then x else (fun j => if j < k then plc (distK old h k) (keyP old h j) else 0) j) = (fun j => if j < k + 1 then plc (distK old h (k + 1)) (keyP old h j) else 0) := by
  funext j
  by_cases e : j = k
  · subst e
    rw [if_pos rfl, if_pos (by omega), hx]
  · rw [if_neg e]
    by_cases hj : j < k
    · rw [if_pos (show j < k + 1 by omega)]
      show (if j < k then _ else _) = _
      rw [if_pos hj, plc_step hj]
    · rw [if_neg (show ¬ j < k + 1 by omega)]
      show (if j < k then _ else _) = _
      rw [if_neg hj]

set_option maxRecDepth 100000 in
set_option maxHeartbeats 16000000 in
theorem parted_any (old : Nat → Nat) (q : Quad) (W : World) (hold : ∀ b, b < 256 → old b < 256) (hq : q.ok) :
    Calls Try.prog 58 #[.agg (bytV old).toArray, .agg #[.int .u64 q.a, .int .u64 q.b, .int .u64 q.c, .int .u64 q.d]] W fun e w' =>
      e = .returned (.tuple #[.agg (bytV (newC old (hasB q.a q.b q.c q.d))).toArray, .int .i64 ((distB old (hasB q.a q.b q.c q.d)).length : Int)]) ∧ Below W.heap.size W w' := by
  have hz := zeroV26
  have hmm := @run_makeMap Try.prog
  have hp0 : PW W old q (W.heap.size + 1 + 1 + 1 + 1) (fun _ => 0) 0 (.map []) ((((((W.alloc (.cells (bytV old).toArray 26)).alloc (.cells #[.int .u64 q.a, .int .u64 q.b, .int .u64 q.c, .int .u64 q.d] 46)).alloc (.cells zs26 26)).alloc (.cells zs26 26)).alloc (.map #[] 0))) := by
    refine ⟨(((((Below.refl _ _).alloc (Nat.le_refl _) _).alloc (by simp) _).alloc (by simp; omega) _).alloc (by simp; omega) _).alloc (by simp; omega) _, ((((Blk.new W 26 (bytV old)).alloc _).alloc _).alloc _).alloc _, ?_, ?_, ?_, ?_, rfl⟩
    · have := (((Blk.new (W.alloc (.cells (bytV old).toArray 26)) 46 q.cells).alloc (.cells zs26 26)).alloc (.cells zs26 26)).alloc (.map #[] 0)
      rw [World.size_alloc] at this
      exact this
    · have := ((Blk.new ((W.alloc (.cells (bytV old).toArray 26)).alloc (.cells #[.int .u64 q.a, .int .u64 q.b, .int .u64 q.c, .int .u64 q.d] 46)) 26 (bytV (fun _ => 0))).alloc (.cells zs26 26)).alloc (.map #[] 0)
      rw [World.size_alloc, World.size_alloc] at this
      exact this
    · have := (Blk.new (((W.alloc (.cells (bytV old).toArray 26)).alloc (.cells #[.int .u64 q.a, .int .u64 q.b, .int .u64 q.c, .int .u64 q.d] 46)).alloc (.cells zs26 26)) 26 (bytV (fun _ => 0))).alloc (.map #[] 0)
      rw [World.size_alloc, World.size_alloc, World.size_alloc] at this
      exact this
    · have := World.ownsMap_made ((((W.alloc (.cells (bytV old).toArray 26)).alloc (.cells #[.int .u64 q.a, .int .u64 q.b, .int .u64 q.c, .int .u64 q.d] 46)).alloc (.cells zs26 26)).alloc (.cells zs26 26)) Try.prog 125 (plainElem (H := Unit) Try.prog 5)
      rw [World.size_alloc, World.size_alloc, World.size_alloc, World.size_alloc] at this
      exact this
  have HP0 := Lib.hid hp0
  have HU := Lib.hid (fun (c : Nat) (hc : c < 256) (w : World) => has_any q.a q.b q.c q.d hq.1 hq.2.1 hq.2.2.1 hq.2.2.2 c hc w)
  have HO := Lib.hid hold
  clear hp0 hold hq
  obtain ⟨h, hh⟩ : ∃ h, h = hasB q.a q.b q.c q.d := ⟨_, rfl⟩
  rw [← hh] at HU ⊢
  have HH := Lib.hid hh
  clear hh
  go_enter Try.func58, Try.ntmps58
  go_upto_region 4 with (fail)
  generalize ((((W.alloc (.cells (bytV old).toArray 26)).alloc (.cells #[.int .u64 q.a, .int .u64 q.b, .int .u64 q.c, .int .u64 q.d] 46)).alloc (.cells zs26 26)).alloc (.cells zs26 26)).alloc (.map #[] 0) = W1 at HP0 ⊢
  clear hmm hz
  go_loopw [13] (fun iv wr => ∃ (k n : Nat) (D : DataW Unit), k ≤ 256 ∧ iv = .int .i64 (k : Int) ∧ PW W old q (W.heap.size + 1 + 1 + 1 + 1) (fun j => if j < k then plc (distK old h k) (keyP old h j) else 0) n D wr ∧ n ≤ k ∧ IdxD pairK .u8 D (distK old h k) ∧ Maps.size D = (distK old h k).length) (fun iv _ => 256 - (intOf iv).toNat)
  case atStart => exact ⟨0, 0, _, by omega, rfl, by simpa using HP0.out, Nat.le_refl _, idx_empty _ _, rfl⟩
  case round =>
    obtain ⟨k, n, D, hk, rfl, hp, hnk, hix, hsz⟩ := hrel
    obtain ⟨w3, rfl⟩ : ∃ w3 : World, w3 = wr := ⟨_, rfl⟩
    have HP := Lib.hid hp
    have HX := Lib.hid (And.intro hnk (And.intro hix hsz))
    clear hp hnk hix hsz
    by_cases hlt : k < 256
    · have d1 : decide ((k : Int) < 256) = true := by simp; omega
      have c0 := HP.out.b0.cell k
      rw [bytV_get _ hlt] at c0
      have hok := HO.out k hlt
      obtain ⟨ob, hob⟩ : ∃ ob, ob = old k := ⟨_, rfl⟩
      rw [← hob] at c0 hok
      have HOB := Lib.hid hob
      clear hob
      have hl1 := HP.out.b1.lt
      have e0 := HP.out.b1.cell 0
      have e1 := HP.out.b1.cell 1
      have e2 := HP.out.b1.cell 2
      have e3 := HP.out.b1.cell 3
      simp only [Quad.cells, List.getElem?_cons_zero, List.getElem?_cons_succ] at e0 e1 e2 e3
      obtain ⟨kb, hkb⟩ : ∃ kb, kb = h k := ⟨_, rfl⟩
      have hU := HU.out k hlt
      rw [← hkb] at hU
      have HUK := Lib.hid hU
      have HKB := Lib.hid hkb.symm
      clear hkb hU
      cases kb
      · skip
        go_upto_region 9 with (go_at_call 35; refine (HUK.out _).mono ?_; rintro e w5 ⟨rfl, rfl⟩)
        have hp5 := (HP.out.alloc (.cells #[.int .i64 (ob : Int), .int .i64 0] 125)).alloc (.cells #[.int .u64 q.a, .int .u64 q.b, .int .u64 q.c, .int .u64 q.d] 46)
        have hgf : W.heap.size + 1 + 1 + 1 + 1 < w3.heap.size := HP.out.mp.lt
        have hbx := (Blk.new w3 125 [.int .i64 (ob : Int), .int .i64 0]).alloc (.cells #[.int .u64 q.a, .int .u64 q.b, .int .u64 q.c, .int .u64 q.d] 46)
        skip
        clear hgf c0 e0 e1 e2 e3 hl1
        have HP5 := Lib.hid hp5
        have k0 := hbx.cell 0
        have k1 := hbx.cell 1
        simp only [List.getElem?_cons_zero, List.getElem?_cons_succ] at k0 k1
        clear hp5 hbx
        obtain ⟨gx, hgx⟩ : ∃ gx, gx = w3.heap.size := ⟨_, rfl⟩
        rw [← hgx] at k0 k1 ⊢
        (try rw [← hgx] at HP5)
        generalize (w3.alloc (.cells #[.int .i64 (ob : Int), .int .i64 0] 125)).alloc (.cells #[.int .u64 q.a, .int .u64 q.b, .int .u64 q.c, .int .u64 q.d] 46) = w6 at HP5 k0 k1 ⊢
        clear hgx
        have HKEY := Lib.hid (show keyP old h k = ((ob : Int), 0) by unfold keyP; rw [← HOB.out, HKB.out]; rfl)
        have hi1 : I64 (ob : Int) := i64_of _ (by omega) (by omega)
        have hi2 : I64 0 := i64_of _ (by omega) (by omega)
        have hls := distK_len (old := old) (h := h) k
        by_cases hin : ((ob : Int), 0) ∈ distK old h k
        · have hrun := idx_yes (te := 5) Try.underlying5 zero_u8 (wf_u8 (by omega) (by omega)) (mt := 124) keyed125 Try.underlying124 HP5.out.mp HX.out.2.1 ((ob : Int), 0) ⟨hi1, hi2⟩ (keyOf125 (ob : Int) 0 hi1 hi2) hin
          have hst : distK old h (k + 1) = distK old h k := by simp only [distK]; rw [HKEY.out, if_pos hin]
          have hlt2 := plc_lt hin
          obtain ⟨pl, hpd⟩ : ∃ pl, pl = plc (distK old h k) ((ob : Int), 0) := ⟨_, rfl⟩
          rw [← hpd] at hrun hlt2
          have HST := Lib.hid (And.intro hst hpd)
          have HRUN := Lib.hid hrun
          have m0 := HP5.out.b3.cell k
          have m1 := HP5.out.b3.frozen k
          rw [bytV_get _ hlt] at m0
          have hpb : pl < 256 := by omega
          clear hrun hst hpd hin hls hlt2
          go_wp2_with (at_lookup; refine wpList_look _ rfl _ _ 124 rfl _ _ _ rfl rfl HRUN.out ?_)
          go_roundw
          case rel =>
            have ht := HP5.out.tell k pl
            rw [tell_eq (by rw [HST.out.1, HKEY.out]; exact HST.out.2)] at ht
            exact ⟨k + 1, n, D, by omega, by go_num, ht, by have := HX.out.1; omega, by rw [HST.out.1]; exact HX.out.2.1, by rw [HST.out.1]; exact HX.out.2.2⟩
          case measure => simp [intOf]; omega
        · have hrun := idx_no (te := 5) Try.underlying5 zero_u8 (wf_u8 (by omega) (by omega)) (mt := 124) keyed125 Try.underlying124 HP5.out.mp HX.out.2.1 ((ob : Int), 0) ⟨hi1, hi2⟩ (keyOf125 (ob : Int) 0 hi1 hi2) hin
          have hst : distK old h (k + 1) = distK old h k ++ [((ob : Int), 0)] := by simp only [distK]; rw [HKEY.out, if_neg hin]
          obtain ⟨m, hm⟩ : ∃ m, m = (distK old h k).length := ⟨_, rfl⟩
          have hmb : m < 256 := by omega
          have hsz : Maps.size D = m := by rw [hm]; exact HX.out.2.2
          have hsn := idx_snoc HX.out.2.1 ((ob : Int), 0) ⟨hi1, hi2⟩ hin
          have hss := size_snoc HX.out.2.1 (HP5.out.mp.tidy keyed125) HX.out.2.2 ((ob : Int), 0) ⟨hi1, hi2⟩ hin (.lit (.int .u8 (m : Int)))
          rw [← hm] at hsn
          have hpn : plc (distK old h (k + 1)) (keyP old h k) = m := by rw [hst, HKEY.out, plc_new hin, hm]
          have HST := Lib.hid (And.intro hst (And.intro hsn (And.intro hss hpn)))
          have HRUN := Lib.hid hrun
          have hnm : n < maxLen := by have := HX.out.1; unfold maxLen; omega
          have hkey := keyOf125 (ob : Int) 0 hi1 hi2
          have HKY := Lib.hid hkey
          have hwf := wf_u8 (x := (m : Int)) (by omega) (by omega)
          have HWF := Lib.hid hwf
          have HSZ := Lib.hid hsz
          clear hrun hst hin hls hm hsn hss hpn hkey hwf
          go_wp2_with (first
            | (at_lookup; refine wpList_look _ rfl _ _ 124 rfl _ _ _ rfl rfl HRUN.out ?_)
            | (at_len; refine wpList_len_own _ rfl _ 124 rfl 125 5 Try.underlying124 _ (W.heap.size + 1 + 1 + 1 + 1) n D rfl HP5.out.mp ?_; rw [HSZ.out])
            | (at_mapUpdate; refine wpList_mapUpdate_own _ rfl _ _ _ 124 rfl 125 5 keyed125 Try.underlying124 (plainElem (H := Unit) Try.prog 5) (W.heap.size + 1 + 1 + 1 + 1) n D rfl HP5.out.mp hnm _ _ _ rfl rfl HKY.out _ [] (plainElem_int Try.underlying5 HWF.out) ?_; intro w7 hown7 hgrow7; have HP7 := Lib.hid (HP5.out.put hgrow7 hown7); have m0 := HP7.out.b3.cell k; have m1 := HP7.out.b3.frozen k; rw [bytV_get _ hlt] at m0; clear hown7 hgrow7))
          go_roundw
          case rel =>
            have ht := HP7.out.tell k m
            rw [tell_eq HST.out.2.2.2.symm] at ht
            exact ⟨k + 1, n + 1, _, by omega, by go_num, ht, by have := HX.out.1; omega, by rw [HST.out.1]; exact HST.out.2.1, by rw [HST.out.1]; exact HST.out.2.2.1⟩
          case measure => simp [intOf]; omega
      · skip
        go_upto_region 9 with (go_at_call 35; refine (HUK.out _).mono ?_; rintro e w5 ⟨rfl, rfl⟩)
        have hp5 := (HP.out.alloc (.cells #[.int .i64 (ob : Int), .int .i64 1] 125)).alloc (.cells #[.int .u64 q.a, .int .u64 q.b, .int .u64 q.c, .int .u64 q.d] 46)
        have hgf : W.heap.size + 1 + 1 + 1 + 1 < w3.heap.size := HP.out.mp.lt
        have hbx := (Blk.new w3 125 [.int .i64 (ob : Int), .int .i64 1]).alloc (.cells #[.int .u64 q.a, .int .u64 q.b, .int .u64 q.c, .int .u64 q.d] 46)
        skip
        clear hgf c0 e0 e1 e2 e3 hl1
        have HP5 := Lib.hid hp5
        have k0 := hbx.cell 0
        have k1 := hbx.cell 1
        simp only [List.getElem?_cons_zero, List.getElem?_cons_succ] at k0 k1
        clear hp5 hbx
        obtain ⟨gx, hgx⟩ : ∃ gx, gx = w3.heap.size := ⟨_, rfl⟩
        rw [← hgx] at k0 k1 ⊢
        (try rw [← hgx] at HP5)
        generalize ((w3.alloc (.cells #[.int .i64 (ob : Int), .int .i64 1] 125)).alloc (.cells #[.int .u64 q.a, .int .u64 q.b, .int .u64 q.c, .int .u64 q.d] 46)) = w6 at HP5 k0 k1 ⊢
        clear hgx
        have HKEY := Lib.hid (show keyP old h k = ((ob : Int), 1) by unfold keyP; rw [← HOB.out, HKB.out]; rfl)
        have hi1 : I64 (ob : Int) := i64_of _ (by omega) (by omega)
        have hi2 : I64 1 := i64_of _ (by omega) (by omega)
        have hls := distK_len (old := old) (h := h) k
        by_cases hin : ((ob : Int), 1) ∈ distK old h k
        · have hrun := idx_yes (te := 5) Try.underlying5 zero_u8 (wf_u8 (by omega) (by omega)) (mt := 124) keyed125 Try.underlying124 HP5.out.mp HX.out.2.1 ((ob : Int), 1) ⟨hi1, hi2⟩ (keyOf125 (ob : Int) 1 hi1 hi2) hin
          have hst : distK old h (k + 1) = distK old h k := by simp only [distK]; rw [HKEY.out, if_pos hin]
          have hlt2 := plc_lt hin
          obtain ⟨pl, hpd⟩ : ∃ pl, pl = plc (distK old h k) ((ob : Int), 1) := ⟨_, rfl⟩
          rw [← hpd] at hrun hlt2
          have HST := Lib.hid (And.intro hst hpd)
          have HRUN := Lib.hid hrun
          have m0 := HP5.out.b3.cell k
          have m1 := HP5.out.b3.frozen k
          rw [bytV_get _ hlt] at m0
          have hpb : pl < 256 := by omega
          clear hrun hst hpd hin hls hlt2
          go_wp2_with (at_lookup; refine wpList_look _ rfl _ _ 124 rfl _ _ _ rfl rfl HRUN.out ?_)
          go_roundw
          case rel =>
            have ht := HP5.out.tell k pl
            rw [tell_eq (by rw [HST.out.1, HKEY.out]; exact HST.out.2)] at ht
            exact ⟨k + 1, n, D, by omega, by go_num, ht, by have := HX.out.1; omega, by rw [HST.out.1]; exact HX.out.2.1, by rw [HST.out.1]; exact HX.out.2.2⟩
          case measure => simp [intOf]; omega
        · have hrun := idx_no (te := 5) Try.underlying5 zero_u8 (wf_u8 (by omega) (by omega)) (mt := 124) keyed125 Try.underlying124 HP5.out.mp HX.out.2.1 ((ob : Int), 1) ⟨hi1, hi2⟩ (keyOf125 (ob : Int) 1 hi1 hi2) hin
          have hst : distK old h (k + 1) = distK old h k ++ [((ob : Int), 1)] := by simp only [distK]; rw [HKEY.out, if_neg hin]
          obtain ⟨m, hm⟩ : ∃ m, m = (distK old h k).length := ⟨_, rfl⟩
          have hmb : m < 256 := by omega
          have hsz : Maps.size D = m := by rw [hm]; exact HX.out.2.2
          have hsn := idx_snoc HX.out.2.1 ((ob : Int), 1) ⟨hi1, hi2⟩ hin
          have hss := size_snoc HX.out.2.1 (HP5.out.mp.tidy keyed125) HX.out.2.2 ((ob : Int), 1) ⟨hi1, hi2⟩ hin (.lit (.int .u8 (m : Int)))
          rw [← hm] at hsn
          have hpn : plc (distK old h (k + 1)) (keyP old h k) = m := by rw [hst, HKEY.out, plc_new hin, hm]
          have HST := Lib.hid (And.intro hst (And.intro hsn (And.intro hss hpn)))
          have HRUN := Lib.hid hrun
          have hnm : n < maxLen := by have := HX.out.1; unfold maxLen; omega
          have hkey := keyOf125 (ob : Int) 1 hi1 hi2
          have HKY := Lib.hid hkey
          have hwf := wf_u8 (x := (m : Int)) (by omega) (by omega)
          have HWF := Lib.hid hwf
          have HSZ := Lib.hid hsz
          clear hrun hst hin hls hm hsn hss hpn hkey hwf
          go_wp2_with (first
            | (at_lookup; refine wpList_look _ rfl _ _ 124 rfl _ _ _ rfl rfl HRUN.out ?_)
            | (at_len; refine wpList_len_own _ rfl _ 124 rfl 125 5 Try.underlying124 _ (W.heap.size + 1 + 1 + 1 + 1) n D rfl HP5.out.mp ?_; rw [HSZ.out])
            | (at_mapUpdate; refine wpList_mapUpdate_own _ rfl _ _ _ 124 rfl 125 5 keyed125 Try.underlying124 (plainElem (H := Unit) Try.prog 5) (W.heap.size + 1 + 1 + 1 + 1) n D rfl HP5.out.mp hnm _ _ _ rfl rfl HKY.out _ [] (plainElem_int Try.underlying5 HWF.out) ?_; intro w7 hown7 hgrow7; have HP7 := Lib.hid (HP5.out.put hgrow7 hown7); have m0 := HP7.out.b3.cell k; have m1 := HP7.out.b3.frozen k; rw [bytV_get _ hlt] at m0; clear hown7 hgrow7))
          go_roundw
          case rel =>
            have ht := HP7.out.tell k m
            rw [tell_eq HST.out.2.2.2.symm] at ht
            exact ⟨k + 1, n + 1, _, by omega, by go_num, ht, by have := HX.out.1; omega, by rw [HST.out.1]; exact HST.out.2.1, by rw [HST.out.1]; exact HST.out.2.2.1⟩
          case measure => simp [intOf]; omega
    · have hk6 : k = 256 := by omega
      have hb3 : Blk w3 (W.heap.size + 1 + 1 + 1) 26 (bytV (newC old h)) := by
        have h9 := HP.out.b3
        rw [bytV_congr (g := newC old h) (fun j hj => by
          show (if j < k then plc (distK old h k) (keyP old h j) else 0) = _
          rw [if_pos (by omega), hk6]
          rfl)] at h9
        exact h9
      have hlen : (distK old h k).length = (distB old h).length := by rw [hk6]; rfl
      have hsz : Maps.size D = (distB old h).length := by rw [← hlen]; exact HX.out.2.2
      have d1 : decide ((k : Int) < 256) = false := by simp; omega
      have hld := load26 hb3
      have hst := store26 (f := newC old h) HP.out.b2
      have HB3 := Lib.hid hb3
      have HSZ := Lib.hid hsz
      clear hb3 hk6 hlen hsz
      go_wp2_with (at_len; refine wpList_len_own _ rfl _ 124 rfl 125 5 Try.underlying124 _ (W.heap.size + 1 + 1 + 1 + 1) n D rfl HP.out.mp ?_; rw [HSZ.out])
      (try simp only [Exit.inBlock, Exit.then])
      refine bodyPost_ret (res26 rfl rfl rfl (by have h9 := HP.out.b2.row (bytV (newC old h)).toArray; simpa using h9)) rfl ?_
      exact ⟨by first | rfl | simp, below_setRow HP.out.bel (by omega) _⟩
end Go.Proofs.Ytfjhcoeehjephaa
/- set.Classes: the classes of all sets. -/
namespace Go.Proofs.Ytfjhcoeehjephaa
open Go.RowKit Go.Maps Go.WideMaps
attribute [local go_sem ↓] load_box store_box

/-- sets in a row -/
def QdC (l : List Quad) : Nat → Nat → Value := fun k j => ((l.getD k ⟨0, 0, 0, 0⟩).cells).getD j undef
theorem Arr.quad {w : World} {B n k : Nat} {A : Option Addr} {l : List Quad} (h : Arr w B 4 A n (QdC l)) (hk : k < n) : ∃ b off, A = some ⟨b, off, none⟩ ∧ b < B ∧
    w.cell? ⟨b, off + k * 4, none⟩ = some (.int .u64 (l.getD k ⟨0, 0, 0, 0⟩).a) ∧ w.cell? ⟨b, off + k * 4 + 1, none⟩ = some (.int .u64 (l.getD k ⟨0, 0, 0, 0⟩).b) ∧ w.cell? ⟨b, off + k * 4 + 2, none⟩ = some (.int .u64 (l.getD k ⟨0, 0, 0, 0⟩).c) ∧ w.cell? ⟨b, off + k * 4 + 3, none⟩ = some (.int .u64 (l.getD k ⟨0, 0, 0, 0⟩).d) := by
  obtain ⟨b, off, e, hlt, hc⟩ := h (by omega)
  exact ⟨b, off, e, hlt, hc k 0 hk (by omega), hc k 1 hk (by omega), hc k 2 hk (by omega), hc k 3 hk (by omega)⟩
/-- a set of sets -/
def SetD (D : DataW Unit) (l : List Quad) : Prop := IsMap D ∧ ∀ s : Quad, s.ok → Maps.has D (keyQ s) = decide (s ∈ l)
theorem set_empty : SetD (.map []) [] := ⟨isMap_empty, fun s _ => by simp; rfl⟩
theorem set_snoc {D : DataW Unit} {l : List Quad} (h : SetD D l) (s : Quad) (hs : s.ok) (d : DataW Unit) : SetD (D.put (keyQ s) d) (l ++ [s]) := by
  refine ⟨h.1.put _ _, fun x hx => ?_⟩
  by_cases e : x = s
  · subst e
    exact (has_put_same h.1 (quadK.isLit x) d).trans (by simp)
  · have hne : keyQ x ≠ keyQ s := fun hk => e (keyQ_inj hx hs hk)
    rw [has_put_other hne, h.2 x hx]; simp [e]
theorem setD_skip {D : DataW Unit} {l : List Quad} (h : SetD D l) (s : Quad) (hm : s ∈ l) : SetD D (l ++ [s]) :=
  ⟨h.1, fun x hx => by rw [h.2 x hx]; by_cases e : x = s <;> simp [e, hm]⟩
theorem zero_unit (w : World) : (zeroValue 108).run Try.prog w = .ok (.agg #[]) w := by kernel_rfl
theorem set_look {w : World} {g n : Nat} {D : DataW Unit} {l : List Quad} (hown : w.ownsMap Try.prog 44 (unitElem (H := Unit)) g n D) (hR : SetD D l) (s : Quad) (hs : s.ok) :
    (Instr.lookup 107 (.map (some g)) (.agg #[.int .u64 s.a, .int .u64 s.b, .int .u64 s.c, .int .u64 s.d]) true).run Try.prog w = .ok (.tuple #[.agg #[], .bool (decide (s ∈ l))]) w := by
  obtain ⟨v', ps, hrun, hv'⟩ := hown.look_ok keyed44 Try.underlying107 (zero_unit w) unitElem_mk (keyOf44 s hs)
  obtain ⟨rfl, _⟩ := unitElem_inv hv'
  rw [hrun, hR.2 s hs]
theorem cls_skip {cls : Nat → Nat} {many : Nat} {l : List Quad} (h : ClsOk cls many l) (s : Quad) (hm : s ∈ l) : ClsOk cls many (l ++ [s]) :=
  ⟨h.lt, h.has, fun b b' hb hb' he q hq => by
    rcases List.mem_append.1 hq with h9 | h9
    · exact h.alike b b' hb hb' he q h9
    · exact h.alike b b' hb hb' he q (by rw [List.mem_singleton.1 h9]; exact hm), h.hi⟩
/-- what stays in Classes -/
structure CW (W : World) (gm : Nat) (cls : Nat → Nat) (n : Nat) (D : DataW Unit) (w : World) : Prop where
  bel : Below W.heap.size W w
  b0 : Blk w W.heap.size 26 (bytV (fun _ => 0))
  b1 : Blk w (W.heap.size + 1) 26 (bytV cls)
  mp : w.ownsMap Try.prog 44 (unitElem (H := Unit)) gm n D
  gm : gm = W.heap.size + 1 + 1
section
variable {W w w' : World} {cls : Nat → Nat} {gm n : Nat} {D : DataW Unit}
theorem CW.go (h : CW W gm cls n D w) (hb : Below w.heap.size w w') : CW W gm cls n D w' :=
  ⟨h.bel.trans (hb.mono h.bel.size), h.b0.below hb h.b0.lt, h.b1.below hb h.b1.lt, h.mp.kept (row := none) ⟨hb.os, hb.tape, hb.output, hb.size, fun b hb' _ => hb.block b hb'⟩ (by simp), h.gm⟩
theorem CW.alloc (h : CW W gm cls n D w) (o : Obj) : CW W gm cls n D (w.alloc o) := h.go ((Below.refl _ _).alloc (Nat.le_refl _) _)
theorem CW.tell (h : CW W gm cls n D w) (c : Nat → Nat) : CW W gm c n D (w.setRow (W.heap.size + 1) (bytV c).toArray) := by
  have hg := h.gm
  refine ⟨below_setRow h.bel (by omega) _, h.b0.row_other _ (by omega), ?_, ?_, hg⟩
  · have := h.b1.row (bytV c).toArray; simpa using this
  · obtain ⟨es, clock, hb, r⟩ := h.mp
    exact ⟨es, clock, (setRow_other w _ gm _ (by omega)).trans hb, r⟩
theorem CW.put (h : CW W gm cls n D w) {n' : Nat} {D' : DataW Unit} (hg : w.grownBy w' (some gm)) (hm : w'.ownsMap Try.prog 44 (unitElem (H := Unit)) gm n' D') : CW W gm cls n' D' w' := by
  have := h.gm
  have hk : ∀ {g t : Nat} {cur : List Value}, Blk w g t cur → g ≠ gm → Blk w' g t cur := fun h9 hne => h9.same (hg.block _ h9.lt (fun e => hne (by cases e; rfl)))
  exact ⟨h.bel.grown hg h.bel.size (fun k e => by cases e; omega), hk h.b0 (by omega), hk h.b1 (by omega), hm, h.gm⟩
end

set_option maxRecDepth 100000 in
set_option maxHeartbeats 16000000 in
theorem classes_any (A : Option Addr) (n c : Nat) (l : List Quad) (W : World) (hn : n = l.length) (hn2 : n ≤ 16000) (hl : ∀ q ∈ l, q.ok) (ha : Arr W W.heap.size 4 A n (QdC l)) :
    Calls Try.prog 32 #[.slice A n c] W fun e w' => ∃ cls many, ClsOk cls many l ∧
      e = .returned (.tuple #[.agg (bytV cls).toArray, .int .i64 (many : Int)]) ∧ Below W.heap.size W w' := by
  have hz := zeroV26
  have hmm := @run_makeMap Try.prog
  have hp0 : CW W (W.heap.size + 1 + 1) (fun _ => 0) 0 (.map []) (((W.alloc (.cells zs26 26)).alloc (.cells zs26 26)).alloc (.map #[] 0)) := by
    refine ⟨(((Below.refl _ _).alloc (Nat.le_refl _) _).alloc (by simp) _).alloc (by simp; omega) _, ((Blk.new W 26 (bytV (fun _ => 0))).alloc _).alloc _, ?_, ?_, rfl⟩
    · have := (Blk.new (W.alloc (.cells zs26 26)) 26 (bytV (fun _ => 0))).alloc (.map #[] 0)
      rw [World.size_alloc] at this
      exact this
    · have := World.ownsMap_made ((W.alloc (.cells zs26 26)).alloc (.cells zs26 26)) Try.prog 44 (unitElem (H := Unit))
      rw [World.size_alloc, World.size_alloc] at this
      exact this
  have HP0 := Lib.hid hp0
  have HL := Lib.hid hl
  have HA := Lib.hid ha
  have HN := Lib.hid hn
  have HUP := Lib.hid parted_any
  clear hp0 hl ha hn
  go_enter Try.func32, Try.ntmps32
  go_upto_region 5 with (fail)
  generalize (((W.alloc (.cells zs26 26)).alloc (.cells zs26 26)).alloc (.map #[] 0)) = W1 at HP0 ⊢
  clear hmm hz
  go_loopw [5, 14] (fun mv iv wr => ∃ (k m many : Nat) (cls : Nat → Nat) (D : DataW Unit), k ≤ n ∧ iv = .int .i64 (k : Int) ∧ mv = .int .i64 (many : Int) ∧ CW W (W.heap.size + 1 + 1) cls m D wr ∧ m ≤ k ∧ SetD D (l.take k) ∧ ClsOk cls many (l.take k)) (fun _ iv _ => n - (intOf iv).toNat)
  case atStart => exact ⟨0, 0, 1, _, _, by omega, rfl, rfl, by simpa using HP0.out, Nat.le_refl _, set_empty, cls_begin⟩
  case round =>
    obtain ⟨k, m, many, cls, D, hk, rfl, rfl, hp, hmk, hsd, hcl⟩ := hrel
    obtain ⟨w3, rfl⟩ : ∃ w3 : World, w3 = wr := ⟨_, rfl⟩
    have HP := Lib.hid hp
    have HX := Lib.hid (And.intro hmk (And.intro hsd hcl))
    clear hp hmk hsd hcl
    by_cases hlt : k < n
    · have d1 : decide ((k : Int) < (n : Int)) = true := by simp; omega
      have hkl : k < l.length := by have := HN.out; omega
      obtain ⟨b, o, rfl, hbl, p0, p1, p2, p3⟩ := ((HA.out.below HP.out.bel).more HP.out.bel.size).quad hlt
      have hq := HL.out _ (getD_mem (d := ⟨0, 0, 0, 0⟩) hkl)
      have htk := take_next l k ⟨0, 0, 0, 0⟩ hkl
      obtain ⟨q, hqd⟩ : ∃ q, q = l.getD k ⟨0, 0, 0, 0⟩ := ⟨_, rfl⟩
      rw [← hqd] at p0 p1 p2 p3 hq htk
      have HQ := Lib.hid hq
      have HTK := Lib.hid htk
      clear hqd hq htk
      go_upto_region 7 with (fail)
      have hp5 := HP.out.alloc (.cells #[.int .u64 q.a, .int .u64 q.b, .int .u64 q.c, .int .u64 q.d] 46)
      have hbx := Blk.new w3 46 [.int .u64 q.a, .int .u64 q.b, .int .u64 q.c, .int .u64 q.d]
      have HP5 := Lib.hid hp5
      have hgf : W.heap.size + 1 + 1 < w3.heap.size := HP.out.mp.lt
      clear hp5 p0 p1 p2 p3 hbl
      obtain ⟨gx, hgx⟩ : ∃ gx, gx = w3.heap.size := ⟨_, rfl⟩
      rw [← hgx] at hbx hgf ⊢
      change Blk (w3.alloc (.cells #[.int .u64 q.a, .int .u64 q.b, .int .u64 q.c, .int .u64 q.d] 46)) gx 46 _ at hbx
      generalize w3.alloc (.cells #[.int .u64 q.a, .int .u64 q.b, .int .u64 q.c, .int .u64 q.d] 46) = w6 at HP5 hbx ⊢
      have HBX := Lib.hid hbx
      have e0 := hbx.cell 0
      have e1 := hbx.cell 1
      have e2 := hbx.cell 2
      have e3 := hbx.cell 3
      simp only [List.getElem?_cons_zero, List.getElem?_cons_succ] at e0 e1 e2 e3
      have hgl := hbx.lt
      clear hgx hbx
      by_cases hin : q ∈ l.take k
      · have hrun := set_look HP5.out.mp HX.out.2.1 q HQ.out
        rw [decide_eq_true hin] at hrun
        have HRUN := Lib.hid hrun
        have HIN := Lib.hid hin
        clear hrun hin
        go_wp2_with (at_lookup; refine wpList_look _ rfl _ _ 107 rfl _ _ _ rfl rfl HRUN.out ?_)
        go_roundw
        case rel => exact ⟨k + 1, m, many, cls, D, by omega, by go_num, rfl, HP5.out.alloc _, by have := HX.out.1; omega, by rw [HTK.out]; exact setD_skip HX.out.2.1 _ HIN.out, by rw [HTK.out]; exact cls_skip HX.out.2.2 _ HIN.out⟩
        case measure => simp [intOf]; omega
      · have hrun := set_look HP5.out.mp HX.out.2.1 q HQ.out
        rw [decide_eq_false hin] at hrun
        have HRUN := Lib.hid hrun
        have HIN := Lib.hid hin
        have hmx : m < maxLen := by have := HX.out.1; unfold maxLen; omega
        have hky := keyOf44 q HQ.out
        have HKY := Lib.hid hky
        clear hrun hin hky
        go_upto_region 10 with (first
          | (at_lookup; refine wpList_look _ rfl _ _ 107 rfl _ _ _ rfl rfl HRUN.out ?_)
          | (at_mapUpdate; refine wpList_mapUpdate_own _ rfl _ _ _ 107 rfl 44 108 keyed44 Try.underlying107 (unitElem (H := Unit)) (W.heap.size + 1 + 1) m D rfl (HP5.out.alloc _).mp hmx _ _ _ rfl rfl HKY.out _ [] unitElem_mk ?_; intro w7 hown7 hgrow7; have HP7 := Lib.hid ((HP5.out.alloc _).put hgrow7 hown7); have hbx7 := (HBX.out.alloc (.cells #[] 108)).same (hgrow7.block _ (HBX.out.alloc _).lt (by simp; omega)); have k0 := hbx7.cell 0; have k1 := hbx7.cell 1; have k2 := hbx7.cell 2; have k3 := hbx7.cell 3; simp only [List.getElem?_cons_zero, List.getElem?_cons_succ] at k0 k1 k2 k3; clear hown7 hgrow7 hbx7))
        have hld := load26 HP7.out.b1
        have hlt8 := HX.out.2.2.lt
        have hhi := HX.out.2.2.hi
        go_wp2_with (go_at_call 58; refine (HUP.out cls q _ (fun b9 h9 => by have := hlt8 b9 h9; omega) HQ.out).mono ?_; rintro e w8 ⟨rfl, hbel8⟩; have HP8 := Lib.hid (HP7.out.go hbel8); have hst := store26 (f := newC cls (hasB q.a q.b q.c q.d)) HP8.out.b1; clear hbel8)
        go_roundw
        case rel => exact ⟨k + 1, m + 1, _, _, _, by omega, by go_num, rfl, HP8.out.tell _, by have := HX.out.1; omega, by rw [HTK.out]; exact set_snoc HX.out.2.1 _ HQ.out _, by rw [HTK.out]; exact cls_parted HX.out.2.2 q⟩
        case measure => simp [intOf]; omega
    · obtain rfl : k = n := by omega
      have d1 : decide ((k : Int) < (k : Int)) = false := by simp
      have hcl := HX.out.2.2
      rw [List.take_of_length_le (by have := HN.out; omega)] at hcl
      have HCL := Lib.hid hcl
      have hld := load26 HP.out.b1
      have hst := store26 (f := cls) HP.out.b0
      clear hcl
      go_wp2_with fail
      (try simp only [Exit.inBlock, Exit.then])
      refine bodyPost_ret (res26 rfl rfl rfl (by have h9 := HP.out.b0.row (bytV cls).toArray; simpa using h9)) rfl ?_
      exact ⟨cls, many, HCL.out, by first | rfl | simp, below_setRow HP.out.bel (by omega) _⟩
end Go.Proofs.Ytfjhcoeehjephaa
