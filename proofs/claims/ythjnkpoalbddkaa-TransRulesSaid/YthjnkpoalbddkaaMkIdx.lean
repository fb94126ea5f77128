/- Maps from things to their places in a list. -/
import Derived.Test.YthjnkpoalbddkaaAft
import Derived.Maps.OwnOps
import Derived.Maps.OwnSet
import Derived.DeepKeys4
import Derived.ChangeKeys
namespace Go.Proofs.Ythjnkpoalbddkaa
open Go.RowKit Go.Maps Go.WideMaps
/-- how things are spelled as keys -/
structure KeyS (S : Type) where
  lit : S → Lit
  ok : S → Prop
  inj : ∀ a b, ok a → ok b → lit a = lit b → a = b
  isLit : ∀ s, WideAt.IsKeyLit (lit s)
section
variable {H S : Type} [DecidableEq S]
/-- the place of a thing -/
def plc (all : List S) (s : S) : Nat := all.idxOf s
theorem plc_get {l : List S} {s : S} (h : s ∈ l) : l[plc l s]? = some s := by
  unfold plc
  rw [List.getElem?_eq_getElem (List.idxOf_lt_length_of_mem h)]
  simp
theorem plc_old {l : List S} {x : S} (r : List S) (h : x ∈ l) : plc (l ++ r) x = plc l x := by
  unfold plc; rw [List.idxOf_append, if_pos h]
theorem plc_new {l : List S} {x : S} (h : x ∉ l) : plc (l ++ [x]) x = l.length := by
  unfold plc; rw [List.idxOf_append, if_neg h]; simp
def placeI (all : List S) (s : S) : Int := if s ∈ all then (plc all s : Int) else 0
def IdxD (K : KeyS S) (D : DataW H) (all : List S) : Prop :=
  IsMap D ∧ ∀ s, K.ok s → Maps.has D (K.lit s) = decide (s ∈ all) ∧ ∀ z, D.atKey (K.lit s) z = if s ∈ all then .lit (.int .i64 (plc all s : Nat)) else z
theorem idx_empty (K : KeyS S) : IdxD K (.map [] : DataW H) ([] : List S) :=
  ⟨isMap_empty, fun s _ => ⟨by simp; rfl, fun z => by simp; rfl⟩⟩
theorem idx_snoc {K : KeyS S} {D : DataW H} {all : List S} (h : IdxD K D all) (s : S) (hs : K.ok s) (hn : s ∉ all) : IdxD K (D.put (K.lit s) (.lit (.int .i64 (all.length : Nat)))) (all ++ [s]) := by
  refine ⟨h.1.put _ _, fun x hx => ?_⟩
  by_cases e : x = s
  · subst e
    refine ⟨by rw [has_put_same h.1 (K.isLit _)]; simp, fun z => ?_⟩
    rw [atKey_put_same h.1 (K.isLit _), if_pos (by simp), plc_new hn]
  · have hne : K.lit x ≠ K.lit s := fun hk => e (K.inj _ _ hx hs hk)
    refine ⟨by rw [has_put_other hne, (h.2 x hx).1]; simp [e], fun z => ?_⟩
    rw [atKey_put_other hne, (h.2 x hx).2 z]
    by_cases hm : x ∈ all
    · rw [if_pos hm, if_pos (by simp [hm]), plc_old _ hm]
    · rw [if_neg hm, if_neg (by simp [hm, e])]
end
theorem zero3m (w : World) : (zeroValue 3).run Try.prog w = .ok (.int .i64 0) w := by kernel_rfl
theorem idx_lookup {S : Type} [DecidableEq S] {K : KeyS S} {w : World} {g n : Nat} {D : DataW Unit} {all : List S} {mt kt : TypeId} (hkd : Keyed Try.prog kt) (hmt : Try.prog.underlying mt = some (.map kt 3)) (hown : w.ownsMap Try.prog kt (plainElem Try.prog 3) g n D) (hR : IdxD K D all) (s : S) (hs : K.ok s)
    {v : Value} (hv : keyOf Try.prog kt v = some (K.lit s)) :
    (Instr.lookup mt (.map (some g)) v true).run Try.prog w = .ok (.tuple #[.int .i64 (placeI all s), .bool (decide (s ∈ all))]) w := by
  obtain ⟨v', ps, hrun, hv'⟩ := hown.look_ok hkd hmt (zero3m w) (plainElem_int Try.underlying3 (by decide)) hv
  obtain ⟨c, rfl, hc, _⟩ := plainElem_int_inv Try.underlying3 hv'
  simp only [Prod.mk.injEq] at hc
  obtain ⟨hh, hat⟩ := hR.2 s hs
  rw [hrun, hh]
  rw [hat] at hc
  unfold placeI
  by_cases hm : s ∈ all
  · rw [if_pos hm] at hc ⊢
    have : c = (plc all s : Nat) := by have := hc.1; simpa using this.symm
    rw [this]
  · rw [if_neg hm] at hc ⊢
    have : c = 0 := by have := hc.1; simpa using this.symm
    rw [this]
/-! Pairs of numbers. -/
theorem Try.laidOut' : laidOutB Try.prog = true := by kernel_rfl
set_option maxRecDepth 100000 in
theorem key89 : Try.prog.keyTypeAt 2 89 = true := by kernel_rfl
set_option maxRecDepth 100000 in
theorem row89 : (89 : TypeId) < Try.prog.types.size := of_decide_eq_true (by kernel_rfl)
set_option maxRecDepth 100000 in
theorem wide89 : (match Try.prog.underlying 89 with | some (.array _ _) | some (.struct _) => true | _ => false) = true := by rw [Try.underlying89]
set_option maxRecDepth 100000 in
theorem keyed89 : Keyed Try.prog 89 := Keyed.of_law (deep_law_laid Try.laidOut' (m := 2) (by omega) row89 key89 wide89)
set_option maxRecDepth 100000 in
theorem cells89 : Try.prog.cellsOf 89 = 2 := by kernel_rfl
theorem cells3m : Try.prog.cellsOf 3 = 1 := by kernel_rfl
set_option maxRecDepth 100000 in
theorem keyType89 : Try.prog.keyType 89 = true := by kernel_rfl
def keyM (a b : Int) : Lit := .string (keyBytes [.int .i64 a, .int .i64 b])
def I64 (a : Int) : Prop := (Lit.int .i64 a).wf = true
theorem i64_of (a : Int) (h0 : 0 ≤ a) (h1 : a < 9223372036854775807) : I64 a := by
  unfold I64
  exact WalkArith.wf_i64 (by omega)
set_option maxRecDepth 100000 in
theorem keyLits89 (n : Nat) (a b : Int) (ha : I64 a) (hb : I64 b) : Try.prog.keyLits (n + 2) 89 [.int .i64 a, .int .i64 b] = some [.int .i64 a, .int .i64 b] := by
  unfold I64 at ha hb
  simp only [Program.keyLits, Try.underlying89, cells89]
  have hr : List.range 2 = [0, 1] := rfl
  simp [Try.underlying3, cells3m, hr, ha, hb, List.mapM_cons]
set_option maxRecDepth 100000 in
theorem keyOf89 (a b : Int) (ha : I64 a) (hb : I64 b) : keyOf Try.prog 89 (.agg #[.int .i64 a, .int .i64 b]) = some (keyM a b) := by
  have hf : (Value.agg #[.int .i64 a, .int .i64 b]).formed Try.prog 89 = true := by simp [Value.formed, Try.underlying89, cells89]
  have hsz : ∃ n, Try.prog.types.size + 1 = n + 2 := ⟨Try.prog.types.size - 1, by have h : 89 < Try.prog.types.size := row89; omega⟩
  obtain ⟨n, hn⟩ := hsz
  simp only [keyOf, Try.underlying89, keyType89, hf, Bool.and_self, if_true, Value.cells, hn]
  rw [keyLits89 n a b ha hb]
  rfl
theorem keyM_inj {a b c d : Int} (ha : I64 a) (hb : I64 b) (hc : I64 c) (hd : I64 d) (h : keyM a b = keyM c d) : a = c ∧ b = d := by
  have e : keyBytes [.int .i64 a, .int .i64 b] = keyBytes [.int .i64 c, .int .i64 d] := by injection h
  have hsz := keyLits_inj (keyLits89 0 a b ha hb) (keyLits89 0 c d hc hd) e
  simpa using hsz
def pairK : KeyS (Int × Int) := ⟨fun p => keyM p.1 p.2, fun p => I64 p.1 ∧ I64 p.2, fun _ _ ha hb h => Prod.ext (keyM_inj ha.1 ha.2 hb.1 hb.2 h).1 (keyM_inj ha.1 ha.2 hb.1 hb.2 h).2, fun _ => trivial⟩
/-! Texts. -/
def textK : KeyS Bs := ⟨fun t => .string t, fun t => t.length ≤ 9223372036854775807, fun _ _ _ _ h => by injection h, fun _ => trivial⟩
theorem keyOf_text (t : Bs) (h : t.length ≤ 9223372036854775807) : keyOf Try.prog 9 (.string ⟨t.toArray⟩) = some (textK.lit t) := by
  rw [keyOf_string_mk Try.underlying9 (by show t.toArray.size ≤ maxLen; simp [maxLen]; exact h)]
  rfl
end Go.Proofs.Ythjnkpoalbddkaa
