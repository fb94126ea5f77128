/- Pairs of ids as the keys of a map: what a map of ranks holds, pair by pair. -/
import Derived.Test.YtfjgfabochiflaaHMTTc
import Derived.Maps.OwnOps
import Derived.Maps.OwnSet
import Derived.DeepKeys4
import Derived.ChangeKeys
namespace Go.Proofs.Ytfjgfabochiflaa.H14
open Go.RowKit Go.Maps Go.WideMaps

theorem Try.laidOut : laidOutB Try.prog = true := by kernel_rfl
set_option maxRecDepth 100000 in
theorem key43 : Try.prog.keyTypeAt 2 94 = true := by kernel_rfl
set_option maxRecDepth 100000 in
theorem row43 : (94 : TypeId) < Try.prog.types.size := of_decide_eq_true (by kernel_rfl)
set_option maxRecDepth 100000 in
theorem wide43 : (match Try.prog.underlying 94 with | some (.array _ _) | some (.struct _) => true | _ => false) = true := by rw [Try.underlying94]
set_option maxRecDepth 100000 in
theorem keyed43 : Keyed Try.prog 94 := Keyed.of_law (deep_law_laid Try.laidOut (m := 2) (by omega) row43 key43 wide43)
set_option maxRecDepth 100000 in
theorem cells43 : Try.prog.cellsOf 94 = 2 := by kernel_rfl
theorem cells3 : Try.prog.cellsOf 3 = 1 := by kernel_rfl
set_option maxRecDepth 100000 in
theorem keyType43 : Try.prog.keyType 94 = true := by kernel_rfl
theorem zero3 (w : World) : (zeroValue 3).run Try.prog w = .ok (.int .i64 0) w := by kernel_rfl

/-- the key of two ids -/
def keyM (a b : Int) : Lit := .string (keyBytes [.int .i64 a, .int .i64 b])
def I64 (a : Int) : Prop := (Lit.int .i64 a).wf = true

set_option maxRecDepth 100000 in
theorem keyLits43 (n : Nat) (a b : Int) (ha : I64 a) (hb : I64 b) : Try.prog.keyLits (n + 2) 94 [.int .i64 a, .int .i64 b] = some [.int .i64 a, .int .i64 b] := by
  unfold I64 at ha hb
  simp only [Program.keyLits, Try.underlying94, cells43]
  simp [Try.underlying3, cells3, ha, hb, List.mapM_cons]
set_option maxRecDepth 100000 in
theorem keyOf43 (a b : Int) (ha : I64 a) (hb : I64 b) : keyOf Try.prog 94 (.agg #[.int .i64 a, .int .i64 b]) = some (keyM a b) := by
  have hf : (Value.agg #[.int .i64 a, .int .i64 b]).formed Try.prog 94 = true := by simp [Value.formed, Try.underlying94, cells43]
  have hsz : ∃ n, Try.prog.types.size + 1 = n + 2 := ⟨Try.prog.types.size - 1, by have h : 94 < Try.prog.types.size := row43; omega⟩
  obtain ⟨n, hn⟩ := hsz
  simp only [keyOf, Try.underlying94, keyType43, hf, Bool.and_self, if_true, Value.cells, hn]
  rw [keyLits43 n a b ha hb]
  rfl
theorem keyM_inj {a b c d : Int} (ha : I64 a) (hb : I64 b) (hc : I64 c) (hd : I64 d) (h : keyM a b = keyM c d) : a = c ∧ b = d := by
  have e : keyBytes [.int .i64 a, .int .i64 b] = keyBytes [.int .i64 c, .int .i64 d] := by injection h
  have hsz := keyLits_inj (keyLits43 0 a b ha hb) (keyLits43 0 c d hc hd) e
  simpa using hsz
theorem keyM_lit (a b : Int) : WideAt.IsKeyLit (keyM a b) := trivial

/-- the map of ranks: D tells of each pair what F does -/
def Ranks {H : Type} (D : DataW H) (F : Int → Int → Option Nat) : Prop :=
  IsMap D ∧ ∀ a b, I64 a → I64 b → Maps.has D (keyM a b) = (F a b).isSome ∧ ∀ z, D.atKey (keyM a b) z = match F a b with | some k => .lit (.int .i64 k) | none => z
theorem ranks_empty {H : Type} : Ranks (.map [] : DataW H) (fun _ _ => none) :=
  ⟨isMap_empty, fun _ _ _ _ => ⟨rfl, fun _ => rfl⟩⟩
theorem ranks_put {H : Type} {D : DataW H} {F : Int → Int → Option Nat} (h : Ranks D F) (a b : Int) (ha : I64 a) (hb : I64 b) (k : Nat) :
    Ranks (D.put (keyM a b) (.lit (.int .i64 k))) (fun x y => if x = a ∧ y = b then some k else F x y) := by
  refine ⟨h.1.put _ _, fun x y hx hy => ?_⟩
  dsimp only
  by_cases e : x = a ∧ y = b
  · obtain ⟨rfl, rfl⟩ := e
    rw [if_pos ⟨rfl, rfl⟩]
    exact ⟨has_put_same h.1 (keyM_lit _ _) _, fun z => atKey_put_same h.1 (keyM_lit _ _) _ _⟩
  · have hne : keyM x y ≠ keyM a b := fun hk => e (keyM_inj hx hy ha hb hk)
    rw [if_neg e]
    refine ⟨?_, fun z => ?_⟩
    · rw [has_put_other hne]; exact (h.2 x y hx hy).1
    · rw [atKey_put_other hne]; exact (h.2 x y hx hy).2 z
set_option maxRecDepth 100000 in
theorem ranks_lookup {w : World} {g n : Nat} {D : DataW Unit} {F : Int → Int → Option Nat} (hown : w.ownsMap Try.prog 94 (plainElem Try.prog 3) g n D) (hR : Ranks D F) (a b : Int) (ha : I64 a) (hb : I64 b) :
    (Instr.lookup 160 (.map (some g)) (.agg #[.int .i64 a, .int .i64 b]) true).run Try.prog w = .ok (.tuple #[.int .i64 (match F a b with | some k => (k : Int) | none => 0), .bool (F a b).isSome]) w := by
  obtain ⟨v, ps, hrun, hv⟩ := hown.look_ok keyed43 Try.underlying160 (zero3 w) (plainElem_int Try.underlying3 (by decide)) (keyOf43 a b ha hb)
  obtain ⟨c, rfl, hc, _⟩ := plainElem_int_inv Try.underlying3 hv
  simp only [Prod.mk.injEq] at hc
  obtain ⟨hh, hat⟩ := hR.2 a b ha hb
  rw [hrun, hh]
  rw [hat] at hc
  cases hF : F a b with
  | none =>
    rw [hF] at hc
    have : c = 0 := by have := hc.1; simpa using this.symm
    rw [this]
  | some k =>
    rw [hF] at hc
    have : c = k := by have := hc.1; simpa using this.symm
    rw [this]

end Go.Proofs.Ytfjgfabochiflaa.H14
