/- dfa.Build: what is read of its rows behind the first loop. -/
import Derived.Test.YtfjhcoeehjephaaBxMd
import Derived.Test.YtfjhcoeehjephaaLeavingMd
namespace Go.Proofs.Ytfjhcoeehjephaa
open Go.RowKit

theorem Arr.congr {w : World} {B size n : Nat} {A : Option Addr} {C C' : Nat → Nat → Value} (h : Arr w B size A n C) (he : ∀ k j, k < n → j < size → C k j = C' k j) : Arr w B size A n C' := fun hn => by
  obtain ⟨b, off, e, hlt, hc⟩ := h hn
  exact ⟨b, off, e, hlt, fun k j hk hj => (hc k j hk hj).trans (congrArg some (he k j hk hj))⟩
theorem own_nums {w : World} {base c n : Nat} {e : TypeId} {A : Option Addr} {l : List Int} (h : w.ownsRow base e 1 (.slice A n c) n (numsV .i64 l)) : Arr w w.heap.size 1 A n (NumC .i64 l) := by
  have hl : l.length = n := by have := h.1; simp only [numsV, List.length_map] at this; omega
  refine (Arr.of_own h).congr (fun k j hk _ => ?_)
  simp [numsV, NumC, show k < l.length by omega]
/-- rows of edges that read, read only -/
structure RowsO (E : List Ed) (S : Nat) (w : World) (A : Option Addr) (RA : Nat → Option Addr) (rc : Nat → Nat) : Prop where
  arr : Arr w w.heap.size 1 A S (fun k _ => .slice (RA k) (overE E k).length (rc k))
  row : ∀ k, k < S → Arr w w.heap.size 7 (RA k) (overE E k).length (EdC (overE E k))
theorem RowsO.keep {E : List Ed} {S : Nat} {w w' : World} {A : Option Addr} {RA : Nat → Option Addr} {rc : Nat → Nat} (h : RowsO E S w A RA rc) (hb : Below w.heap.size w w') : RowsO E S w' A RA rc :=
  ⟨(h.arr.below hb).more hb.size, fun k hk => ((h.row k hk).below hb).more hb.size⟩
theorem own_form {w : World} {base size n : Nat} {e : TypeId} {v : Value} {xs : List Value} (h : w.ownsRow base e size v n xs) : v = .slice (sA v) n (sC v) := by
  rcases h.2 with ⟨h1, h2⟩ | ⟨g, cap, cur, h1, _⟩
  · rw [h1, h2]; rfl
  · rw [h1]; rfl
theorem own_off {w : World} {base size n c : Nat} {e : TypeId} {A : Option Addr} {xs : List Value} (h : w.ownsRow base e size (.slice A n c) n xs) : (A = none ∧ n = 0) ∨ ∃ g, A = some ⟨g, 0, none⟩ := by
  rcases h.2 with ⟨h1, h2⟩ | ⟨g, cap, cur, h1, _⟩
  · injection h1 with h3; exact .inl ⟨h3, h2⟩
  · injection h1 with h3; exact .inr ⟨g, h3⟩
section
variable {W0 W : World} {gN gR gF gO S : Nat} {cN cR cF vF cO vO : List Value} {vs : Value} {E : List Ed} {ov : Nat → List Ed} {fr : Nat → List Int} {sets : List Quad}
theorem BI.rowsI (h : BI W0 gN gR gF gO S cN cR vF vF cO vO vs (freeD E) ov sets W) : RowsI E S W (some ⟨gF, 0, none⟩) (fun k => sA (vF.getD k undef)) (fun k => sC (vF.getD k undef)) := by
  refine ⟨fun _ => ⟨gF, 0, rfl, h.blkF.lt, fun k j hk hj => ?_⟩, fun k hk => ?_⟩
  · obtain rfl : j = 0 := by omega
    rw [show 0 + (k * 1 + 0) = k by omega, h.cellF hk]
    exact congrArg some (own_form (h.ownF k hk))
  · have := h.ownF k hk
    rw [own_form this] at this
    exact own_nums this
theorem BI.rowsO (h : BI W0 gN gR gF gO S cN cR cF vF vO vO vs fr (overE E) sets W) : RowsO E S W (some ⟨gO, 0, none⟩) (fun k => sA (vO.getD k undef)) (fun k => sC (vO.getD k undef)) := by
  refine ⟨fun _ => ⟨gO, 0, rfl, h.blkO.lt, fun k j hk hj => ?_⟩, fun k hk => ?_⟩
  · obtain rfl : j = 0 := by omega
    rw [show 0 + (k * 1 + 0) = k by omega, h.cellO hk]
    exact congrArg some (own_form (h.ownO k hk))
  · have := h.ownO k hk
    rw [own_form this] at this
    exact own_eds this
theorem BI.setsA (h : BI W0 gN gR gF gO S cN cR cF vF cO vO vs fr ov sets W) : vs = .slice (sA vs) sets.length (sC vs) ∧ Arr W W.heap.size 4 (sA vs) sets.length (QdC sets) := by
  have h9 := h.ownS
  have hf := own_form h9
  refine ⟨hf, ?_⟩
  rw [hf] at h9
  exact own_quads h9
end
/-- the cells of least: places of a class's bytes -/
def leastV (many : Nat) (ls : Nat → Nat) : List Value := (List.range many).map (fun c => .int .u8 ((ls c : Nat) : Int))
theorem leastV_get {many : Nat} (ls : Nat → Nat) {c : Nat} (h : c < many) : (leastV many ls)[c]? = some (.int .u8 ((ls c : Nat) : Int)) := by simp [leastV, h]
theorem leastV_set (many : Nat) (ls : Nat → Nat) (c x : Nat) : (leastV many ls).set c (.int .u8 (x : Int)) = leastV many (fun j => if j = c then x else ls j) := by
  apply List.ext_getElem?
  intro j
  rw [List.getElem?_set]
  by_cases h : j < many
  · rw [leastV_get _ h]
    by_cases e : c = j
    · subst e
      rw [if_pos rfl, show (leastV many ls).length = many by simp [leastV], if_pos h, leastV_get _ h, if_pos rfl]
    · rw [if_neg e, leastV_get _ h, if_neg (fun h => e h.symm)]
  · have h1 : (leastV many ls)[j]? = none := List.getElem?_eq_none (by simp [leastV]; omega)
    have h2 : (leastV many (fun j => if j = c then x else ls j))[j]? = none := List.getElem?_eq_none (by simp [leastV]; omega)
    rw [h2]
    by_cases e : c = j
    · rw [if_pos e, show (leastV many ls).length = many by simp [leastV], if_neg (by omega)]
    · rw [if_neg e, h1]
/-- from byte b on the least of each class has been found -/
def LeastOk (cls : Nat → Nat) (ls : Nat → Nat) (b : Nat) : Prop := (∀ c, ls c < 256) ∧ ∀ b', b ≤ b' → b' < 256 → cls (ls (cls b')) = cls b'
theorem least_start (cls : Nat → Nat) : LeastOk cls (fun _ => 0) 256 := ⟨fun _ => show 0 < 256 by omega, fun b' h1 h2 => by omega⟩
theorem least_step {cls ls : Nat → Nat} {b : Nat} (hb : b < 256) (h : LeastOk cls ls (b + 1)) : LeastOk cls (fun j => if j = cls b then b else ls j) b := by
  refine ⟨fun c => ?_, fun b' h1 h2 => ?_⟩
  · show (if c = cls b then b else ls c) < 256
    split
    · exact hb
    · exact h.1 c
  · show cls (if cls b' = cls b then b else ls (cls b')) = cls b'
    by_cases e : cls b' = cls b
    · rw [if_pos e, e]
    · rw [if_neg e]
      refine h.2 b' ?_ h2
      rcases Nat.lt_or_ge b b' with h9 | h9
      · exact h9
      · exact absurd (by rw [show b' = b by omega]) e
/-- what the main loop of Build reads -/
structure BEnv (E : List Ed) (S : Nat) (cN : List Value) (cls : Nat → Nat) (many : Nat) (ls : Nat → Nat) (gN gF gO gC gL : Nat) (RA RB : Nat → Option Addr) (rc rd : Nat → Nat) (w : World) : Prop where
  fr : RowsI E S w (some ⟨gF, 0, none⟩) RA rc
  ov : RowsO E S w (some ⟨gO, 0, none⟩) RB rd
  bn : Blk w gN 24 cN
  bc : Blk w gC 26 (bytV cls)
  bl : Blk w gL 5 (leastV many ls)
theorem BEnv.keep {E : List Ed} {S : Nat} {cN : List Value} {cls : Nat → Nat} {many : Nat} {ls : Nat → Nat} {gN gF gO gC gL : Nat} {RA RB : Nat → Option Addr} {rc rd : Nat → Nat} {w w' : World}
    (h : BEnv E S cN cls many ls gN gF gO gC gL RA RB rc rd w) (hb : Below w.heap.size w w') : BEnv E S cN cls many ls gN gF gO gC gL RA RB rc rd w' :=
  ⟨h.fr.keep hb, h.ov.keep hb, h.bn.below hb h.bn.lt, h.bc.below hb h.bc.lt, h.bl.below hb h.bl.lt⟩
theorem keyed9 : Maps.Keyed Try.prog 9 := Maps.string_keyed Try.underlying9
/-- 'm[k] = v' in a literal, by its run -/
theorem wpList_ins (w w' : World) {ops : Array Oper} {rest : List Oper} {o : Oper} {a : Act} {Q : Exit → Act → World → Prop} (hgd : o.guard = none) (m k x : Operand) (t : TypeId) (hop : o.op = Op.insert t m k x) (mv kv xv : Value) (hm : a.eval m = mv) (hk : a.eval k = kv) (hx : a.eval x = xv)
    (hrun : (Instr.mapUpdate t mv kv xv).run Try.prog w = .ok () w') (h : wpList Try.prog ops Q rest (a.put o.dst undef) w') : wpList Try.prog ops Q (o :: rest) a w := by
  refine wpList_plain hgd fun K' hK' => ?_
  unfold Oper.wp
  simp [execOp, hop, hm, hk, hx, hrun, Result.andThen]
  exact hK' _ _ h
theorem closN_len (E : List Ed) (S : Nat) (L : List Int) : (closN E S L).length ≤ S := by
  unfold closN
  exact Nat.le_trans (List.length_filter_le _ _) (by simp)
end Go.Proofs.Ytfjhcoeehjephaa
