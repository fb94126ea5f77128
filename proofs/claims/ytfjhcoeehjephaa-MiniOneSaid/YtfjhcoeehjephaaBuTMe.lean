/- BuT, BuV of this seat, in one text. -/
import Derived.Test.YtfjhcoeehjephaaBxMe
import Derived.Test.YtfjhcoeehjephaaBuSMe
import Derived.Test.YtfjhcoeehjephaaDfaMe
/- dfa.Build: memory of its main loop's inner loops. -/
namespace Go.Proofs.Ytfjhcoeehjephaa
open Go.RowKit Go.Maps Go.WideMaps

/-- the main loop's memory, and the row in hand -/
structure MR (w0 : World) (gD gm : Nat) (cls : Nat → Nat) (vall vnx vac : Value) (lA lN : List Value) (all : List (List Nat)) (next : List (List Int)) (acc : List Bool) (n : Nat) (D : DataW Unit) (gR : Nat) (R : List Int) (W : World) : Prop where
  ml : ML w0 gD gm cls vall vnx vac lA lN all next acc n D (fun b => b = gR) W
  row : Blk W gR 3 (numsV .i64 R)
  hR : w0.heap.size ≤ gR
/-- and the places that have been gathered -/
structure MG (w0 : World) (gD gm : Nat) (cls : Nat → Nat) (vall vnx vac : Value) (lA lN : List Value) (all : List (List Nat)) (next : List (List Int)) (acc : List Bool) (n : Nat) (D : DataW Unit) (gR : Nat) (R : List Int) (lv : Value) (L : List Int) (W : World) : Prop where
  ml : ML w0 gD gm cls vall vnx vac lA lN all next acc n D (fun b => b = gR ∨ lv.ownBlock = some b) W
  row : Blk W gR 3 (numsV .i64 R)
  hR : w0.heap.size ≤ gR
  own : W.ownsRow w0.heap.size 3 1 lv L.length (numsV .i64 L)
  ne : lv.ownBlock ≠ some gR
section
variable {w0 W W' : World} {gD gm gR : Nat} {cls : Nat → Nat} {vall vnx vac lv : Value} {lA lN : List Value} {all : List (List Nat)} {next : List (List Int)} {acc : List Bool} {n : Nat} {D : DataW Unit} {R L : List Int}
theorem MR.begin (h : ML w0 gD gm cls vall vnx vac lA lN all next acc n D (fun _ => False) W) (many : Nat) :
    MR w0 gD gm cls vall vnx vac lA lN all next acc n D W.heap.size (List.replicate many 0) (W.alloc (.cells (Array.replicate many (.int .i64 0)) 3)) := by
  refine ⟨(h.less (F' := fun b => b = W.heap.size) (fun b hb e => by omega)).alloc _, ?_, h.bel.size⟩
  have := Blk.new W 3 (numsV .i64 (List.replicate many 0))
  rw [show (numsV .i64 (List.replicate many 0)).toArray = Array.replicate many (.int .i64 0) by simp [numsV]] at this
  exact this
theorem MR.go (h : MR w0 gD gm cls vall vnx vac lA lN all next acc n D gR R W) (hb : Below W.heap.size W W') : MR w0 gD gm cls vall vnx vac lA lN all next acc n D gR R W' :=
  ⟨h.ml.go hb, h.row.below hb h.row.lt, h.hR⟩
theorem MR.alloc (h : MR w0 gD gm cls vall vnx vac lA lN all next acc n D gR R W) (o : Obj) : MR w0 gD gm cls vall vnx vac lA lN all next acc n D gR R (W.alloc o) := h.go ((Below.refl _ _).alloc (Nat.le_refl _) o)
theorem MR.gather (h : MR w0 gD gm cls vall vnx vac lA lN all next acc n D gR R W) : MG w0 gD gm cls vall vnx vac lA lN all next acc n D gR R (.slice none 0 0) [] W :=
  ⟨h.ml.less (fun b _ e => by rcases e with e | e; exact e; cases e), h.row, h.hR, World.ownsRow_nil _ _ _ _, by simp [Value.ownBlock]⟩
theorem MG.go (h : MG w0 gD gm cls vall vnx vac lA lN all next acc n D gR R lv L W) (hb : Below W.heap.size W W') : MG w0 gD gm cls vall vnx vac lA lN all next acc n D gR R lv L W' :=
  ⟨h.ml.go hb, h.row.below hb h.row.lt, h.hR, own_kept h.own hb, h.ne⟩
theorem MG.alloc (h : MG w0 gD gm cls vall vnx vac lA lN all next acc n D gR R lv L W) (o : Obj) : MG w0 gD gm cls vall vnx vac lA lN all next acc n D gR R lv L (W.alloc o) := h.go ((Below.refl _ _).alloc (Nat.le_refl _) o)
theorem MG.drew (h : MG w0 gD gm cls vall vnx vac lA lN all next acc n D gR R lv L W) : MG w0 gD gm cls vall vnx vac lA lN all next acc n D gR R lv L W.drew := h.go (Below.refl _ _).drew
/-- a place more -/
theorem MG.push (h : MG w0 gD gm cls vall vnx vac lA lN all next acc n D gR R lv L W) {g5 c5 : Nat} {x : Int} (hown : W'.ownsRow w0.heap.size 3 1 (.slice (some ⟨g5, 0, none⟩) (L.length + 1) c5) (L.length + 1) (numsV .i64 L ++ [.int .i64 x])) (hg : W.grownBy W' lv.ownBlock) (hat : lv.ownBlock = some g5 ∨ g5 = W.heap.size) :
    MG w0 gD gm cls vall vnx vac lA lN all next acc n D gR R (.slice (some ⟨g5, 0, none⟩) (L.length + 1) c5) (L ++ [x]) W' := by
  have h1 := h.ml.less (F' := fun b => b = gR ∨ lv.ownBlock = some b ∨ b = W.heap.size) (fun b hb e => by
    rcases e with e | e | e
    · exact .inl e
    · exact .inr e
    · omega)
  have h2 := h1.grow3 h.own (fun b e => .inr (.inl e)) hg
  refine ⟨h2.less (fun b _ e => ?_), h.row.same (hg.block _ h.row.lt (fun e => h.ne e.symm)), h.hR, by rw [List.length_append, numsV_snoc]; exact hown, fun e => ?_⟩
  · rcases e with e | e
    · exact .inl e
    · obtain rfl : g5 = b := by simpa [Value.ownBlock] using e
      exact .inr hat
  · obtain rfl : g5 = gR := by simpa [Value.ownBlock] using e
    rcases hat with hat | hat
    · exact h.ne hat
    · have := h.row.lt; omega
theorem MG.back (h : MG w0 gD gm cls vall vnx vac lA lN all next acc n D gR R lv L W) : MR w0 gD gm cls vall vnx vac lA lN all next acc n D gR R W := ⟨h.ml.less (fun _ _ e => .inl e), h.row, h.hR⟩
theorem numsV_set (q : IntKind) (l : List Int) (c : Nat) (x : Int) : numsV q (l.set c x) = (numsV q l).set c (.int q x) := by simp [numsV, List.map_set]
theorem MG.cell (h : MG w0 gD gm cls vall vnx vac lA lN all next acc n D gR R lv L W) (c : Nat) (x : Int) : MG w0 gD gm cls vall vnx vac lA lN all next acc n D gR (R.set c x) lv L (W.setCell ⟨gR, c, none⟩ (.int .i64 x)) :=
  ⟨h.ml.cell3 h.row h.hR (.inl rfl) _, by rw [numsV_set]; exact h.row.set c _, h.hR, kept_ne (grownBy_setCell W gR c _) h.own (fun b e e2 => by cases e; exact h.ne e2), h.ne⟩
theorem MR.cell (h : MR w0 gD gm cls vall vnx vac lA lN all next acc n D gR R W) (c : Nat) (x : Int) : MR w0 gD gm cls vall vnx vac lA lN all next acc n D gR (R.set c x) (W.setCell ⟨gR, c, none⟩ (.int .i64 x)) :=
  ⟨h.ml.cell3 h.row h.hR rfl _, by rw [numsV_set]; exact h.row.set c _, h.hR⟩
theorem MR.put (h : MR w0 gD gm cls vall vnx vac lA lN all next acc n D gR R W) {n' : Nat} {D' : DataW Unit} (hg : W.grownBy W' (some gm)) (hm : W'.ownsMap Try.prog 9 (plainElem (H := Unit) Try.prog 3) gm n' D') : MR w0 gD gm cls vall vnx vac lA lN all next acc n' D' gR R W' :=
  ⟨h.ml.put hg hm, h.row.same (hg.block _ h.row.lt (fun e => map_blk_ne h.ml.map h.row (by cases e; rfl))), h.hR⟩
theorem MR.addA (h : MR w0 gD gm cls vall vnx vac lA lN all next acc n D gR R W) {v : Value} {X : List Nat} {g5 c5 : Nat} (hv : W.ownsRow w0.heap.size 3 1 v X.length (numsV .i64 (natL X))) (hF : v.ownBlock ≠ some gR)
    (hown : W'.ownsRow w0.heap.size 36 1 (.slice (some ⟨g5, 0, none⟩) (all.length + 1) c5) (all.length + 1) (lA ++ [v])) (hg : W.grownBy W' vall.ownBlock) (hat : vall.ownBlock = some g5 ∨ g5 = W.heap.size) :
    MR w0 gD gm cls (.slice (some ⟨g5, 0, none⟩) (all.length + 1) c5) vnx vac (lA ++ [v]) lN (all ++ [X]) next acc n D gR R W' :=
  ⟨h.ml.addA hv (fun b e e2 => hF (by rw [e, e2])) hown hg hat, h.row.same (hg.block _ h.row.lt (fun e => blk_own_ne h.row h.ml.ownA (by decide) e.symm)), h.hR⟩
/-- the row in hand as a row of its own -/
theorem MR.rowOwn (h : MR w0 gD gm cls vall vnx vac lA lN all next acc n D gR R W) {many : Nat} (hl : R.length = many) (hm : many ≤ 256) : W.ownsRow w0.heap.size 3 1 (.slice (some ⟨gR, 0, none⟩) many many) R.length (numsV .i64 R) := by
  subst hl
  refine ⟨by simp [numsV], .inr ⟨gR, R.length, (numsV .i64 R).toArray, rfl, h.hR, h.row, Nat.le_refl _, by unfold maxLen; omega, by simp [numsV], ?_⟩⟩
  exact List.take_of_length_le (by simp [numsV])
theorem MR.ended (h : MR w0 gD gm cls vall vnx vac lA lN all next acc n D gR R W) : ML w0 gD gm cls vall vnx vac lA lN all next acc n D (fun _ => False) W := h.ml.less (fun _ _ e => e.elim)
end
/-- gathered places are no more than the edges -/
theorem gath_len (E : List Ed) {X : List Nat} (hX : X.Nodup) {j k : Nat} (hj : j < X.length) (b : Nat) :
    (moveL E (X.take j) b ++ (((overE E (X.getD j 0)).take k).filter (fun e => hasE e b)).map Ed.dst).length ≤ E.length := by
  have h1 : (X.take (j + 1)).Nodup := hX.sublist (List.take_sublist _ _)
  have h2 := moveL_len E h1 b
  rw [take_next X j 0 hj, moveL_snoc, List.length_append, List.length_map] at h2
  rw [List.length_append, List.length_map]
  have h3 := (((List.take_sublist k (overE E (X.getD j 0))).filter (fun e => hasE e b))).length_le
  omega
theorem closN_ne {E : List Ed} {S : Nat} {a : Int} (hE : OkE E S) (ha : 0 ≤ a ∧ a < (S : Int)) : closN E S [a] ≠ [] := fun h => by
  have : a.toNat ∈ closN E S [a] := by
    rw [mem_closN hE, show ((a.toNat : Nat) : Int) = a by omega]
    exact .root (by simp) ha.1 ha.2
  rw [h] at this
  cases this
theorem RSet.ne {E : List Ed} {S : Nat} {a : Int} (hE : OkE E S) (ha : 0 ≤ a ∧ a < (S : Int)) {X : List Nat} (h : RSet E S a X) : X ≠ [] := by
  cases h with
  | first => exact closN_ne hE ha
  | step _ _ hm => exact fun h9 => hm ((stepN_nil hE).1 h9)
theorem moveL_in {E : List Ed} {S : Nat} (hE : OkE E S) {X : List Nat} {b : Nat} : ∀ d ∈ moveL E X b, 0 ≤ d ∧ d < (S : Int) := fun d hd => by
  obtain ⟨e, he, _, _, _, rfl⟩ := mem_moveL.1 hd
  exact (hE e he).2.2
theorem nodup_of_lt {X : List Nat} (h : X.Pairwise (· < ·)) : X.Nodup := h.imp (fun {a b} h9 => by omega)
end Go.Proofs.Ytfjhcoeehjephaa
/- dfa.Build: what it returns. -/
namespace Go.Proofs.Ytfjhcoeehjephaa
open Go.RowKit Go.Maps Go.WideMaps
theorem cellAl {W : World} {a : Addr} {v : Value} (h : W.cell? a = some v) (o : Obj) : (W.alloc o).cell? a = some v := (World.cell?_alloc_lt _ _ _ (World.block_lt_of_cell? W a h)).trans h
theorem own_other {w0 W W' : World} (hb : ∀ k, w0.heap.size ≤ k → W'.heap[k]? = W.heap[k]?) {e : TypeId} {size n : Nat} {v : Value} {xs : List Value} (h : W.ownsRow w0.heap.size e size v n xs) : W'.ownsRow w0.heap.size e size v n xs :=
  own_move h (fun b _ e9 ho _ => (hb b (h.lt b e9).1).trans ho)
/-- the automaton that the main loop has made, in any world that has its blocks -/
theorem ML.dfa {w0 W W' : World} {gD gm : Nat} {cls : Nat → Nat} {vall vnx vac : Value} {lA lN : List Value} {all : List (List Nat)} {next : List (List Int)} {acc : List Bool} {n : Nat} {D : DataW Unit} {F : Nat → Prop}
    (h : ML w0 gD gm cls vall vnx vac lA lN all next acc n D F W) (hb : ∀ k, w0.heap.size ≤ k → W'.heap[k]? = W.heap[k]?) (hc : ∀ b, b < 256 → cls b < 256) (hm : ∀ k, k < next.length → (next.getD k []).length ≤ 256) (hn : next.length ≤ 400) (ha : acc.length ≤ 400) :
    ∃ A1 A2 c1 c2 RA rc, DfaIn W' (dV cls vnx vac).toArray A1 A2 next.length acc.length c1 c2 ⟨cls, next, acc⟩ RA rc := by
  have oN := own_other hb h.ownN
  have oC := own_other hb h.ownC
  obtain ⟨A1, c1, rfl⟩ := own_slice oN
  obtain ⟨A2, c2, rfl⟩ := own_slice oC
  refine ⟨A1, A2, c1, c2, fun k => sA (lN.getD k undef), fun k => sC (lN.getD k undef), ⟨?_, fun b hb9 => ?_, ?_, ?_, hc⟩, ⟨rfl, by show next.length ≤ _; omega, ?_, fun k hk => ?_, fun k hk => ?_⟩, rfl, by omega, ?_⟩
  · rw [List.size_toArray, dV_len]
  · rw [List.getElem?_toArray, dV_cls _ _ _ hb9]
  · rw [List.getElem?_toArray, dV_nx]
  · rw [List.getElem?_toArray, dV_ac]
  · refine (Arr.of_own oN).congr (fun k j hk _ => ?_)
    have := own_form (h.rowN k hk)
    exact this
  · have h9 := own_other hb (h.rowN k hk)
    rw [own_form h9] at h9
    exact own_nums h9
  · have := hm k hk
    show (next.getD k []).length ≤ _
    omega
  · refine (Arr.of_own oC).congr (fun k j hk _ => ?_)
    simp [BoolC, hk]
theorem RSet.len {E : List Ed} {S : Nat} {a : Int} {X : List Nat} (h : RSet E S a X) : X.length ≤ S := by
  cases h with
  | first => exact closN_len _ _ _
  | step _ _ _ => exact closN_len _ _ _
theorem plc_map {α β : Type} [DecidableEq α] [DecidableEq β] (f : α → β) (y : α) : ∀ (l : List α), (∀ z ∈ l, f z = f y → z = y) → plc (l.map f) (f y) = plc l y
  | [], _ => rfl
  | x :: l, h => by
    have ih := plc_map f y l (fun z hz => h z (List.mem_cons_of_mem _ hz))
    unfold plc at ih ⊢
    rw [List.map_cons, List.idxOf_cons, List.idxOf_cons]
    by_cases e : x = y
    · subst e; simp
    · have e2 : f x ≠ f y := fun e3 => e (h x (by simp) e3)
      rw [beq_eq_false_iff_ne.2 e2, beq_eq_false_iff_ne.2 e, cond_false, cond_false, ih]
theorem name_new {all : List (List Nat)} {Y : List Nat} (hY : ∀ q ∈ Y, q < 2000) (ha : ∀ Z ∈ all, ∀ q ∈ Z, q < 2000) : (∀ z ∈ all, nameL z = nameL Y → z = Y) := fun z hz h =>
  nameL_inj (fun q hq => by have := ha z hz q hq; omega) (fun q hq => by have := hY q hq; omega) h
theorem ML.drew {w0 W : World} {gD gm : Nat} {cls : Nat → Nat} {vall vnx vac : Value} {lA lN : List Value} {all : List (List Nat)} {next : List (List Int)} {acc : List Bool} {n : Nat} {D : DataW Unit} {F : Nat → Prop}
    (h : ML w0 gD gm cls vall vnx vac lA lN all next acc n D F W) : ML w0 gD gm cls vall vnx vac lA lN all next acc n D F W.drew := h.go (Below.refl _ _).drew
theorem one_news {w : World} {g : Nat} {u : Value} (h0 : w.cell? ⟨g, 0, none⟩ = some u) : ∀ j u', [u][j]? = some u' → w.cell? ((⟨g, 0, none⟩ : Addr).add j) = some u' := by
  intro j u' hj
  match j, hj with
  | 0, hj => simp at hj; subst hj; simpa [Addr.add] using h0
theorem has_nat (X : List Nat) {z : Int} (hz : 0 ≤ z) (n : Nat) (hn : X.length ≤ n) : ((natL X).take n).contains z = decide (z.toNat ∈ X) := by
  rw [List.take_of_length_le (by rw [natL_len]; exact hn)]
  apply Bool.eq_iff_iff.2
  rw [decide_eq_true_eq, List.contains_iff_mem, mem_natL]
  constructor
  · rintro ⟨q, hq, rfl⟩
    simpa using hq
  · exact fun h => ⟨_, h, by omega⟩
/-- what Build says -/
def DfaSays (E : List Ed) (S : Nat) (a z : Int) (w' : World) (e : Ending) : Prop :=
  (∃ (D : Dfa) (all : List (List Nat)) (ls : Nat → Nat) (many : Nat) (ds : Array Value) (A1 A2 : Option Addr) (c1 c2 : Nat) (RA : Nat → Option Addr) (rc : Nat → Nat),
    e = .returned (.tuple #[.agg ds, .int .i64 0]) ∧ DfaIn w' ds A1 A2 D.next.length D.acc.length c1 c2 D RA rc ∧ ClsOk D.cls many (setsOf E) ∧ LeastOk D.cls ls 0 ∧ Mid E S a z many ls all.length all D.next D.acc)
  ∨ (e = .returned (.tuple #[.agg zs30, .int .i64 80]) ∧ TooMany E S a)
end Go.Proofs.Ytfjhcoeehjephaa
