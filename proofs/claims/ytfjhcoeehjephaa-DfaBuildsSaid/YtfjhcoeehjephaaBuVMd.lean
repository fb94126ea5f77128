/- dfa.Build: what it returns. -/
import Derived.Test.YtfjhcoeehjephaaBuTMd
namespace Go.Proofs.Ytfjhcoeehjephaa
open Go.RowKit Go.Maps Go.WideMaps
theorem cellAl {W : World} {a : Addr} {v : Value} (h : W.cell? a = some v) (o : Obj) : (W.alloc o).cell? a = some v := (World.cell?_alloc_lt _ _ _ (World.block_lt_of_cell? W a h)).trans h
theorem own_other {w0 W W' : World} (hb : ∀ k, w0.heap.size ≤ k → W'.heap[k]? = W.heap[k]?) {e : TypeId} {size n : Nat} {v : Value} {xs : List Value} (h : W.ownsRow w0.heap.size e size v n xs) : W'.ownsRow w0.heap.size e size v n xs :=
  own_move h (fun b _ e9 ho _ => (hb b (h.lt b e9).1).trans ho)
/-- the automaton that the main loop has made, in any world that has its blocks -/
theorem ML.dfa {w0 W W' : World} {gD gm : Nat} {cls : Nat → Nat} {vall vnx vac : Value} {lA lN : List Value} {all : List (List Nat)} {next : List (List Int)} {acc : List Bool} {n : Nat} {D : DataW Unit} {F : Nat → Prop}
    (h : ML w0 gD gm cls vall vnx vac lA lN all next acc n D F W) (hb : ∀ k, w0.heap.size ≤ k → W'.heap[k]? = W.heap[k]?) (hc : ∀ b, b < 256 → cls b < 256) (hm : ∀ k, k < next.length → (next.getD k []).length ≤ 256) (hn : next.length ≤ 400) (ha : acc.length ≤ 400) :
    ∃ A1 A2 c1 c2 RA rc, DfaIn W' (dV cls vnx vac).toArray A1 A2 next.length acc.length c1 c2 ⟨cls, next, acc⟩ RA rc := by
  have oN := own_other hb h.ownN
  have oC := own_other hb h.ownC
  obtain ⟨A1, c1, rfl⟩ := own_slice oN
  obtain ⟨A2, c2, rfl⟩ := own_slice oC
  refine ⟨A1, A2, c1, c2, fun k => sA (lN.getD k undef), fun k => sC (lN.getD k undef), ⟨?_, fun b hb9 => ?_, ?_, ?_, hc⟩, ⟨rfl, by show next.length ≤ _; omega, ?_, fun k hk => ?_, fun k hk => ?_⟩, rfl, by omega, ?_⟩
  · rw [List.size_toArray, dV_len]
  · rw [List.getElem?_toArray, dV_cls _ _ _ hb9]
  · rw [List.getElem?_toArray, dV_nx]
  · rw [List.getElem?_toArray, dV_ac]
  · refine (Arr.of_own oN).congr (fun k j hk _ => ?_)
    have := own_form (h.rowN k hk)
    exact this
  · have h9 := own_other hb (h.rowN k hk)
    rw [own_form h9] at h9
    exact own_nums h9
  · have := hm k hk
    show (next.getD k []).length ≤ _
    omega
  · refine (Arr.of_own oC).congr (fun k j hk _ => ?_)
    simp [BoolC, hk]
theorem RSet.len {E : List Ed} {S : Nat} {a : Int} {X : List Nat} (h : RSet E S a X) : X.length ≤ S := by
  cases h with
  | first => exact closN_len _ _ _
  | step _ _ _ => exact closN_len _ _ _
theorem plc_map {α β : Type} [DecidableEq α] [DecidableEq β] (f : α → β) (y : α) : ∀ (l : List α), (∀ z ∈ l, f z = f y → z = y) → plc (l.map f) (f y) = plc l y
  | [], _ => rfl
  | x :: l, h => by
    have ih := plc_map f y l (fun z hz => h z (List.mem_cons_of_mem _ hz))
    unfold plc at ih ⊢
    rw [List.map_cons, List.idxOf_cons, List.idxOf_cons]
    by_cases e : x = y
    · subst e; simp
    · have e2 : f x ≠ f y := fun e3 => e (h x (by simp) e3)
      rw [beq_eq_false_iff_ne.2 e2, beq_eq_false_iff_ne.2 e, cond_false, cond_false, ih]
theorem name_new {all : List (List Nat)} {Y : List Nat} (hY : ∀ q ∈ Y, q < 2000) (ha : ∀ Z ∈ all, ∀ q ∈ Z, q < 2000) : (∀ z ∈ all, nameL z = nameL Y → z = Y) := fun z hz h =>
  nameL_inj (fun q hq => by have := ha z hz q hq; omega) (fun q hq => by have := hY q hq; omega) h
theorem ML.drew {w0 W : World} {gD gm : Nat} {cls : Nat → Nat} {vall vnx vac : Value} {lA lN : List Value} {all : List (List Nat)} {next : List (List Int)} {acc : List Bool} {n : Nat} {D : DataW Unit} {F : Nat → Prop}
    (h : ML w0 gD gm cls vall vnx vac lA lN all next acc n D F W) : ML w0 gD gm cls vall vnx vac lA lN all next acc n D F W.drew := h.go (Below.refl _ _).drew
theorem one_news {w : World} {g : Nat} {u : Value} (h0 : w.cell? ⟨g, 0, none⟩ = some u) : ∀ j u', [u][j]? = some u' → w.cell? ((⟨g, 0, none⟩ : Addr).add j) = some u' := by
  intro j u' hj
  match j, hj with
  | 0, hj => simp at hj; subst hj; simpa [Addr.add] using h0
theorem has_nat (X : List Nat) {z : Int} (hz : 0 ≤ z) (n : Nat) (hn : X.length ≤ n) : ((natL X).take n).contains z = decide (z.toNat ∈ X) := by
  rw [List.take_of_length_le (by rw [natL_len]; exact hn)]
  apply Bool.eq_iff_iff.2
  rw [decide_eq_true_eq, List.contains_iff_mem, mem_natL]
  constructor
  · rintro ⟨q, hq, rfl⟩
    simpa using hq
  · exact fun h => ⟨_, h, by omega⟩
/-- what Build says -/
def DfaSays (E : List Ed) (S : Nat) (a z : Int) (w' : World) (e : Ending) : Prop :=
  (∃ (D : Dfa) (all : List (List Nat)) (ls : Nat → Nat) (many : Nat) (ds : Array Value) (A1 A2 : Option Addr) (c1 c2 : Nat) (RA : Nat → Option Addr) (rc : Nat → Nat),
    e = .returned (.tuple #[.agg ds, .int .i64 0]) ∧ DfaIn w' ds A1 A2 D.next.length D.acc.length c1 c2 D RA rc ∧ ClsOk D.cls many (setsOf E) ∧ LeastOk D.cls ls 0 ∧ Mid E S a z many ls all.length all D.next D.acc)
  ∨ (e = .returned (.tuple #[.agg zs30, .int .i64 80]) ∧ TooMany E S a)
end Go.Proofs.Ytfjhcoeehjephaa
