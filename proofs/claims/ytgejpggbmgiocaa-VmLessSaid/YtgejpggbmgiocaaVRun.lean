/- vm.Run, of any program. -/
import Derived.Test.YtgejpggbmgiocaaStepAll
import Derived.Test.YtgejpggbmgiocaaLEch2
namespace Go.Proofs.Ytgejpggbmgiocaa
open Go.RowKit
theorem TabsIn.keep {w W : World} {prg : List Value} {t : List Tbl} (h : TabsIn w w.heap.size prg t) (hb : Below w.heap.size w W) : TabsIn W W.heap.size prg t := by
  obtain ⟨⟨A, c, DA, dc, e, ha, hd⟩, h1, h2⟩ := h
  exact ⟨⟨A, c, DA, dc, e, (ha.below hb).more hb.size, fun k hk => ((hd k hk).below hb).more hb.size⟩, h1, h2⟩
theorem TextsIn.keep {w W : World} {prg : List Value} {t : List ByteArray} (h : TextsIn w w.heap.size prg t) (hb : Below w.heap.size w W) : TextsIn W W.heap.size prg t := by
  obtain ⟨⟨A, c, e, ha⟩, h1, h2⟩ := h
  exact ⟨⟨A, c, e, (ha.below hb).more hb.size⟩, h1, h2⟩
theorem PairsIn.keep {w W : World} {prg : List Value} {sg : Int} {S K V : List Int} (h : PairsIn w w.heap.size prg sg S K V) (hb : Below w.heap.size w W) : PairsIn W W.heap.size prg sg S K V := by
  obtain ⟨_, h3, ⟨A0, A1, A2, n0, n1, n2, c0, c1, c2, e0, e1, e2, hh⟩, hv⟩ := h
  exact ⟨rfl, h3, ⟨A0, A1, A2, n0, n1, n2, c0, c1, c2, e0, e1, e2, hh.keep hb⟩, hv⟩
theorem PIn.keep {w W : World} {prg : List Value} {p : Prog} {S K V : List Int} (h : PIn w w.heap.size prg p S K V) (hb : Below w.heap.size w W) : PIn W W.heap.size prg p S K V :=
  ⟨h.code.keep hb, h.tabs.keep hb, h.texts.keep hb, h.pairs.keep hb, h.cb, h.db⟩
theorem room_hi (a b c : Int) (n : Nat) (hn : n ≤ 4096) : roomF a b c n ≤ 10000000000 := by
  unfold roomF
  have h1 := boundF_hi a
  have h2 := boundF_hi b
  have h3 := boundF_hi c
  have h4 := boundF_lo a
  have h5 : boundF a * (n : Int) ≤ 1048576 * 4096 := Int.mul_le_mul h1 (by omega) (by omega) (by omega)
  omega
theorem room_lo (a b c : Int) (n : Nat) : 0 ≤ roomF a b c n := by
  unfold roomF
  have h1 := boundF_lo a
  have h2 := boundF_lo b
  have h3 := boundF_lo c
  have h5 : 0 ≤ boundF a * (n : Int) := Int.mul_nonneg h1 (by omega)
  omega
theorem doF_told {mg : List Int → Option (List Int)} {p : Prog} {room : Int} {t : St} {i : Ins} {c : Nat} (h : (doF mg p room t i).2 = some c) : (doF mg p room t i).1.told = t.told := by
  unfold doF at h ⊢
  by_cases e : i.op = 1
  · rw [if_pos e] at h ⊢
    all_goals first | rfl | (split <;> rfl) | cases h
  rw [if_neg e] at h ⊢
  clear e
  by_cases e : i.op = 2
  · rw [if_pos e] at h ⊢
    all_goals first | rfl | (split <;> rfl) | cases h
  rw [if_neg e] at h ⊢
  clear e
  by_cases e : i.op = 3
  · rw [if_pos e] at h ⊢
    all_goals first | rfl | (split <;> rfl) | cases h
  rw [if_neg e] at h ⊢
  clear e
  by_cases e : i.op = 4
  · rw [if_pos e] at h ⊢
    all_goals first | rfl | (split <;> rfl) | cases h
  rw [if_neg e] at h ⊢
  clear e
  by_cases e : i.op = 5
  · rw [if_pos e] at h ⊢
    all_goals first | rfl | (split <;> rfl) | cases h
  rw [if_neg e] at h ⊢
  clear e
  by_cases e : i.op = 6
  · rw [if_pos e] at h ⊢
    all_goals first | rfl | (split <;> rfl) | cases h
  rw [if_neg e] at h ⊢
  clear e
  by_cases e : i.op = 7
  · rw [if_pos e] at h ⊢
    all_goals first | rfl | (split <;> rfl) | cases h
  rw [if_neg e] at h ⊢
  clear e
  by_cases e : i.op = 8
  · rw [if_pos e] at h ⊢
    all_goals first | rfl | (split <;> rfl) | cases h
  rw [if_neg e] at h ⊢
  clear e
  by_cases e : i.op = 9
  · rw [if_pos e] at h ⊢
    all_goals first | rfl | (split <;> rfl) | cases h
  rw [if_neg e] at h ⊢
  clear e
  by_cases e : i.op = 10
  · rw [if_pos e] at h ⊢
    all_goals first | rfl | (split <;> rfl) | cases h
  rw [if_neg e] at h ⊢
  clear e
  by_cases e : i.op = 11
  · rw [if_pos e] at h ⊢
    all_goals first | rfl | (split <;> rfl) | cases h
  rw [if_neg e] at h ⊢
  clear e
  by_cases e : i.op = 12
  · rw [if_pos e] at h ⊢
    all_goals first | rfl | (split <;> rfl) | cases h
  rw [if_neg e] at h ⊢
  clear e
  by_cases e : i.op = 13
  · rw [if_pos e] at h ⊢
    all_goals first | rfl | (split <;> rfl) | cases h
  rw [if_neg e] at h ⊢
  clear e
  by_cases e : i.op = 14
  · rw [if_pos e] at h ⊢
    all_goals first | rfl | (split <;> rfl) | cases h
  rw [if_neg e] at h ⊢
  clear e
  by_cases e : i.op = 15
  · rw [if_pos e] at h ⊢
    all_goals first | rfl | (split <;> rfl) | cases h
  rw [if_neg e] at h ⊢
  clear e
  by_cases e : i.op = 17
  · rw [if_pos e] at h ⊢
    all_goals first | rfl | (split <;> rfl) | cases h
  rw [if_neg e] at h ⊢
  clear e
  split
  · rfl
  · rename_i l hl
    simp only [hl] at h
    split
    · rfl
    · rename_i hr
      rw [if_neg hr] at h
      cases h
theorem stepF_told {mg : List Int → Option (List Int)} {p : Prog} {room fuel : Int} {t : St} {c : Nat} (h : (stepF mg p room fuel t).2 = some c) : (stepF mg p room fuel t).1.told = t.told := by
  unfold stepF at h ⊢
  split
  · rfl
  · rename_i h1
    rw [if_neg h1] at h
    simp only at h ⊢
    split
    · rfl
    · rename_i cc hc
      simp only [hc] at h
      split
      · rfl
      · rename_i h2
        rw [if_neg h2] at h
        exact doF_told h
theorem ends_told {mg : List Int → Option (List Int)} {p : Prog} {room fuel : Int} {t t' : St} {c : Nat} (h : Ends (stepF mg p room fuel) t t' c) (hv : Inv room fuel t) : (t'.told.length : Int) ≤ max room 0 := by
  induction h with
  | @last s s' e he =>
    have h1 := stepF_told (mg := mg) (p := p) (room := room) (fuel := fuel) (t := s) (c := e) (by rw [he])
    rw [he] at h1
    simp only at h1
    rw [h1]
    exact hv.told
  | @more s s1 s' e he _ ih =>
    have h1 := (stepF_keeps hv (by rw [he])).1
    rw [he] at h1
    exact ih h1
/-- how a run of the machine goes -/
def stpF (p : Prog) (S K V : List Int) (s : ByteArray) (fuel : Int) : St → St × Option Nat := stepF (mgF p.signs S K V) p (roomF p.grow p.rest p.extra s.size) fuel
/-- what a run tells -/
def RunOut (p : Prog) (S K V : List Int) (s : ByteArray) (fuel : Int) (v : Value) (c u : Int) (w' : World) : Prop :=
  (4096 < s.size ∧ c = 2 ∧ u = 0 ∧ v = .slice none 0 0) ∨
  (s.size ≤ 4096 ∧ ∃ t' k, Ends (stpF p S K V s fuel) (st0 s.data.toList) t' k ∧ c = (k : Int) ∧ u = (t'.used : Int) ∧ t'.told.length ≤ 10000000000 ∧ ((c = 0 ∧ ∃ A q, v = .slice A t'.told.length q ∧ Arr w' w'.heap.size 1 A t'.told.length (IntC t'.told)) ∨ (c ≠ 0 ∧ v = .slice none 0 0)))
theorem reg0 {l : Bs} : RegB (st0 l) := by
  intro k
  show numB ((List.replicate 8 0).getD k 0)
  have this : (List.replicate 8 (0 : Int)).getD k 0 = 0 := by
    by_cases hk : k < 8
    · rw [List.getD, List.getElem?_eq_getElem (by rw [List.length_replicate]; exact hk), List.getElem_replicate]
      rfl
    · rw [List.getD, List.getElem?_eq_none (by rw [List.length_replicate]; omega)]
      rfl
  rw [this]
  exact ⟨by decide, by decide⟩
theorem inv0 (room fuel : Int) (s : ByteArray) (hf : 0 ≤ fuel) (hs : s.size ≤ 4096) : Inv room fuel (st0 s.data.toList) := by
  refine ⟨?_, ?_, ?_, ?_, ?_⟩
  · show ((0 : Nat) : Int) ≤ _; omega
  · show ((0 : Nat) : Int) ≤ _; omega
  · show 0 ≤ _; omega
  · show 0 ≤ _; omega
  · show s.data.toList.length ≤ _; rw [size_data]; omega
theorem vrun (p : Prog) (S K V : List Int) (v4 v5 v6 v7 v8 v9 : Value) (s : ByteArray) (fuel : Int) (w : World) (hp : PIn w w.heap.size (prgL p.grow p.rest p.extra p.signs v4 v5 v6 v7 v8 v9) p S K V) :
    Calls Try.prog 10 #[.agg #[.int .i64 p.grow, .int .i64 p.rest, .int .i64 p.extra, .int .i64 p.signs, v4, v5, v6, v7, v8, v9], .string s, .int .i64 fuel] w fun e w' => Below w.heap.size w w' ∧ ∃ v c u, e = .returned (.tuple #[v, .int .i64 c, .int .i64 u]) ∧ RunOut p S K V s (fuelF fuel) v c u w' := by
  by_cases hs : s.size ≤ 4096
  · refine (run_walk p.grow p.rest p.extra p.signs fuel v4 v5 v6 v7 v8 v9 s w hs (stpF p S K V s (fuelF fuel)) (fun t => Inv (roomF p.grow p.rest p.extra s.size) (fuelF fuel) t ∧ RegB t) ?_ ?_ ?_).mono ?_
    · exact ⟨inv0 _ _ s (fuelF_lo fuel) hs, reg0⟩
    · intro g W t vs vp vg vt hR hI
      exact step_all w.heap.size g w W _ _ _ t vs vp vg vt p S K V hR hp hI.1 hI.2 (fuelF_hi fuel) (room_hi _ _ _ _ hs)
    · intro t hI hn
      have h1 := stepF_keeps hI.1 hn
      exact ⟨⟨h1.1, stepF_regs hI.2 hp.cb hp.db⟩, h1.2, h1.1.used⟩
    · rintro e w' ⟨hb, t', c, hE, v, he, hr⟩
      have h1 := ends_told hE (inv0 _ _ s (fuelF_lo fuel) hs)
      have h2 := room_hi p.grow p.rest p.extra s.size hs
      have h3 := room_lo p.grow p.rest p.extra s.size
      refine ⟨hb, v, (c : Int), (t'.used : Int), he, .inr ⟨hs, t', c, hE, rfl, rfl, by omega, ?_⟩⟩
      rcases hr with ⟨rfl, A, q, hv, ha⟩ | ⟨h9, hv⟩
      · exact .inl ⟨rfl, A, q, hv, ha⟩
      · exact .inr ⟨by omega, hv⟩
  · refine (run_long p.grow p.rest p.extra p.signs fuel v4 v5 v6 v7 v8 v9 s w (by omega)).mono ?_
    rintro e w' ⟨he, hb⟩
    exact ⟨hb, _, 2, 0, he, .inl ⟨by omega, rfl, rfl, rfl⟩⟩
end Go.Proofs.Ytgejpggbmgiocaa
