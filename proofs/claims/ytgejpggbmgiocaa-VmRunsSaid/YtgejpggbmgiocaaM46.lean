/- VRun, Alive, LLess of this seat, in one text. -/
import Derived.Test.YtgejpggbmgiocaaM34
import Derived.Test.YtgejpggbmgiocaaM45
import Derived.Test.YtgejpggbmgiocaaProg
import Derived.Test.YtgejpggbmgiocaaM1
import Derived.Laws.Strings
import Derived.Laws.RangeString
/- vm.Run, of any program. -/
namespace Go.Proofs.Ytgejpggbmgiocaa
open Go.RowKit
theorem TabsIn.keep {w W : World} {prg : List Value} {t : List Tbl} (h : TabsIn w w.heap.size prg t) (hb : Below w.heap.size w W) : TabsIn W W.heap.size prg t := by
  obtain ⟨⟨A, c, DA, dc, e, ha, hd⟩, h1, h2⟩ := h
  exact ⟨⟨A, c, DA, dc, e, (ha.below hb).more hb.size, fun k hk => ((hd k hk).below hb).more hb.size⟩, h1, h2⟩
theorem TextsIn.keep {w W : World} {prg : List Value} {t : List ByteArray} (h : TextsIn w w.heap.size prg t) (hb : Below w.heap.size w W) : TextsIn W W.heap.size prg t := by
  obtain ⟨⟨A, c, e, ha⟩, h1, h2⟩ := h
  exact ⟨⟨A, c, e, (ha.below hb).more hb.size⟩, h1, h2⟩
theorem PairsIn.keep {w W : World} {prg : List Value} {sg : Int} {S K V : List Int} (h : PairsIn w w.heap.size prg sg S K V) (hb : Below w.heap.size w W) : PairsIn W W.heap.size prg sg S K V := by
  obtain ⟨_, h3, ⟨A0, A1, A2, n0, n1, n2, c0, c1, c2, e0, e1, e2, hh⟩, hv⟩ := h
  exact ⟨rfl, h3, ⟨A0, A1, A2, n0, n1, n2, c0, c1, c2, e0, e1, e2, hh.keep hb⟩, hv⟩
theorem PIn.keep {w W : World} {prg : List Value} {p : Prog} {S K V : List Int} (h : PIn w w.heap.size prg p S K V) (hb : Below w.heap.size w W) : PIn W W.heap.size prg p S K V :=
  ⟨h.code.keep hb, h.tabs.keep hb, h.texts.keep hb, h.pairs.keep hb, h.cb, h.db⟩
theorem room_hi (a b c : Int) (n : Nat) (hn : n ≤ 4096) : roomF a b c n ≤ 10000000000 := by
  unfold roomF
  have h1 := boundF_hi a
  have h2 := boundF_hi b
  have h3 := boundF_hi c
  have h4 := boundF_lo a
  have h5 : boundF a * (n : Int) ≤ 1048576 * 4096 := Int.mul_le_mul h1 (by omega) (by omega) (by omega)
  omega
theorem room_lo (a b c : Int) (n : Nat) : 0 ≤ roomF a b c n := by
  unfold roomF
  have h1 := boundF_lo a
  have h2 := boundF_lo b
  have h3 := boundF_lo c
  have h5 : 0 ≤ boundF a * (n : Int) := Int.mul_nonneg h1 (by omega)
  omega
theorem doF_told {mg : List Int → Option (List Int)} {p : Prog} {room : Int} {t : St} {i : Ins} {c : Nat} (h : (doF mg p room t i).2 = some c) : (doF mg p room t i).1.told = t.told := by
  unfold doF at h ⊢
  by_cases e : i.op = 1
  · rw [if_pos e] at h ⊢
    all_goals first | rfl | (split <;> rfl) | cases h
  rw [if_neg e] at h ⊢
  clear e
  by_cases e : i.op = 2
  · rw [if_pos e] at h ⊢
    all_goals first | rfl | (split <;> rfl) | cases h
  rw [if_neg e] at h ⊢
  clear e
  by_cases e : i.op = 3
  · rw [if_pos e] at h ⊢
    all_goals first | rfl | (split <;> rfl) | cases h
  rw [if_neg e] at h ⊢
  clear e
  by_cases e : i.op = 4
  · rw [if_pos e] at h ⊢
    all_goals first | rfl | (split <;> rfl) | cases h
  rw [if_neg e] at h ⊢
  clear e
  by_cases e : i.op = 5
  · rw [if_pos e] at h ⊢
    all_goals first | rfl | (split <;> rfl) | cases h
  rw [if_neg e] at h ⊢
  clear e
  by_cases e : i.op = 6
  · rw [if_pos e] at h ⊢
    all_goals first | rfl | (split <;> rfl) | cases h
  rw [if_neg e] at h ⊢
  clear e
  by_cases e : i.op = 7
  · rw [if_pos e] at h ⊢
    all_goals first | rfl | (split <;> rfl) | cases h
  rw [if_neg e] at h ⊢
  clear e
  by_cases e : i.op = 8
  · rw [if_pos e] at h ⊢
    all_goals first | rfl | (split <;> rfl) | cases h
  rw [if_neg e] at h ⊢
  clear e
  by_cases e : i.op = 9
  · rw [if_pos e] at h ⊢
    all_goals first | rfl | (split <;> rfl) | cases h
  rw [if_neg e] at h ⊢
  clear e
  by_cases e : i.op = 10
  · rw [if_pos e] at h ⊢
    all_goals first | rfl | (split <;> rfl) | cases h
  rw [if_neg e] at h ⊢
  clear e
  by_cases e : i.op = 11
  · rw [if_pos e] at h ⊢
    all_goals first | rfl | (split <;> rfl) | cases h
  rw [if_neg e] at h ⊢
  clear e
  by_cases e : i.op = 12
  · rw [if_pos e] at h ⊢
    all_goals first | rfl | (split <;> rfl) | cases h
  rw [if_neg e] at h ⊢
  clear e
  by_cases e : i.op = 13
  · rw [if_pos e] at h ⊢
    all_goals first | rfl | (split <;> rfl) | cases h
  rw [if_neg e] at h ⊢
  clear e
  by_cases e : i.op = 14
  · rw [if_pos e] at h ⊢
    all_goals first | rfl | (split <;> rfl) | cases h
  rw [if_neg e] at h ⊢
  clear e
  by_cases e : i.op = 15
  · rw [if_pos e] at h ⊢
    all_goals first | rfl | (split <;> rfl) | cases h
  rw [if_neg e] at h ⊢
  clear e
  by_cases e : i.op = 17
  · rw [if_pos e] at h ⊢
    all_goals first | rfl | (split <;> rfl) | cases h
  rw [if_neg e] at h ⊢
  clear e
  split
  · rfl
  · rename_i l hl
    simp only [hl] at h
    split
    · rfl
    · rename_i hr
      rw [if_neg hr] at h
      cases h
theorem stepF_told {mg : List Int → Option (List Int)} {p : Prog} {room fuel : Int} {t : St} {c : Nat} (h : (stepF mg p room fuel t).2 = some c) : (stepF mg p room fuel t).1.told = t.told := by
  unfold stepF at h ⊢
  split
  · rfl
  · rename_i h1
    rw [if_neg h1] at h
    simp only at h ⊢
    split
    · rfl
    · rename_i cc hc
      simp only [hc] at h
      split
      · rfl
      · rename_i h2
        rw [if_neg h2] at h
        exact doF_told h
theorem ends_told {mg : List Int → Option (List Int)} {p : Prog} {room fuel : Int} {t t' : St} {c : Nat} (h : Ends (stepF mg p room fuel) t t' c) (hv : Inv room fuel t) : (t'.told.length : Int) ≤ max room 0 := by
  induction h with
  | @last s s' e he =>
    have h1 := stepF_told (mg := mg) (p := p) (room := room) (fuel := fuel) (t := s) (c := e) (by rw [he])
    rw [he] at h1
    simp only at h1
    rw [h1]
    exact hv.told
  | @more s s1 s' e he _ ih =>
    have h1 := (stepF_keeps hv (by rw [he])).1
    rw [he] at h1
    exact ih h1
/-- how a run of the machine goes -/
def stpF (p : Prog) (S K V : List Int) (s : ByteArray) (fuel : Int) : St → St × Option Nat := stepF (mgF p.signs S K V) p (roomF p.grow p.rest p.extra s.size) fuel
/-- what a run tells -/
def RunOut (p : Prog) (S K V : List Int) (s : ByteArray) (fuel : Int) (v : Value) (c u : Int) (w' : World) : Prop :=
  (4096 < s.size ∧ c = 2 ∧ u = 0 ∧ v = .slice none 0 0) ∨
  (s.size ≤ 4096 ∧ ∃ t' k, Ends (stpF p S K V s fuel) (st0 s.data.toList) t' k ∧ c = (k : Int) ∧ u = (t'.used : Int) ∧ t'.told.length ≤ 10000000000 ∧ ((c = 0 ∧ ∃ A q, v = .slice A t'.told.length q ∧ Arr w' w'.heap.size 1 A t'.told.length (IntC t'.told)) ∨ (c ≠ 0 ∧ v = .slice none 0 0)))
theorem reg0 {l : Bs} : RegB (st0 l) := by
  intro k
  show numB ((List.replicate 8 0).getD k 0)
  have this : (List.replicate 8 (0 : Int)).getD k 0 = 0 := by
    by_cases hk : k < 8
    · rw [List.getD, List.getElem?_eq_getElem (by rw [List.length_replicate]; exact hk), List.getElem_replicate]
      rfl
    · rw [List.getD, List.getElem?_eq_none (by rw [List.length_replicate]; omega)]
      rfl
  rw [this]
  exact ⟨by decide, by decide⟩
theorem inv0 (room fuel : Int) (s : ByteArray) (hf : 0 ≤ fuel) (hs : s.size ≤ 4096) : Inv room fuel (st0 s.data.toList) := by
  refine ⟨?_, ?_, ?_, ?_, ?_⟩
  · show ((0 : Nat) : Int) ≤ _; omega
  · show ((0 : Nat) : Int) ≤ _; omega
  · show 0 ≤ _; omega
  · show 0 ≤ _; omega
  · show s.data.toList.length ≤ _; rw [size_data]; omega
theorem vrun (p : Prog) (S K V : List Int) (v4 v5 v6 v7 v8 v9 : Value) (s : ByteArray) (fuel : Int) (w : World) (hp : PIn w w.heap.size (prgL p.grow p.rest p.extra p.signs v4 v5 v6 v7 v8 v9) p S K V) :
    Calls Try.prog 10 #[.agg #[.int .i64 p.grow, .int .i64 p.rest, .int .i64 p.extra, .int .i64 p.signs, v4, v5, v6, v7, v8, v9], .string s, .int .i64 fuel] w fun e w' => Below w.heap.size w w' ∧ ∃ v c u, e = .returned (.tuple #[v, .int .i64 c, .int .i64 u]) ∧ RunOut p S K V s (fuelF fuel) v c u w' := by
  by_cases hs : s.size ≤ 4096
  · refine (run_walk p.grow p.rest p.extra p.signs fuel v4 v5 v6 v7 v8 v9 s w hs (stpF p S K V s (fuelF fuel)) (fun t => Inv (roomF p.grow p.rest p.extra s.size) (fuelF fuel) t ∧ RegB t) ?_ ?_ ?_).mono ?_
    · exact ⟨inv0 _ _ s (fuelF_lo fuel) hs, reg0⟩
    · intro g W t vs vp vg vt hR hI
      exact step_all w.heap.size g w W _ _ _ t vs vp vg vt p S K V hR hp hI.1 hI.2 (fuelF_hi fuel) (room_hi _ _ _ _ hs)
    · intro t hI hn
      have h1 := stepF_keeps hI.1 hn
      exact ⟨⟨h1.1, stepF_regs hI.2 hp.cb hp.db⟩, h1.2, h1.1.used⟩
    · rintro e w' ⟨hb, t', c, hE, v, he, hr⟩
      have h1 := ends_told hE (inv0 _ _ s (fuelF_lo fuel) hs)
      have h2 := room_hi p.grow p.rest p.extra s.size hs
      have h3 := room_lo p.grow p.rest p.extra s.size
      refine ⟨hb, v, (c : Int), (t'.used : Int), he, .inr ⟨hs, t', c, hE, rfl, rfl, by omega, ?_⟩⟩
      rcases hr with ⟨rfl, A, q, hv, ha⟩ | ⟨h9, hv⟩
      · exact .inl ⟨rfl, A, q, hv, ha⟩
      · exact .inr ⟨by omega, hv⟩
  · refine (run_long p.grow p.rest p.extra p.signs fuel v4 v5 v6 v7 v8 v9 s w (by omega)).mono ?_
    rintro e w' ⟨he, hb⟩
    exact ⟨hb, _, 2, 0, he, .inl ⟨by omega, rfl, rfl, rfl⟩⟩
end Go.Proofs.Ytgejpggbmgiocaa
/- A text of one byte has one character. -/
namespace Go.Proofs.Ytgejpggbmgiocaa
open Go.RowKit

theorem next_a (w : World) (ty : TypeId) : (Instr.next (.pointer (some ⟨w.heap.size, 0, none⟩)) true ty).run Try.prog (w.iter ⟨#[97]⟩ 0) = .ok (.tuple #[.bool true, .int .i64 0, .int .i32 97]) (w.iter ⟨#[97]⟩ 1) :=
  run_next_ascii (P := Try.prog) w ⟨#[97]⟩ 0 ty (by decide) (by decide)
theorem next_e (w : World) (ty : TypeId) : (Instr.next (.pointer (some ⟨w.heap.size, 0, none⟩)) true ty).run Try.prog (w.iter ⟨#[97]⟩ 1) = .ok (.tuple #[.bool false]) (w.iter ⟨#[97]⟩ 1) :=
  run_next_end (P := Try.prog) w ⟨#[97]⟩ 1 ty (by decide)
theorem below_iter (w : World) (s : ByteArray) (p : Nat) : Below w.heap.size w (w.iter s p) := (Below.refl _ _).alloc (Nat.le_refl _) _
theorem runes_a (w : World) : Calls Try.prog 36 #[.string ⟨#[97]⟩] w fun e w' => e = .returned (.int .i64 1) ∧ Below w.heap.size w w' := by
  have h1 := next_a w
  have h2 := next_e w
  go_enter Try.func36, Try.ntmps36
  go_wp2
  refine wp_loop_rounds 2 ?_
  rw [rounds_succ]
  go_wp2
  rw [rounds_succ]
  go_wp2
  go_ret
  exact ⟨rfl, below_iter _ _ _⟩
theorem count_a (w : World) : Calls Try.prog 23 #[.string ⟨#[97]⟩] w fun e w' => e = .returned (.int .i64 1) ∧ Below w.heap.size w w' := by
  go_enter Try.func23, Try.ntmps23
  go_wp2_with fail
  refine (runes_a w).mono ?_
  rintro e w' ⟨rfl, hb⟩
  go_wp2_with fail
  go_ret
  exact ⟨rfl, hb⟩
theorem alive_any (w : World) : Calls Try.prog 13 #[] w fun e w' => e = .returned (.bool true) ∧ Below w.heap.size w w' := by
  go_enter Try.func13, Try.ntmps13
  go_wp2_with fail
  refine (count_a w).mono ?_
  rintro e w' ⟨rfl, hb⟩
  go_wp2_with fail
  go_ret
  exact ⟨rfl, hb⟩
end Go.Proofs.Ytgejpggbmgiocaa
/- VmLess, with its program laid open. -/
namespace Go.Proofs.Ytgejpggbmgiocaa
open Go.RowKit
attribute [local go_sem ↓] load_p
/-- the law's world: the program, and its box -/
structure LW (p : Prog) (S K V : List Int) (prg : List Value) (w W : World) : Prop where
  prog : PIn W W.heap.size prg p S K V
  bel : Below w.heap.size w W
  blk : PB w prg W
section
variable {p : Prog} {S K V : List Int} {prg : List Value} {w W W' : World}
theorem lw_start (h : PIn w w.heap.size prg p S K V) : LW p S K V prg w (w.alloc (.cells prg.toArray 35)) := by
  have hb : Below w.heap.size w (w.alloc (.cells prg.toArray 35)) := (Below.refl _ _).alloc (Nat.le_refl _) _
  exact ⟨h.keep hb, hb, ⟨hb, by simp, Blk.new w 35 prg⟩⟩
theorem LW.go (h : LW p S K V prg w W) (hb : Below W.heap.size W W') : LW p S K V prg w W' := ⟨h.prog.keep hb, h.bel.trans (hb.mono h.bel.size), h.blk.go hb⟩
end
theorem fuel_id (x : Int) (h0 : 0 ≤ x) (h1 : x ≤ 35184372088832) : fuelF x = x := by
  unfold fuelF
  rw [if_neg (by omega), if_neg (by omega)]
theorem inv_used0 (s : ByteArray) : (st0 s.data.toList).used = 0 := rfl
/-- the three runs: what the law looks at -/
theorem less_plain (p : Prog) (S K V : List Int) (s : ByteArray) (f1 f2 : Int) (h1 : 0 ≤ f1) {t t2 : St} {c c2 : Nat} (hE : Ends (stpF p S K V s f1) (st0 s.data.toList) t c) (hE2 : Ends (stpF p S K V s f2) (st0 s.data.toList) t2 c2) (hc : c ≠ 1) :
    ((t.used : Int) ≤ f2 → t2 = t ∧ c2 = c) ∧ (0 ≤ f2 → f2 < (t.used : Int) → c2 = 1 ∧ (t2.used : Int) ≤ f2) := by
  refine ⟨fun h => ?_, fun h0 h => ?_⟩
  · have h3 := ends_same hE (f2 := f2) (by rw [inv_used0]; omega) hc h
    exact hE2.det h3
  · obtain ⟨t3, h3⟩ := ends_less hE (f2 := f2) (by rw [inv_used0]; omega) hc (by rw [inv_used0]; omega) h
    have h4 := hE2.det h3
    have h5 := ends_used hE2 (by rw [inv_used0]; omega)
    exact ⟨h4.2, h5.2.1⟩
set_option maxRecDepth 100000 in
set_option maxHeartbeats 8000000 in
theorem law_vless (p : Prog) (S K V : List Int) (v4 v5 v6 v7 v8 v9 : Value) (s : ByteArray) (fuel more : Int) (w : World) (hp : PIn w w.heap.size (prgL p.grow p.rest p.extra p.signs v4 v5 v6 v7 v8 v9) p S K V) (hsz : s.size ≤ 9223372036854775807) :
    Calls Try.prog 6 #[.agg #[.int .i64 p.grow, .int .i64 p.rest, .int .i64 p.extra, .int .i64 p.signs, v4, v5, v6, v7, v8, v9], .string s, .int .i64 fuel, .int .i64 more] w fun e w' => e = .returned (.bool true) ∧ Below w.heap.size w w' := by
  have E1 := Lib.hid (lw_start hp)
  obtain ⟨gr, hgr⟩ : ∃ x, x = p.grow := ⟨_, rfl⟩
  obtain ⟨re, hre⟩ : ∃ x, x = p.rest := ⟨_, rfl⟩
  obtain ⟨ex, hex⟩ : ∃ x, x = p.extra := ⟨_, rfl⟩
  obtain ⟨sg, hsg⟩ : ∃ x, x = p.signs := ⟨_, rfl⟩
  have HR := Lib.hid (fun W h f => vrun p S K V v4 v5 v6 v7 v8 v9 s f W h)
  rw [← hgr, ← hre, ← hex, ← hsg] at HR E1 ⊢
  clear hp hgr hre hex hsg
  unfold prgL at HR E1
  obtain ⟨f1, hf1⟩ : ∃ x, (if fuel < 0 then (0 : Int) else fuel) = x := ⟨_, rfl⟩
  obtain ⟨f5, hf5⟩ : ∃ x, (if 5000 < f1 then (5000 : Int) else f1) = x := ⟨_, rfl⟩
  have hlo : 0 ≤ f5 := by rw [← hf5, ← hf1]; split <;> split <;> omega
  have hhi : f5 ≤ 5000 := by rw [← hf5]; split <;> omega
  obtain ⟨m1, hm1⟩ : ∃ x, (if more < 0 then (0 : Int) else more) = x := ⟨_, rfl⟩
  obtain ⟨m5, hm5⟩ : ∃ x, (if 5000 < m1 then (5000 : Int) else m1) = x := ⟨_, rfl⟩
  have mlo : 0 ≤ m5 := by rw [← hm5, ← hm1]; split <;> split <;> omega
  have mhi : m5 ≤ 5000 := by rw [← hm5]; split <;> omega
  go_enter Try.func6, Try.ntmps6
  go_wp2_with fail
  generalize w.alloc _ = W1 at E1 ⊢
  refine (alive_any _).mono ?_
  rintro e w2 ⟨rfl, hb⟩
  have E2 := Lib.hid (E1.out.go hb)
  have hld := E2.out.blk.load rfl
  clear hb
  go_wp2_with fail
  refine (HR.out _ E2.out.prog f5).mono ?_
  rintro e w3 ⟨hb3, v, c, u, rfl, hO⟩
  rw [fuel_id f5 hlo (by omega)] at hO
  have E3 := Lib.hid (E2.out.go hb3)
  clear hb3 hld
  rcases hO with ⟨hlong, rfl, rfl, rfl⟩ | ⟨hs, t, k, hE, hck, hut, htl, hv⟩
  · have d1 : decide ((4096 : Int) < (s.size : Int)) = true := by simp; omega
    have d2 : decide (f5 < 0) = false := by simp; omega
    go_wp2_with fail
    go_returns
    exact ⟨by first | rfl | simp, E3.out.bel⟩
  · have hend := ends_used hE (by rw [inv_used0]; omega)
    have hu0 : 0 ≤ u := by omega
    have hu1 : u ≤ f5 := by omega
    have d2 : decide (f5 < u) = false := by simp; omega
    have HE := Lib.hid (And.intro hE (And.intro hck hut))
    clear hE
    rcases hend.2.2 with hk | hk | hk
    · have hc : c = 0 := by omega
      subst hc
      obtain ⟨A, q, rfl, hA⟩ : ∃ A q, v = .slice A t.told.length q ∧ Arr w3 w3.heap.size 1 A t.told.length (IntC t.told) := by
        rcases hv with ⟨_, h9⟩ | ⟨h9, _⟩
        · exact h9
        · exact absurd rfl h9
      obtain ⟨n, hn⟩ : ∃ n, n = t.told.length := ⟨_, rfl⟩
      rw [← hn] at hA htl ⊢
      have HA := Lib.hid hA
      have HN := Lib.hid hn
      have HK := Lib.hid (And.intro hck hut)
      have hu1' : 1 ≤ u ∨ u = 0 := by omega
      obtain ⟨f2, hf2⟩ : ∃ x, u + m5 = x := ⟨_, rfl⟩
      have hw2 : wrap64 f2 = f2 := IntWalk.wrap64_in _ (by omega)
      have hf2b : u ≤ f2 ∧ f2 ≤ 10000 := by omega
      clear hv hck hut hend hA hn
      have hld := E3.out.blk.load rfl
      go_wp2_with fail
      refine (HR.out _ E3.out.prog f2).mono ?_
      rintro e w4 ⟨hb4, v2, c2, u2, rfl, hO2⟩
      rw [fuel_id f2 (by omega) (by omega)] at hO2
      have E4 := Lib.hid (E3.out.go hb4)
      have HA := Lib.hid ((HA.out.below hb4).more hb4.size)
      clear hb4 hld
      rcases hO2 with ⟨h9, _⟩ | ⟨_, t2, k2, hE2, hck2, hut2, _, hv2⟩
      · omega
      · have hp1 := (less_plain p S K V s f5 f2 hlo HE.out.1 hE2 (by omega)).1 (by have := HK.out.2; omega)
        obtain ⟨rfl, rfl⟩ := hp1
        obtain rfl : c2 = 0 := by omega
        obtain rfl : u2 = u := by have := HK.out.2; omega
        obtain ⟨A2, q2, rfl, hA2⟩ : ∃ A q, v2 = .slice A t2.told.length q ∧ Arr w4 w4.heap.size 1 A t2.told.length (IntC t2.told) := by
          rcases hv2 with ⟨_, h9⟩ | ⟨h9, _⟩
          · exact h9
          · exact absurd rfl h9
        rw [← HN.out] at hA2 ⊢
        have HA2 := Lib.hid hA2
        clear hv2 hck2 hut2 hE2 hA2
        go_wp2_with fail
        refine (ints_any A A2 n n q q2 w4.heap.size t2.told t2.told w4 HN.out.symm HN.out.symm (by omega) (by omega) HA.out HA2.out).mono ?_
        rintro e w5 ⟨rfl, mm, rfl⟩
        have e9 : decide (t2.told = t2.told) = true := by simp
        have E5 := Lib.hid (E4.out.go (below_drewN (Below.refl _ _) mm))
        generalize w4.drewN mm = w5 at E5 ⊢
        have hld := E5.out.blk.load rfl
        rcases hu1' with hu1' | rfl
        · obtain ⟨f3, hf3⟩ : ∃ x, u2 - 1 = x := ⟨_, rfl⟩
          have hw3 : wrap64 f3 = f3 := IntWalk.wrap64_in _ (by omega)
          have d3 : (u2 == 0) = false := by simp; omega
          go_wp2_with fail
          refine (HR.out _ E5.out.prog f3).mono ?_
          rintro e w6 ⟨hb6, v3, c3, u3, rfl, hO3⟩
          rw [fuel_id f3 (by omega) (by omega)] at hO3
          have E6 := Lib.hid (E5.out.go hb6)
          clear hb6 hld
          rcases hO3 with ⟨h9, _⟩ | ⟨_, t3, k3, hE3, hck3, hut3, _, hv3⟩
          · omega
          · have hp3 := (less_plain p S K V s f5 f3 hlo HE.out.1 hE3 (by omega)).2 (by omega) (by have := HK.out.2; omega)
            obtain ⟨rfl, hu3⟩ := hp3
            obtain rfl : c3 = 1 := by omega
            obtain rfl : v3 = .slice none 0 0 := by
              rcases hv3 with ⟨h9, _⟩ | ⟨_, h9⟩
              · omega
              · exact h9
            have hlt3 : u3 < u2 := by omega
            clear hut3 hu3
            have d4 : decide (u3 < u2) = true := decide_eq_true hlt3
            clear hv3 hck3 hE3
            go_wp2_with fail
            go_returns
            exact ⟨by first | rfl | simp, E6.out.bel⟩
        · go_wp2_with fail
          go_returns
          exact ⟨by first | rfl | simp, E5.out.bel⟩
    · have hc : c = 1 := by omega
      subst hc
      obtain rfl : v = .slice none 0 0 := by
        rcases hv with ⟨h9, _⟩ | ⟨_, h9⟩
        · omega
        · exact h9
      clear hv hck hut hend
      go_wp2_with fail
      go_returns
      exact ⟨by first | rfl | simp, E3.out.bel⟩
    · have hc : c = 3 := by omega
      subst hc
      obtain rfl : v = .slice none 0 0 := by
        rcases hv with ⟨h9, _⟩ | ⟨_, h9⟩
        · omega
        · exact h9
      have HK := Lib.hid (And.intro hck hut)
      obtain ⟨f2, hf2⟩ : ∃ x, u + m5 = x := ⟨_, rfl⟩
      have hw2 : wrap64 f2 = f2 := IntWalk.wrap64_in _ (by omega)
      have hf2b : u ≤ f2 ∧ f2 ≤ 10000 := by omega
      clear hv hck hut hend
      have hld := E3.out.blk.load rfl
      go_wp2_with fail
      refine (HR.out _ E3.out.prog f2).mono ?_
      rintro e w4 ⟨hb4, v2, c2, u2, rfl, hO2⟩
      rw [fuel_id f2 (by omega) (by omega)] at hO2
      have E4 := Lib.hid (E3.out.go hb4)
      clear hb4 hld
      rcases hO2 with ⟨h9, _⟩ | ⟨_, t2, k2, hE2, hck2, hut2, _, hv2⟩
      · omega
      · have hp1 := (less_plain p S K V s f5 f2 hlo HE.out.1 hE2 (by omega)).1 (by have := HK.out.2; omega)
        obtain ⟨rfl, rfl⟩ := hp1
        obtain rfl : c2 = 3 := by have := HK.out.1; omega
        obtain rfl : u2 = u := by have := HK.out.2; omega
        obtain rfl : v2 = .slice none 0 0 := by
          rcases hv2 with ⟨h9, _⟩ | ⟨_, h9⟩
          · omega
          · exact h9
        clear hv2 hck2 hut2 hE2
        go_wp2_with fail
        refine (ints_any none none 0 0 0 0 w4.heap.size [] [] w4 rfl rfl (by omega) (by omega) (fun h9 => absurd h9 (by omega)) (fun h9 => absurd h9 (by omega))).mono ?_
        rintro e w5 ⟨rfl, mm, rfl⟩
        have E5 := Lib.hid (E4.out.go (below_drewN (Below.refl _ _) mm))
        generalize w4.drewN mm = w5 at E5 ⊢
        obtain ⟨z0, hz0⟩ : ∃ z, (u2 == 0) = z := ⟨_, rfl⟩
        cases z0
        all_goals
          go_wp2_with fail
          go_returns
          exact ⟨by first | rfl | simp, E5.out.bel⟩
end Go.Proofs.Ytgejpggbmgiocaa
