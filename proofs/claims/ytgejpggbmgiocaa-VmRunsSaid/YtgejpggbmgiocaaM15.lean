/- MMerge of this seat, in one text. -/
import Derived.Test.YtgejpggbmgiocaaM14
import Derived.Test.YtgejpggbmgiocaaM13
import Derived.Test.YtgejpggbmgiocaaM3
/- vm.Merge: what it gives. -/
namespace Go.Proofs.Ytgejpggbmgiocaa
open Go.RowKit
attribute [local go_sem ↓] load_pr store_pr store_nd
def badId (signs : Int) (l : List Int) : Bool := l.any fun x => decide (x < 0) || decide (signs ≤ x)
def vmMerge (S K V : List Int) (signs : Int) (l : List Int) : Option (List Int) :=
  if signs < 0 ∨ 65536 < signs ∨ 262144 < l.length then none else if badId signs l = true then none else mergeF (hget S K V) signs l
theorem badId_yes {signs : Int} {l : List Int} {k : Nat} (hk : k < l.length) (h : l.getD k 0 < 0 ∨ signs ≤ l.getD k 0) : badId signs l = true := by
  unfold badId
  rw [List.any_eq_true]
  refine ⟨l.getD k 0, by simp [hk], ?_⟩
  rw [Bool.or_eq_true, decide_eq_true_eq, decide_eq_true_eq]
  exact h
theorem badId_no {signs : Int} {l : List Int} (h : ∀ j, j < l.length → 0 ≤ l.getD j 0 ∧ l.getD j 0 < signs) : badId signs l = false := by
  unfold badId
  rw [List.any_eq_false]
  intro x hx
  obtain ⟨j, hj, rfl⟩ := List.getElem_of_mem hx
  have := h j hj
  simp [hj] at this
  simp
  omega
def MRes (r : Option (List Int)) (w : World) (e : Ending) (w' : World) : Prop :=
  Below w.heap.size w w' ∧ match r with
    | none => e = .returned (.tuple #[.slice none 0 0, .bool false])
    | some o => ∃ A c, e = .returned (.tuple #[.slice A o.length c, .bool true]) ∧ Arr w' w'.heap.size 1 A o.length (IntC o) ∧ (A = none → o.length = 0 ∧ c = 0)
theorem own_nilA {w : World} {base size n c : Nat} {e : TypeId} {A : Option Addr} {xs : List Value} (h : w.ownsRow base e size (.slice A n c) n xs) : A = none → n = 0 ∧ c = 0 := fun hA => by
  rcases h.2 with ⟨h1, h2⟩ | ⟨g, cap, cur, hv, _⟩
  · injection h1 with h3 h4 h5
    exact ⟨h2, h5⟩
  · injection hv with h3
    rw [hA] at h3
    cases h3
set_option maxRecDepth 100000 in
set_option maxHeartbeats 4000000 in
theorem merge_refused (v0 v1 v2 : Value) (A : Option Addr) (n c : Nat) (signs : Int) (w : World) (h : signs < 0 ∨ 65536 < signs ∨ 262144 < n) :
    Calls Try.prog 7 #[.agg #[v0, v1, v2], .int .i64 signs, .slice A n c] w fun e w' => e = .returned (.tuple #[.slice none 0 0, .bool false]) ∧ Below w.heap.size w w' := by
  have hb0 := Lib.hid (show Below w.heap.size w (w.alloc (.cells #[v0, v1, v2] 25)) from (Below.refl _ _).alloc (Nat.le_refl _) _)
  by_cases h1 : signs < 0
  · have d1 : decide (signs < 0) = true := by simpa using h1
    clear h
    go_enter Try.func7, Try.ntmps7
    go_wp2_with fail
    go_returns
    exact ⟨by first | rfl | simp, hb0.out⟩
  · have d1 : decide (signs < 0) = false := by simpa using h1
    by_cases h2 : 65536 < signs
    · have d2 : decide (65536 < signs) = true := by simpa using h2
      clear h
      go_enter Try.func7, Try.ntmps7
      go_wp2_with fail
      go_returns
      exact ⟨by first | rfl | simp, hb0.out⟩
    · have d2 : decide (65536 < signs) = false := by simpa using h2
      have d3 : decide ((262144 : Int) < (n : Int)) = true := by simp; omega
      clear h
      go_enter Try.func7, Try.ntmps7
      go_wp2_with fail
      go_returns
      exact ⟨by first | rfl | simp, hb0.out⟩
/-- the memory before there is a queue -/
structure M0 (w0 : World) (A0 A1 A2 : Option Addr) (n0 n1 n2 c0 c1 c2 : Nat) (S K V : List Int) (B bl gl n : Nat) (W : World) (nd : List Nd) : Prop where
  bel : Below B w0 W
  hin : HashIn w0 A0 A1 A2 n0 n1 n2 S K V
  hB : w0.heap.size = B
  hv : Under 18446744073709551616 V
  hb : Blk W B 25 [.slice A0 n0 c0, .slice A1 n1 c1, .slice A2 n2 c2]
  lb : Blk W bl 45 [.slice (some ⟨gl, 0, none⟩) n n]
  nb : Blk W gl 47 (nflat nd)
  len : nd.length = n
  ogB : B ≤ gl
  obB : B ≤ bl
  ne : gl ≠ bl
  neB : gl ≠ B
section
variable {w0 : World} {A0 A1 A2 : Option Addr} {n0 n1 n2 c0 c1 c2 : Nat} {S K V : List Int} {B bl gl bq n : Nat} {W W' : World} {nd nd' : List Nd} {a : Value} {q : List Pr}
theorem M0.go (h : M0 w0 A0 A1 A2 n0 n1 n2 c0 c1 c2 S K V B bl gl n W nd) (hb : Below W.heap.size W W') : M0 w0 A0 A1 A2 n0 n1 n2 c0 c1 c2 S K V B bl gl n W' nd :=
  ⟨h.bel.trans (hb.mono (Nat.le_of_lt h.hb.lt)), h.hin, h.hB, h.hv, h.hb.below hb h.hb.lt, h.lb.below hb h.lb.lt, h.nb.below hb h.nb.lt, h.len, h.ogB, h.obB, h.ne, h.neB⟩
/-- the nodes are written, and nothing else -/
theorem M0.nodes (h : M0 w0 A0 A1 A2 n0 n1 n2 c0 c1 c2 S K V B bl gl n W nd) (hg : W.grownBy W' (some gl)) (hn : Blk W' gl 47 (nflat nd')) (hl : nd'.length = n) : M0 w0 A0 A1 A2 n0 n1 n2 c0 c1 c2 S K V B bl gl n W' nd' :=
  ⟨h.bel.grown hg (Nat.le_of_lt h.hb.lt) (fun k hk => by injection hk with hk; have := h.ogB; omega), h.hin, h.hB, h.hv, (hg.block B h.hb.lt (fun e => by injection e with e; exact h.neB e.symm)).trans h.hb,
    (hg.block bl h.lb.lt (fun e => by injection e with e; exact h.ne e.symm)).trans h.lb, hn, hl, h.ogB, h.obB, h.ne, h.neB⟩
theorem M0.start (hin : HashIn w0 A0 A1 A2 n0 n1 n2 S K V) (hv : Under 18446744073709551616 V) (c0 c1 c2 n : Nat) :
    M0 w0 A0 A1 A2 n0 n1 n2 c0 c1 c2 S K V w0.heap.size (w0.heap.size + 2) (w0.heap.size + 1) n (((w0.alloc (.cells #[.slice A0 n0 c0, .slice A1 n1 c1, .slice A2 n2 c2] 25)).alloc (.cells (nflat (List.replicate n nd0)).toArray 47)).alloc (.cells #[.slice (some ⟨w0.heap.size + 1, 0, none⟩) n n] 45)) (List.replicate n nd0) := by
  refine ⟨(((Below.refl _ _).alloc (Nat.le_refl _) _).alloc (by simp) _).alloc (by simp; omega) _, hin, rfl, hv, ((Blk.new w0 25 [.slice A0 n0 c0, .slice A1 n1 c1, .slice A2 n2 c2]).alloc _).alloc _, ?_, ?_, by simp, by omega, by omega, by omega, by omega⟩
  · have := Blk.new ((w0.alloc (.cells #[.slice A0 n0 c0, .slice A1 n1 c1, .slice A2 n2 c2] 25)).alloc (.cells (nflat (List.replicate n nd0)).toArray 47)) 45 [.slice (some ⟨w0.heap.size + 1, 0, none⟩) n n]
    simpa using this
  · have := (Blk.new (w0.alloc (.cells #[.slice A0 n0 c0, .slice A1 n1 c1, .slice A2 n2 c2] 25)) 47 (nflat (List.replicate n nd0))).alloc (.cells #[.slice (some ⟨w0.heap.size + 1, 0, none⟩) n n] 45)
    simpa using this
/-- the nodes are written, and nothing else -/
theorem MM.nodes (h : MM w0 A0 A1 A2 n0 n1 n2 c0 c1 c2 S K V B bl gl bq n W nd a q) (hg : W.grownBy W' (some gl)) (hn : Blk W' gl 47 (nflat nd')) (hl : nd'.length = n) : MM w0 A0 A1 A2 n0 n1 n2 c0 c1 c2 S K V B bl gl bq n W' nd' a q := by
  have hb : ∀ k, k < W.heap.size → k ≠ gl → W'.heap[k]? = W.heap[k]? := fun k hk hne => hg.block k hk (fun e => by injection e with e; exact hne e)
  have o1 := h.ogl
  have o2 := h.ob
  have o3 := h.obl
  have o4 := h.ogB
  exact ⟨h.bel.grown hg (Nat.le_of_lt h.hb.lt) (fun k hk => by injection hk with hk; omega), h.hin, h.hB, h.hv, (hb B h.hb.lt (fun e => h.neB e.symm)).trans h.hb, (hb bl h.lb.lt (fun e => h.ne e.symm)).trans h.lb, hn,
    ⟨Below.refl _ _, (hb bq h.qb.lt (by omega)).trans h.qb.box, own_move h.qb.own (fun k _ e ho _ => (hb k (h.qb.own.lt k e).2 (by have := (h.qb.own.lt k e).1; omega)).trans ho)⟩, hl, h.ob, h.obl, h.ogl, h.ogB, h.obB, h.ne, h.neB⟩
/-- the queue's box is laid -/
theorem M0.queue (h : M0 w0 A0 A1 A2 n0 n1 n2 c0 c1 c2 S K V B bl gl n W nd) : MM w0 A0 A1 A2 n0 n1 n2 c0 c1 c2 S K V B bl gl W.heap.size n (W.alloc (.cells #[.slice none 0 0] 50)) nd (.slice none 0 0) [] := by
  have h2 := h.go ((Below.refl _ _).alloc (Nat.le_refl _) (.cells #[.slice none 0 0] 50))
  exact ⟨h2.bel, h.hin, h.hB, h.hv, h2.hb, h2.lb, h2.nb, ⟨Below.refl _ _, Blk.new W 50 [.slice none 0 0], World.ownsRow_nil _ _ _ _⟩, h.len, h.hb.lt, h.lb.lt, h.nb.lt, h.ogB, h.obB, h.ne, h.neB⟩
end
/-- how much is left to do -/
def liveV : Option Value → Bool
  | some (.int _ x) => decide (0 ≤ x)
  | _ => false
def liveC (cs : List Value) : Nat := (List.range (cs.length / 3)).countP fun i => liveV cs[i * 3]?
def mM (gl bq : Nat) (W : World) : Nat :=
  (match W.cell? ⟨bq, 0, none⟩ with | some (.slice _ n _) => n | _ => 0) + 2 * (match W.heap[gl]? with | some (.cells cs _ _) => liveC cs.toList | _ => 0)
theorem liveC_flat (nd : List Nd) : liveC (nflat nd) = liveN nd := by
  unfold liveC liveN
  rw [length_flat, Nat.mul_div_cancel _ (by omega)]
  have : nd = (List.range nd.length).map (ndAt nd) := by
    apply List.ext_getElem (by simp)
    intro i h1 h2
    simp [ndAt, h1]
  conv => rhs; rw [this]
  rw [List.countP_map]
  refine List.countP_congr (fun i hi => ?_)
  have hi : i < nd.length := by simpa using hi
  have := flat_get (m := 3) (f := ndF) (d := nd0) hi (j := 0) (by omega)
  rw [Nat.add_zero] at this
  rw [this]
  rfl
theorem mM_eq {w0 : World} {A0 A1 A2 : Option Addr} {n0 n1 n2 c0 c1 c2 : Nat} {S K V : List Int} {B bl gl bq n : Nat} {W : World} {nd : List Nd} {a : Value} {q : List Pr} (h : MM w0 A0 A1 A2 n0 n1 n2 c0 c1 c2 S K V B bl gl bq n W nd a q) : mM gl bq W = q.length + 2 * liveN nd := by
  obtain ⟨A, c, rfl⟩ := own_sl h.qb.own
  unfold mM
  rw [h.qb.c0, show W.heap[gl]? = _ from h.nb]
  simp only [liveC_flat]
theorem small_of {S K V : List Int} (hv : Under 18446744073709551616 V) {p : Pr} {n : Nat} (hn : n ≤ 262144) (h : 0 ≤ p.left ∧ p.left.toNat < n ∧ 0 ≤ p.first ∧ 0 ≤ p.second ∧ hget S K V p.first p.second = some (p.rank, p.id)) : SmallP p := by
  have := hget_bd hv h.2.2.2.2
  exact ⟨this.1, this.2.1, h.1, by have := h.2.1; omega⟩
theorem mergeF_nil (get : Int → Int → Option (Int × Int)) (signs : Int) : mergeF get signs [] = some [] := mergeF_none (bestOf_none (fun j hj => by simp at hj))
end Go.Proofs.Ytgejpggbmgiocaa
