/- set.parted: classes are parted by a set. -/
import Derived.Test.YtfjhcoeehjephaaKyMd
namespace Go.Proofs.Ytfjhcoeehjephaa
open Go.RowKit Go.Maps Go.WideMaps
attribute [local go_sem ↓] load_box store_box

def keyP (old : Nat → Nat) (h : Nat → Bool) (b : Nat) : Int × Int := ((old b : Int), if h b = true then 1 else 0)
def distK (old : Nat → Nat) (h : Nat → Bool) : Nat → List (Int × Int)
  | 0 => []
  | k + 1 => if keyP old h k ∈ distK old h k then distK old h k else distK old h k ++ [keyP old h k]
section
variable {old : Nat → Nat} {h : Nat → Bool}
theorem distK_len (k : Nat) : (distK old h k).length ≤ k := by
  induction k with
  | zero => exact Nat.le_refl _
  | succ k ih =>
    simp only [distK]
    split
    · omega
    · simp only [List.length_append, List.length_singleton]; omega
theorem distK_mem {k j : Nat} (hj : j < k) : keyP old h j ∈ distK old h k := by
  induction k with
  | zero => omega
  | succ k ih =>
    simp only [distK]
    by_cases e : j = k
    · subst e
      split
      · assumption
      · simp
    · have := ih (by omega)
      split
      · exact this
      · simp [this]
theorem distK_from {k : Nat} {p : Int × Int} (hp : p ∈ distK old h k) : ∃ j, j < k ∧ keyP old h j = p := by
  induction k with
  | zero => cases hp
  | succ k ih =>
    simp only [distK] at hp
    split at hp
    · obtain ⟨j, h1, h2⟩ := ih hp; exact ⟨j, by omega, h2⟩
    · rcases List.mem_append.1 hp with h9 | h9
      · obtain ⟨j, h1, h2⟩ := ih h9; exact ⟨j, by omega, h2⟩
      · exact ⟨k, by omega, (List.mem_singleton.1 h9).symm⟩
theorem distK_nodup (k : Nat) : (distK old h k).Nodup := by
  induction k with
  | zero => exact List.nodup_nil
  | succ k ih =>
    simp only [distK]
    split
    · exact ih
    · rename_i hn
      rw [List.nodup_append]
      exact ⟨ih, by simp, fun a ha b hb e => hn (by rw [List.mem_singleton] at hb; rw [← hb, ← e]; exact ha)⟩
theorem plc_step {k j : Nat} (hj : j < k) : plc (distK old h (k + 1)) (keyP old h j) = plc (distK old h k) (keyP old h j) := by
  simp only [distK]
  split
  · rfl
  · exact plc_old _ (distK_mem hj)
end
/-- all keys, and the new classes -/
def distB (old : Nat → Nat) (h : Nat → Bool) : List (Int × Int) := distK old h 256
def newC (old : Nat → Nat) (h : Nat → Bool) (b : Nat) : Nat := plc (distB old h) (keyP old h b)
theorem distB_len (old : Nat → Nat) (h : Nat → Bool) : (distB old h).length ≤ 256 := distK_len 256
theorem distB_mem {old : Nat → Nat} {h : Nat → Bool} {j : Nat} (hj : j < 256) : keyP old h j ∈ distB old h := distK_mem hj
theorem distB_from {old : Nat → Nat} {h : Nat → Bool} {p : Int × Int} (hp : p ∈ distB old h) : ∃ j, j < 256 ∧ keyP old h j = p := distK_from hp
theorem distB_nodup (old : Nat → Nat) (h : Nat → Bool) : (distB old h).Nodup := distK_nodup 256
/-- classes that are right: each has a byte, and bytes of one have all sets alike -/
structure ClsOk (cls : Nat → Nat) (many : Nat) (l : List Quad) : Prop where
  lt : ∀ b, b < 256 → cls b < many
  has : ∀ c, c < many → ∃ b, b < 256 ∧ cls b = c
  alike : ∀ b b', b < 256 → b' < 256 → cls b = cls b' → ∀ q ∈ l, hasB q.a q.b q.c q.d b = hasB q.a q.b q.c q.d b'
  hi : many ≤ 256
theorem cls_begin : ClsOk (fun _ => 0) 1 [] := ⟨fun _ _ => by omega, fun c hc => ⟨0, by omega, by omega⟩, fun _ _ _ _ _ q hq => (by cases hq), by omega⟩
theorem ClsOk.many_pos {cls : Nat → Nat} {many : Nat} {l : List Quad} (h : ClsOk cls many l) : 1 ≤ many := by have := h.lt 0 (by omega); omega
theorem cls_parted {old : Nat → Nat} {many : Nat} {l : List Quad} (hc : ClsOk old many l) (q : Quad) : ClsOk (newC old (hasB q.a q.b q.c q.d)) (distB old (hasB q.a q.b q.c q.d)).length (l ++ [q]) := by
  refine ⟨fun b hb => plc_lt (distB_mem hb), fun c h9 => ?_, fun b b' hb hb' he p hp => ?_, distB_len _ _⟩
  · have hm : (distB old (hasB q.a q.b q.c q.d))[c] ∈ distB old (hasB q.a q.b q.c q.d) := List.getElem_mem h9
    obtain ⟨b, hb, hk⟩ := distB_from hm
    refine ⟨b, hb, ?_⟩
    unfold newC
    rw [hk]
    exact plc_at (distB_nodup _ _) h9
  · have hk := plc_inj (distB_mem hb) (distB_mem hb') he
    unfold keyP at hk
    simp only [Prod.mk.injEq] at hk
    rcases List.mem_append.1 hp with h9 | h9
    · exact hc.alike b b' hb hb' (by omega) p h9
    · have : p = q := by simpa using h9
      subst this
      have h8 := hk.2
      cases h1 : hasB p.a p.b p.c p.d b <;> cases h2 : hasB p.a p.b p.c p.d b' <;> rw [h1, h2] at h8 <;> simp at h8 ⊢
/-- what stays in parted -/
structure PW (W : World) (old : Nat → Nat) (q : Quad) (gm : Nat) (cls : Nat → Nat) (n : Nat) (D : DataW Unit) (w : World) : Prop where
  bel : Below W.heap.size W w
  b0 : Blk w W.heap.size 26 (bytV old)
  b1 : Blk w (W.heap.size + 1) 46 q.cells
  b2 : Blk w (W.heap.size + 1 + 1) 26 (bytV (fun _ => 0))
  b3 : Blk w (W.heap.size + 1 + 1 + 1) 26 (bytV cls)
  mp : w.ownsMap Try.prog 125 (plainElem Try.prog 5) gm n D
  gm : gm = W.heap.size + 1 + 1 + 1 + 1
section
variable {W w w' : World} {old cls : Nat → Nat} {q : Quad} {gm n : Nat} {D : DataW Unit}
theorem PW.go (h : PW W old q gm cls n D w) (hb : Below w.heap.size w w') : PW W old q gm cls n D w' :=
  ⟨h.bel.trans (hb.mono h.bel.size), h.b0.below hb h.b0.lt, h.b1.below hb h.b1.lt, h.b2.below hb h.b2.lt, h.b3.below hb h.b3.lt, h.mp.kept (row := none) ⟨hb.os, hb.tape, hb.output, hb.size, fun b hb' _ => hb.block b hb'⟩ (by simp), h.gm⟩
theorem PW.alloc (h : PW W old q gm cls n D w) (o : Obj) : PW W old q gm cls n D (w.alloc o) := h.go ((Below.refl _ _).alloc (Nat.le_refl _) _)
/-- a cell of a block that lies behind -/
theorem PW.far (h : PW W old q gm cls n D w) {g : Nat} (hg : gm < g) (k : Nat) (v : Value) : PW W old q gm cls n D (w.setCell ⟨g, k, none⟩ v) := by
  have := h.gm
  exact ⟨h.bel.setCell (p := ⟨g, k, none⟩) (by show W.heap.size ≤ g; omega) v, h.b0.same (Below.heap_setCell _ _ _ _ (by show W.heap.size ≠ g; omega)), h.b1.same (Below.heap_setCell _ _ _ _ (by show W.heap.size + 1 ≠ g; omega)), h.b2.same (Below.heap_setCell _ _ _ _ (by show W.heap.size + 1 + 1 ≠ g; omega)),
    h.b3.same (Below.heap_setCell _ _ _ _ (by show W.heap.size + 1 + 1 + 1 ≠ g; omega)), h.mp.setCell (by show gm ≠ g; omega) v, h.gm⟩
/-- a class is told -/
theorem PW.tell (h : PW W old q gm cls n D w) (b x : Nat) : PW W old q gm (fun j => if j = b then x else cls j) n D (w.setCell ⟨W.heap.size + 1 + 1 + 1, b, none⟩ (.int .u8 (x : Int))) := by
  have := h.gm
  refine ⟨h.bel.setCell (p := ⟨W.heap.size + 1 + 1 + 1, b, none⟩) (by show W.heap.size ≤ W.heap.size + 1 + 1 + 1; omega) _, h.b0.same (Below.heap_setCell _ _ _ _ (by show W.heap.size ≠ W.heap.size + 1 + 1 + 1; omega)), h.b1.same (Below.heap_setCell _ _ _ _ (by show W.heap.size + 1 ≠ W.heap.size + 1 + 1 + 1; omega)), h.b2.same (Below.heap_setCell _ _ _ _ (by show W.heap.size + 1 + 1 ≠ W.heap.size + 1 + 1 + 1; omega)), ?_, h.mp.setCell (by show gm ≠ W.heap.size + 1 + 1 + 1; omega) _, h.gm⟩
  rw [← bytV_set]; exact h.b3.set b _
/-- the map has grown -/
theorem PW.put (h : PW W old q gm cls n D w) {n' : Nat} {D' : DataW Unit} (hg : w.grownBy w' (some gm)) (hm : w'.ownsMap Try.prog 125 (plainElem Try.prog 5) gm n' D') : PW W old q gm cls n' D' w' := by
  have := h.gm
  have hk : ∀ {g t : Nat} {cur : List Value}, Blk w g t cur → g ≠ gm → Blk w' g t cur := fun h9 hne => h9.same (hg.block _ h9.lt (fun e => hne (by cases e; rfl)))
  exact ⟨h.bel.grown hg h.bel.size (fun k e => by cases e; omega), hk h.b0 (by omega), hk h.b1 (by omega), hk h.b2 (by omega), hk h.b3 (by omega), hm, h.gm⟩
end

/-- 'v, ok := m[k]' by its run -/
theorem wpList_look (w : World) {ops : Array Oper} {rest : List Oper} {o : Oper} {a : Act} {Q : Exit → Act → World → Prop} (hgd : o.guard = none) (m x : Operand) (t : TypeId) (hop : o.op = Op.lookup t m x true) (mv kv r : Value) (hm : a.eval m = mv) (hx : a.eval x = kv)
    (hrun : (Instr.lookup t mv kv true).run Try.prog w = .ok r w) (h : wpList Try.prog ops Q rest (a.put o.dst r) w) : wpList Try.prog ops Q (o :: rest) a w := by
  refine wpList_plain hgd fun K' hK' => ?_
  unfold Oper.wp
  simp [execOp, hop, hm, hx, hrun, Result.andThen]
  exact hK' _ _ h
theorem wf_u8 {x : Int} (h0 : 0 ≤ x) (h1 : x ≤ 255) : (Lit.int .u8 x).wf = true := by
  have h1 : IntKind.u8.min = 0 := by decide
  have h2 : IntKind.u8.max = 255 := by decide
  simp only [Lit.wf, Bool.and_eq_true, decide_eq_true_eq, h1, h2]
  omega
theorem tell_eq {old : Nat → Nat} {h : Nat → Bool} {k x : Nat} (hx : x = plc (distK old h (k + 1)) (keyP old h k)) :
    (fun j => if j = k then x else (fun j => if j < k then plc (distK old h k) (keyP old h j) else 0) j) = (fun j => if j < k + 1 then plc (distK old h (k + 1)) (keyP old h j) else 0) := by
  funext j
  by_cases e : j = k
  · subst e
    rw [if_pos rfl, if_pos (by omega), hx]
  · rw [if_neg e]
    by_cases hj : j < k
    · rw [if_pos (show j < k + 1 by omega)]
      show (if j < k then _ else _) = _
      rw [if_pos hj, plc_step hj]
    · rw [if_neg (show ¬ j < k + 1 by omega)]
      show (if j < k then _ else _) = _
      rw [if_neg hj]

set_option maxRecDepth 100000 in
set_option maxHeartbeats 16000000 in
theorem parted_any (old : Nat → Nat) (q : Quad) (W : World) (hold : ∀ b, b < 256 → old b < 256) (hq : q.ok) :
    Calls Try.prog 58 #[.agg (bytV old).toArray, .agg #[.int .u64 q.a, .int .u64 q.b, .int .u64 q.c, .int .u64 q.d]] W fun e w' =>
      e = .returned (.tuple #[.agg (bytV (newC old (hasB q.a q.b q.c q.d))).toArray, .int .i64 ((distB old (hasB q.a q.b q.c q.d)).length : Int)]) ∧ Below W.heap.size W w' := by
  have hz := zeroV26
  have hmm := @run_makeMap Try.prog
  have hp0 : PW W old q (W.heap.size + 1 + 1 + 1 + 1) (fun _ => 0) 0 (.map []) ((((((W.alloc (.cells (bytV old).toArray 26)).alloc (.cells #[.int .u64 q.a, .int .u64 q.b, .int .u64 q.c, .int .u64 q.d] 46)).alloc (.cells zs26 26)).alloc (.cells zs26 26)).alloc (.map #[] 0))) := by
    refine ⟨(((((Below.refl _ _).alloc (Nat.le_refl _) _).alloc (by simp) _).alloc (by simp; omega) _).alloc (by simp; omega) _).alloc (by simp; omega) _, ((((Blk.new W 26 (bytV old)).alloc _).alloc _).alloc _).alloc _, ?_, ?_, ?_, ?_, rfl⟩
    · have := (((Blk.new (W.alloc (.cells (bytV old).toArray 26)) 46 q.cells).alloc (.cells zs26 26)).alloc (.cells zs26 26)).alloc (.map #[] 0)
      rw [World.size_alloc] at this
      exact this
    · have := ((Blk.new ((W.alloc (.cells (bytV old).toArray 26)).alloc (.cells #[.int .u64 q.a, .int .u64 q.b, .int .u64 q.c, .int .u64 q.d] 46)) 26 (bytV (fun _ => 0))).alloc (.cells zs26 26)).alloc (.map #[] 0)
      rw [World.size_alloc, World.size_alloc] at this
      exact this
    · have := (Blk.new (((W.alloc (.cells (bytV old).toArray 26)).alloc (.cells #[.int .u64 q.a, .int .u64 q.b, .int .u64 q.c, .int .u64 q.d] 46)).alloc (.cells zs26 26)) 26 (bytV (fun _ => 0))).alloc (.map #[] 0)
      rw [World.size_alloc, World.size_alloc, World.size_alloc] at this
      exact this
    · have := World.ownsMap_made ((((W.alloc (.cells (bytV old).toArray 26)).alloc (.cells #[.int .u64 q.a, .int .u64 q.b, .int .u64 q.c, .int .u64 q.d] 46)).alloc (.cells zs26 26)).alloc (.cells zs26 26)) Try.prog 125 (plainElem (H := Unit) Try.prog 5)
      rw [World.size_alloc, World.size_alloc, World.size_alloc, World.size_alloc] at this
      exact this
  have HP0 := Lib.hid hp0
  have HU := Lib.hid (fun (c : Nat) (hc : c < 256) (w : World) => has_any q.a q.b q.c q.d hq.1 hq.2.1 hq.2.2.1 hq.2.2.2 c hc w)
  have HO := Lib.hid hold
  clear hp0 hold hq
  obtain ⟨h, hh⟩ : ∃ h, h = hasB q.a q.b q.c q.d := ⟨_, rfl⟩
  rw [← hh] at HU ⊢
  have HH := Lib.hid hh
  clear hh
  go_enter Try.func58, Try.ntmps58
  go_upto_region 4 with (fail)
  generalize ((((W.alloc (.cells (bytV old).toArray 26)).alloc (.cells #[.int .u64 q.a, .int .u64 q.b, .int .u64 q.c, .int .u64 q.d] 46)).alloc (.cells zs26 26)).alloc (.cells zs26 26)).alloc (.map #[] 0) = W1 at HP0 ⊢
  clear hmm hz
  go_loopw [13] (fun iv wr => ∃ (k n : Nat) (D : DataW Unit), k ≤ 256 ∧ iv = .int .i64 (k : Int) ∧ PW W old q (W.heap.size + 1 + 1 + 1 + 1) (fun j => if j < k then plc (distK old h k) (keyP old h j) else 0) n D wr ∧ n ≤ k ∧ IdxD pairK .u8 D (distK old h k) ∧ Maps.size D = (distK old h k).length) (fun iv _ => 256 - (intOf iv).toNat)
  case atStart => exact ⟨0, 0, _, by omega, rfl, by simpa using HP0.out, Nat.le_refl _, idx_empty _ _, rfl⟩
  case round =>
    obtain ⟨k, n, D, hk, rfl, hp, hnk, hix, hsz⟩ := hrel
    obtain ⟨w3, rfl⟩ : ∃ w3 : World, w3 = wr := ⟨_, rfl⟩
    have HP := Lib.hid hp
    have HX := Lib.hid (And.intro hnk (And.intro hix hsz))
    clear hp hnk hix hsz
    by_cases hlt : k < 256
    · have d1 : decide ((k : Int) < 256) = true := by simp; omega
      have c0 := HP.out.b0.cell k
      rw [bytV_get _ hlt] at c0
      have hok := HO.out k hlt
      obtain ⟨ob, hob⟩ : ∃ ob, ob = old k := ⟨_, rfl⟩
      rw [← hob] at c0 hok
      have HOB := Lib.hid hob
      clear hob
      have hl1 := HP.out.b1.lt
      have e0 := HP.out.b1.cell 0
      have e1 := HP.out.b1.cell 1
      have e2 := HP.out.b1.cell 2
      have e3 := HP.out.b1.cell 3
      simp only [Quad.cells, List.getElem?_cons_zero, List.getElem?_cons_succ] at e0 e1 e2 e3
      obtain ⟨kb, hkb⟩ : ∃ kb, kb = h k := ⟨_, rfl⟩
      have hU := HU.out k hlt
      rw [← hkb] at hU
      have HUK := Lib.hid hU
      have HKB := Lib.hid hkb.symm
      clear hkb hU
      cases kb
      · skip
        go_upto_region 9 with (go_at_call 35; refine (HUK.out _).mono ?_; rintro e w5 ⟨rfl, rfl⟩)
        have hp5 := (HP.out.alloc (.cells #[.int .i64 (ob : Int), .int .i64 0] 125)).alloc (.cells #[.int .u64 q.a, .int .u64 q.b, .int .u64 q.c, .int .u64 q.d] 46)
        have hgf : W.heap.size + 1 + 1 + 1 + 1 < w3.heap.size := HP.out.mp.lt
        have hbx := (Blk.new w3 125 [.int .i64 (ob : Int), .int .i64 0]).alloc (.cells #[.int .u64 q.a, .int .u64 q.b, .int .u64 q.c, .int .u64 q.d] 46)
        skip
        clear hgf c0 e0 e1 e2 e3 hl1
        have HP5 := Lib.hid hp5
        have k0 := hbx.cell 0
        have k1 := hbx.cell 1
        simp only [List.getElem?_cons_zero, List.getElem?_cons_succ] at k0 k1
        clear hp5 hbx
        obtain ⟨gx, hgx⟩ : ∃ gx, gx = w3.heap.size := ⟨_, rfl⟩
        rw [← hgx] at k0 k1 ⊢
        (try rw [← hgx] at HP5)
        generalize (w3.alloc (.cells #[.int .i64 (ob : Int), .int .i64 0] 125)).alloc (.cells #[.int .u64 q.a, .int .u64 q.b, .int .u64 q.c, .int .u64 q.d] 46) = w6 at HP5 k0 k1 ⊢
        clear hgx
        have HKEY := Lib.hid (show keyP old h k = ((ob : Int), 0) by unfold keyP; rw [← HOB.out, HKB.out]; rfl)
        have hi1 : I64 (ob : Int) := i64_of _ (by omega) (by omega)
        have hi2 : I64 0 := i64_of _ (by omega) (by omega)
        have hls := distK_len (old := old) (h := h) k
        by_cases hin : ((ob : Int), 0) ∈ distK old h k
        · have hrun := idx_yes (te := 5) Try.underlying5 zero_u8 (wf_u8 (by omega) (by omega)) (mt := 124) keyed125 Try.underlying124 HP5.out.mp HX.out.2.1 ((ob : Int), 0) ⟨hi1, hi2⟩ (keyOf125 (ob : Int) 0 hi1 hi2) hin
          have hst : distK old h (k + 1) = distK old h k := by simp only [distK]; rw [HKEY.out, if_pos hin]
          have hlt2 := plc_lt hin
          obtain ⟨pl, hpd⟩ : ∃ pl, pl = plc (distK old h k) ((ob : Int), 0) := ⟨_, rfl⟩
          rw [← hpd] at hrun hlt2
          have HST := Lib.hid (And.intro hst hpd)
          have HRUN := Lib.hid hrun
          have m0 := HP5.out.b3.cell k
          have m1 := HP5.out.b3.frozen k
          rw [bytV_get _ hlt] at m0
          have hpb : pl < 256 := by omega
          clear hrun hst hpd hin hls hlt2
          go_wp2_with (at_lookup; refine wpList_look _ rfl _ _ 124 rfl _ _ _ rfl rfl HRUN.out ?_)
          go_roundw
          case rel =>
            have ht := HP5.out.tell k pl
            rw [tell_eq (by rw [HST.out.1, HKEY.out]; exact HST.out.2)] at ht
            exact ⟨k + 1, n, D, by omega, by go_num, ht, by have := HX.out.1; omega, by rw [HST.out.1]; exact HX.out.2.1, by rw [HST.out.1]; exact HX.out.2.2⟩
          case measure => simp [intOf]; omega
        · have hrun := idx_no (te := 5) Try.underlying5 zero_u8 (wf_u8 (by omega) (by omega)) (mt := 124) keyed125 Try.underlying124 HP5.out.mp HX.out.2.1 ((ob : Int), 0) ⟨hi1, hi2⟩ (keyOf125 (ob : Int) 0 hi1 hi2) hin
          have hst : distK old h (k + 1) = distK old h k ++ [((ob : Int), 0)] := by simp only [distK]; rw [HKEY.out, if_neg hin]
          obtain ⟨m, hm⟩ : ∃ m, m = (distK old h k).length := ⟨_, rfl⟩
          have hmb : m < 256 := by omega
          have hsz : Maps.size D = m := by rw [hm]; exact HX.out.2.2
          have hsn := idx_snoc HX.out.2.1 ((ob : Int), 0) ⟨hi1, hi2⟩ hin
          have hss := size_snoc HX.out.2.1 (HP5.out.mp.tidy keyed125) HX.out.2.2 ((ob : Int), 0) ⟨hi1, hi2⟩ hin (.lit (.int .u8 (m : Int)))
          rw [← hm] at hsn
          have hpn : plc (distK old h (k + 1)) (keyP old h k) = m := by rw [hst, HKEY.out, plc_new hin, hm]
          have HST := Lib.hid (And.intro hst (And.intro hsn (And.intro hss hpn)))
          have HRUN := Lib.hid hrun
          have hnm : n < maxLen := by have := HX.out.1; unfold maxLen; omega
          have hkey := keyOf125 (ob : Int) 0 hi1 hi2
          have HKY := Lib.hid hkey
          have hwf := wf_u8 (x := (m : Int)) (by omega) (by omega)
          have HWF := Lib.hid hwf
          have HSZ := Lib.hid hsz
          clear hrun hst hin hls hm hsn hss hpn hkey hwf
          go_wp2_with (first
            | (at_lookup; refine wpList_look _ rfl _ _ 124 rfl _ _ _ rfl rfl HRUN.out ?_)
            | (at_len; refine wpList_len_own _ rfl _ 124 rfl 125 5 Try.underlying124 _ (W.heap.size + 1 + 1 + 1 + 1) n D rfl HP5.out.mp ?_; rw [HSZ.out])
            | (at_mapUpdate; refine wpList_mapUpdate_own _ rfl _ _ _ 124 rfl 125 5 keyed125 Try.underlying124 (plainElem (H := Unit) Try.prog 5) (W.heap.size + 1 + 1 + 1 + 1) n D rfl HP5.out.mp hnm _ _ _ rfl rfl HKY.out _ [] (plainElem_int Try.underlying5 HWF.out) ?_; intro w7 hown7 hgrow7; have HP7 := Lib.hid (HP5.out.put hgrow7 hown7); have m0 := HP7.out.b3.cell k; have m1 := HP7.out.b3.frozen k; rw [bytV_get _ hlt] at m0; clear hown7 hgrow7))
          go_roundw
          case rel =>
            have ht := HP7.out.tell k m
            rw [tell_eq HST.out.2.2.2.symm] at ht
            exact ⟨k + 1, n + 1, _, by omega, by go_num, ht, by have := HX.out.1; omega, by rw [HST.out.1]; exact HST.out.2.1, by rw [HST.out.1]; exact HST.out.2.2.1⟩
          case measure => simp [intOf]; omega
      · skip
        go_upto_region 9 with (go_at_call 35; refine (HUK.out _).mono ?_; rintro e w5 ⟨rfl, rfl⟩)
        have hp5 := (HP.out.alloc (.cells #[.int .i64 (ob : Int), .int .i64 1] 125)).alloc (.cells #[.int .u64 q.a, .int .u64 q.b, .int .u64 q.c, .int .u64 q.d] 46)
        have hgf : W.heap.size + 1 + 1 + 1 + 1 < w3.heap.size := HP.out.mp.lt
        have hbx := (Blk.new w3 125 [.int .i64 (ob : Int), .int .i64 1]).alloc (.cells #[.int .u64 q.a, .int .u64 q.b, .int .u64 q.c, .int .u64 q.d] 46)
        skip
        clear hgf c0 e0 e1 e2 e3 hl1
        have HP5 := Lib.hid hp5
        have k0 := hbx.cell 0
        have k1 := hbx.cell 1
        simp only [List.getElem?_cons_zero, List.getElem?_cons_succ] at k0 k1
        clear hp5 hbx
        obtain ⟨gx, hgx⟩ : ∃ gx, gx = w3.heap.size := ⟨_, rfl⟩
        rw [← hgx] at k0 k1 ⊢
        (try rw [← hgx] at HP5)
        generalize ((w3.alloc (.cells #[.int .i64 (ob : Int), .int .i64 1] 125)).alloc (.cells #[.int .u64 q.a, .int .u64 q.b, .int .u64 q.c, .int .u64 q.d] 46)) = w6 at HP5 k0 k1 ⊢
        clear hgx
        have HKEY := Lib.hid (show keyP old h k = ((ob : Int), 1) by unfold keyP; rw [← HOB.out, HKB.out]; rfl)
        have hi1 : I64 (ob : Int) := i64_of _ (by omega) (by omega)
        have hi2 : I64 1 := i64_of _ (by omega) (by omega)
        have hls := distK_len (old := old) (h := h) k
        by_cases hin : ((ob : Int), 1) ∈ distK old h k
        · have hrun := idx_yes (te := 5) Try.underlying5 zero_u8 (wf_u8 (by omega) (by omega)) (mt := 124) keyed125 Try.underlying124 HP5.out.mp HX.out.2.1 ((ob : Int), 1) ⟨hi1, hi2⟩ (keyOf125 (ob : Int) 1 hi1 hi2) hin
          have hst : distK old h (k + 1) = distK old h k := by simp only [distK]; rw [HKEY.out, if_pos hin]
          have hlt2 := plc_lt hin
          obtain ⟨pl, hpd⟩ : ∃ pl, pl = plc (distK old h k) ((ob : Int), 1) := ⟨_, rfl⟩
          rw [← hpd] at hrun hlt2
          have HST := Lib.hid (And.intro hst hpd)
          have HRUN := Lib.hid hrun
          have m0 := HP5.out.b3.cell k
          have m1 := HP5.out.b3.frozen k
          rw [bytV_get _ hlt] at m0
          have hpb : pl < 256 := by omega
          clear hrun hst hpd hin hls hlt2
          go_wp2_with (at_lookup; refine wpList_look _ rfl _ _ 124 rfl _ _ _ rfl rfl HRUN.out ?_)
          go_roundw
          case rel =>
            have ht := HP5.out.tell k pl
            rw [tell_eq (by rw [HST.out.1, HKEY.out]; exact HST.out.2)] at ht
            exact ⟨k + 1, n, D, by omega, by go_num, ht, by have := HX.out.1; omega, by rw [HST.out.1]; exact HX.out.2.1, by rw [HST.out.1]; exact HX.out.2.2⟩
          case measure => simp [intOf]; omega
        · have hrun := idx_no (te := 5) Try.underlying5 zero_u8 (wf_u8 (by omega) (by omega)) (mt := 124) keyed125 Try.underlying124 HP5.out.mp HX.out.2.1 ((ob : Int), 1) ⟨hi1, hi2⟩ (keyOf125 (ob : Int) 1 hi1 hi2) hin
          have hst : distK old h (k + 1) = distK old h k ++ [((ob : Int), 1)] := by simp only [distK]; rw [HKEY.out, if_neg hin]
          obtain ⟨m, hm⟩ : ∃ m, m = (distK old h k).length := ⟨_, rfl⟩
          have hmb : m < 256 := by omega
          have hsz : Maps.size D = m := by rw [hm]; exact HX.out.2.2
          have hsn := idx_snoc HX.out.2.1 ((ob : Int), 1) ⟨hi1, hi2⟩ hin
          have hss := size_snoc HX.out.2.1 (HP5.out.mp.tidy keyed125) HX.out.2.2 ((ob : Int), 1) ⟨hi1, hi2⟩ hin (.lit (.int .u8 (m : Int)))
          rw [← hm] at hsn
          have hpn : plc (distK old h (k + 1)) (keyP old h k) = m := by rw [hst, HKEY.out, plc_new hin, hm]
          have HST := Lib.hid (And.intro hst (And.intro hsn (And.intro hss hpn)))
          have HRUN := Lib.hid hrun
          have hnm : n < maxLen := by have := HX.out.1; unfold maxLen; omega
          have hkey := keyOf125 (ob : Int) 1 hi1 hi2
          have HKY := Lib.hid hkey
          have hwf := wf_u8 (x := (m : Int)) (by omega) (by omega)
          have HWF := Lib.hid hwf
          have HSZ := Lib.hid hsz
          clear hrun hst hin hls hm hsn hss hpn hkey hwf
          go_wp2_with (first
            | (at_lookup; refine wpList_look _ rfl _ _ 124 rfl _ _ _ rfl rfl HRUN.out ?_)
            | (at_len; refine wpList_len_own _ rfl _ 124 rfl 125 5 Try.underlying124 _ (W.heap.size + 1 + 1 + 1 + 1) n D rfl HP5.out.mp ?_; rw [HSZ.out])
            | (at_mapUpdate; refine wpList_mapUpdate_own _ rfl _ _ _ 124 rfl 125 5 keyed125 Try.underlying124 (plainElem (H := Unit) Try.prog 5) (W.heap.size + 1 + 1 + 1 + 1) n D rfl HP5.out.mp hnm _ _ _ rfl rfl HKY.out _ [] (plainElem_int Try.underlying5 HWF.out) ?_; intro w7 hown7 hgrow7; have HP7 := Lib.hid (HP5.out.put hgrow7 hown7); have m0 := HP7.out.b3.cell k; have m1 := HP7.out.b3.frozen k; rw [bytV_get _ hlt] at m0; clear hown7 hgrow7))
          go_roundw
          case rel =>
            have ht := HP7.out.tell k m
            rw [tell_eq HST.out.2.2.2.symm] at ht
            exact ⟨k + 1, n + 1, _, by omega, by go_num, ht, by have := HX.out.1; omega, by rw [HST.out.1]; exact HST.out.2.1, by rw [HST.out.1]; exact HST.out.2.2.1⟩
          case measure => simp [intOf]; omega
    · have hk6 : k = 256 := by omega
      have hb3 : Blk w3 (W.heap.size + 1 + 1 + 1) 26 (bytV (newC old h)) := by
        have h9 := HP.out.b3
        rw [bytV_congr (g := newC old h) (fun j hj => by
          show (if j < k then plc (distK old h k) (keyP old h j) else 0) = _
          rw [if_pos (by omega), hk6]
          rfl)] at h9
        exact h9
      have hlen : (distK old h k).length = (distB old h).length := by rw [hk6]; rfl
      have hsz : Maps.size D = (distB old h).length := by rw [← hlen]; exact HX.out.2.2
      have d1 : decide ((k : Int) < 256) = false := by simp; omega
      have hld := load26 hb3
      have hst := store26 (f := newC old h) HP.out.b2
      have HB3 := Lib.hid hb3
      have HSZ := Lib.hid hsz
      clear hb3 hk6 hlen hsz
      go_wp2_with (at_len; refine wpList_len_own _ rfl _ 124 rfl 125 5 Try.underlying124 _ (W.heap.size + 1 + 1 + 1 + 1) n D rfl HP.out.mp ?_; rw [HSZ.out])
      (try simp only [Exit.inBlock, Exit.then])
      refine bodyPost_ret (res26 rfl rfl rfl (by have h9 := HP.out.b2.row (bytV (newC old h)).toArray; simpa using h9)) rfl ?_
      exact ⟨by first | rfl | simp, below_setRow HP.out.bel (by omega) _⟩
end Go.Proofs.Ytfjhcoeehjephaa
