/- HTkA, HTkB, HTkC of this seat, in one text. -/
import Derived.Test.YtfjgfabochiflaaHPPutTc
import Derived.Test.YtfjgfabochiflaaHEngTc
import Derived.Test.YtfjgfabochiflaaHLocks
/- The engine in memory: its box, its map, its buffers; buffer and back. -/
namespace Go.Proofs.Ytfjgfabochiflaa.H14
open Go.RowKit Go.Maps Go.WideMaps Go.MuLone
/-- all elder blocks but those in S are as they were -/
structure But (S : Nat → Prop) (w w' : World) : Prop where
  os : w'.os = w.os
  tape : w'.tape = w.tape
  output : w'.output = w.output
  size : w.heap.size ≤ w'.heap.size
  block : ∀ k, k < w.heap.size → ¬ S k → w'.heap[k]? = w.heap[k]?
section
variable {S S' : Nat → Prop} {w w1 w2 : World}
theorem But.refl (S : Nat → Prop) (w : World) : But S w w := ⟨rfl, rfl, rfl, Nat.le_refl _, fun _ _ _ => rfl⟩
theorem But.trans (h : But S w w1) (h2 : But S' w1 w2) (hs : ∀ k, k < w.heap.size → S' k → S k) : But S w w2 :=
  ⟨h2.os.trans h.os, h2.tape.trans h.tape, h2.output.trans h.output, Nat.le_trans h.size h2.size, fun k hk hn =>
    (h2.block k (Nat.lt_of_lt_of_le hk h.size) (fun e => hn (hs k hk e))).trans (h.block k hk hn)⟩
theorem But.of_grown {row : Option Nat} (h : w.grownBy w1 row) : But (fun k => row = some k) w w1 :=
  ⟨h.os, h.tape, h.output, h.size, fun k hk hn => h.block k hk (fun e => hn e.symm)⟩
theorem But.of_below {B : Nat} (h : Below B w w1) : But (fun k => B ≤ k) w w1 :=
  ⟨h.os, h.tape, h.output, h.size, fun k _ hn => h.block k (by omega)⟩
theorem But.below {B : Nat} (h : But S w w1) (hB : B ≤ w.heap.size) (hs : ∀ k, S k → B ≤ k) : Below B w w1 :=
  ⟨h.os, h.tape, h.output, h.size, fun k hk => h.block k (by omega) (fun e => by have := hs k e; omega)⟩
theorem But.mono (h : But S w w1) (hs : ∀ k, k < w.heap.size → S k → S' k) : But S' w w1 :=
  ⟨h.os, h.tape, h.output, h.size, fun k hk hn => h.block k hk (fun e => hn (hs k hk e))⟩
theorem But.blk {g : Nat} {t : TypeId} {cur : List Value} (h : But S w w1) (hb : Blk w g t cur) (hn : ¬ S g) : Blk w1 g t cur := (h.block g hb.lt hn).trans hb
theorem But.own {base size n : Nat} {e : TypeId} {v : Value} {xs : List Value} (h : But S w w1) (ho : w.ownsRow base e size v n xs) (hn : ∀ k, v.ownBlock = some k → ¬ S k) : w1.ownsRow base e size v n xs :=
  own_move ho (fun k _ e h9 _ => (h.block k (ho.lt k e).2 (hn k e)).trans h9)
theorem But.map {g k : Nat} {D : DataW Unit} (h : But S w w1) (hm : w.ownsMap Try.prog 94 (plainElem Try.prog 3) g k D) (hn : ¬ S g) : w1.ownsMap Try.prog 94 (plainElem Try.prog 3) g k D := by
  have hlt := hm.lt
  obtain ⟨es, c, h1, h2⟩ := hm
  exact ⟨es, c, (h.block g hlt hn).trans h1, h2⟩
end
theorem own_nilA {w : World} {base size n c : Nat} {e : TypeId} {A : Option Addr} {xs : List Value} (h : w.ownsRow base e size (.slice A n c) n xs) : A = none → n = 0 ∧ c = 0 := fun hA => by
  rcases h.2 with ⟨h1, h2⟩ | ⟨g, cap, cur, hv, _⟩
  · injection h1 with h3 h4 h5
    exact ⟨h2, h5⟩
  · injection hv with h3
    rw [hA] at h3
    cases h3
def bufs (m : Nat) (bv : Value) : List Value := if m = 0 then [] else [bv]
/-- an engine: its box ge, its map gm, the buffers that nobody uses (fv: none, or bv) -/
structure Eg (w : World) (B ge gm : Nat) (fv bv : Value) (m : Nat) (D : DataW Unit) (n : Nat) (F : Int → Int → Option Nat) : Prop where
  geB : B ≤ ge
  gmB : B ≤ gm
  ne : ge ≠ gm
  box : Blk w ge 169 [.map (some gm), .int .i32 0, .int .u32 0, fv]
  map : w.ownsMap Try.prog 94 (plainElem Try.prog 3) gm n D
  rk : Ranks D F
  m1 : m ≤ 1
  fo : w.ownsRow B 173 1 fv m (bufs m bv)
  bo : ∃ bn xs, w.ownsRow B 176 3 bv bn xs
  dfe : ∀ k, fv.ownBlock = some k → k ≠ ge ∧ k ≠ gm
  dbe : ∀ k, bv.ownBlock = some k → k ≠ ge ∧ k ≠ gm ∧ fv.ownBlock ≠ some k
theorem Eg.start {w : World} {B ge gm n : Nat} {D : DataW Unit} {F : Int → Int → Option Nat} (h : EngIn w B ge gm (.slice none 0 0) D n F) : Eg w B ge gm (.slice none 0 0) (.slice none 0 0) 0 D n F :=
  ⟨h.geB, h.gmB, h.ne, h.box, h.map, h.rk, by omega, World.ownsRow_nil _ _ _ _, ⟨0, [], World.ownsRow_nil _ _ _ _⟩, fun k hk => (by cases hk), fun k hk => (by cases hk)⟩
theorem Eg.but {w w' : World} {B ge gm n m : Nat} {fv bv : Value} {D : DataW Unit} {F : Int → Int → Option Nat} {S : Nat → Prop} (h : Eg w B ge gm fv bv m D n F) (hb : But S w w') (h1 : ¬ S ge) (h2 : ¬ S gm)
    (h3 : ∀ k, fv.ownBlock = some k → ¬ S k) (h4 : ∀ k, bv.ownBlock = some k → ¬ S k) : Eg w' B ge gm fv bv m D n F := by
  obtain ⟨bn, xs, hbo⟩ := h.bo
  exact ⟨h.geB, h.gmB, h.ne, hb.blk h.box h1, hb.map h.map h2, h.rk, h.m1, hb.own h.fo h3, ⟨bn, xs, hb.own hbo h4⟩, h.dfe, h.dbe⟩
theorem Eg.fl {w : World} {B ge gm n m : Nat} {fv bv : Value} {D : DataW Unit} {F : Int → Int → Option Nat} (h : Eg w B ge gm fv bv m D n F) : ∀ k, fv.ownBlock = some k → k < w.heap.size := fun k hk => (h.fo.lt k hk).2
theorem Eg.bl {w : World} {B ge gm n m : Nat} {fv bv : Value} {D : DataW Unit} {F : Int → Int → Option Nat} (h : Eg w B ge gm fv bv m D n F) : ∀ k, bv.ownBlock = some k → k < w.heap.size := fun k hk => by
  obtain ⟨bn, xs, hbo⟩ := h.bo
  exact (hbo.lt k hk).2
/-- memory above is made, nothing else -/
theorem Eg.go {w w' : World} {B ge gm n m : Nat} {fv bv : Value} {D : DataW Unit} {F : Int → Int → Option Nat} (h : Eg w B ge gm fv bv m D n F) (hb : Below w.heap.size w w') : Eg w' B ge gm fv bv m D n F :=
  h.but (But.of_below hb) (by have := h.box.lt; omega) (by have := h.map.lt; omega) (fun k hk => by have := h.fl k hk; omega) (fun k hk => by have := h.bl k hk; omega)
theorem own_cut0 {w : World} {base size n c : Nat} {e : TypeId} {A : Option Addr} {xs : List Value} (h : w.ownsRow base e size (.slice A n c) n xs) : w.ownsRow base e size (.slice A 0 c) 0 [] := by
  rcases h.2 with ⟨h1, h2⟩ | ⟨g, cap, cur, hv, hb, hg, hnc, hcm, hcs, _⟩
  · simp only [Value.slice.injEq] at h1
    obtain ⟨rfl, rfl, rfl⟩ := h1
    exact World.ownsRow_nil _ _ _ _
  · simp only [Value.slice.injEq] at hv
    obtain ⟨rfl, _, rfl⟩ := hv
    exact ⟨by simp, .inr ⟨g, c, cur, rfl, hb, hg, by omega, hcm, hcs, by simp⟩⟩
theorem Eg.boxed {w w' : World} {B ge gm n m m' : Nat} {fv bv fv' bv' : Value} {D : DataW Unit} {F : Int → Int → Option Nat} (h : Eg w B ge gm fv bv m D n F) (hg : w.grownBy w' (some ge))
    (hb : Blk w' ge 169 [.map (some gm), .int .i32 0, .int .u32 0, fv']) (hm : m' ≤ 1) (fo : w'.ownsRow B 173 1 fv' m' (bufs m' bv')) (hbo : ∃ bn xs, w'.ownsRow B 176 3 bv' bn xs)
    (hf : ∀ k, fv'.ownBlock = some k → k ≠ ge ∧ k ≠ gm) (hd : ∀ k, bv'.ownBlock = some k → k ≠ ge ∧ k ≠ gm ∧ fv'.ownBlock ≠ some k) : Eg w' B ge gm fv' bv' m' D n F :=
  ⟨h.geB, h.gmB, h.ne, hb, (But.of_grown hg).map h.map (fun e => h.ne (by injection e)), h.rk, hm, fo, hbo, hf, hd⟩
/-- the lock is taken and given back, and the buffers' row is another one -/
theorem Eg.lockB {w : World} {B ge gm n m : Nat} {fv bv : Value} {D : DataW Unit} {F : Int → Int → Option Nat} (h : Eg w B ge gm fv bv m D n F) (v : Value) :
    Blk (((w.setCell ⟨ge, 1, none⟩ (.int .i32 1)).setCell ⟨ge, 3, none⟩ v).setCell ⟨ge, 1, none⟩ (.int .i32 0)) ge 169 [.map (some gm), .int .i32 0, .int .u32 0, v] :=
  ((h.box.set 1 (.int .i32 1)).set 3 v).set 1 (.int .i32 0)
theorem Eg.lockA {w : World} {B ge gm n m : Nat} {fv bv : Value} {D : DataW Unit} {F : Int → Int → Option Nat} (h : Eg w B ge gm fv bv m D n F) :
    Blk ((w.setCell ⟨ge, 1, none⟩ (.int .i32 1)).setCell ⟨ge, 1, none⟩ (.int .i32 0)) ge 169 [.map (some gm), .int .i32 0, .int .u32 0, fv] :=
  (h.box.set 1 (.int .i32 1)).set 1 (.int .i32 0)
theorem grown2 (w : World) (ge i j : Nat) (u v : Value) : w.grownBy ((w.setCell ⟨ge, i, none⟩ u).setCell ⟨ge, j, none⟩ v) (some ge) :=
  (grownBy_setCell w ge i u).trans (grownBy_setCell _ ge j v)
theorem grown3 (w : World) (ge i j k : Nat) (u v x : Value) : w.grownBy (((w.setCell ⟨ge, i, none⟩ u).setCell ⟨ge, j, none⟩ v).setCell ⟨ge, k, none⟩ x) (some ge) :=
  (grown2 w ge i j u v).trans (grownBy_setCell _ ge k x)
theorem bslice0 (A : Option Addr) (n c : Nat) (w : World) (hA : A = none → n = 0 ∧ c = 0) (hn : n ≤ c) : (Instr.slice 173 (.slice A n c) none (some (.int .i64 0)) none).run Try.prog w = .ok (.slice A 0 c) w := by
  cases A with
  | none =>
    obtain ⟨rfl, rfl⟩ := hA rfl
    kernel_rfl
  | some a =>
    have h0 : (0 : Int) ≤ 0 := by omega
    have h1 : (0 : Int) ≤ (c : Int) := by omega
    go_simp
set_option maxRecDepth 100000 in
set_option maxHeartbeats 4000000 in
theorem buffer_any (w : World) (B ge gm n m : Nat) (fv bv : Value) (D : DataW Unit) (F : Int → Int → Option Nat) (h : Eg w B ge gm fv bv m D n F) :
    Calls Try.prog 93 #[.pointer (some ⟨ge, 0, none⟩)] w fun e w' => ∃ lv fv', e = .returned lv ∧ w.grownBy w' (some ge) ∧ w'.ownsRow B 176 3 lv 0 [] ∧ (∀ k, lv.ownBlock = some k → bv.ownBlock = some k) ∧ Eg w' B ge gm fv' (.slice none 0 0) 0 D n F ∧ fv'.ownBlock = fv.ownBlock := by
  have H := Lib.hid h
  have c0 := h.box.cell 0
  have c1 := h.box.cell 1
  have c2 := h.box.cell 2
  have c3 := h.box.cell 3
  have f1 := h.box.frozen 1
  have f3 := h.box.frozen 3
  simp only [List.getElem?_cons_zero, List.getElem?_cons_succ] at c0 c1 c2 c3
  obtain ⟨A, c, rfl⟩ := own_form h.fo
  rcases (by have := h.m1; omega : m = 0 ∨ m = 1) with rfl | rfl
  · clear h
    go_enter_defers Try.func93, Try.ntmps93
    go_wp2_with (go_at_call 127; refine (lock_free muLib ⟨ge, 1, none⟩ _ c1 f1).mono ?_; rintro e w' ⟨rfl, rfl⟩)
    refine leaves_cons (f := 128) (args := #[.pointer (some ⟨ge, 1, none⟩)]) (by simp) (by simp [go_sem]) ?_
    refine (unlock_deferred muLib ⟨ge, 1, none⟩ .returning _ ?_ ?_).mono ?_
    · exact World.cell?_setCell_same w ⟨ge, 1, none⟩ (.int .i32 1) c1
    · simp [f1]
    rintro e u' w'' ⟨rfl, rfl, rfl⟩
    have hg := grown2 w ge 1 1 (.int .i32 1) (.int .i32 0)
    refine ⟨_, results_tmp rfl _ _ _, .slice none 0 0, .slice A 0 c, rfl, hg, World.ownsRow_nil _ _ _ _, fun k hk => (by cases hk), ?_, rfl⟩
    exact H.out.boxed hg H.out.lockA (by omega) ((But.of_grown hg).own H.out.fo (fun k hk e => (H.out.dfe k hk).1 (by injection e with e; exact e.symm))) ⟨0, [], World.ownsRow_nil _ _ _ _⟩ H.out.dfe (fun k hk => (by cases hk))
  · obtain ⟨bn, bx, hbo⟩ := h.bo
    obtain ⟨Ab, cb, rfl⟩ := own_form hbo
    have HBO := Lib.hid hbo
    obtain ⟨g, cap, hv, _⟩ := h.fo.form (by omega)
    simp only [Value.slice.injEq, true_and] at hv
    obtain ⟨rfl, rfl⟩ := hv
    have hcb := h.fo.cells (g := g) rfl 0 _ rfl
    simp only [Addr.add, if_true] at hcb
    have nb : ¬ g = ge := fun e => (h.dfe g rfl).1 e
    have hc1 := own_cap h.fo
    have hb0 := fun w => bslice0 Ab bn cb w (own_nilA hbo) (own_cap hbo)
    clear h hbo
    go_enter_defers Try.func93, Try.ntmps93
    go_wp2_with (go_at_call 127; refine (lock_free muLib ⟨ge, 1, none⟩ _ c1 f1).mono ?_; rintro e w' ⟨rfl, rfl⟩)
    refine leaves_cons (f := 128) (args := #[.pointer (some ⟨ge, 1, none⟩)]) (by simp) (by simp [go_sem]) ?_
    refine (unlock_deferred muLib ⟨ge, 1, none⟩ .returning _ ?_ ?_).mono ?_
    · exact (World.cell?_setCell_other _ ⟨ge, 3, none⟩ ⟨ge, 1, none⟩ _ (by simp)).trans (World.cell?_setCell_same w ⟨ge, 1, none⟩ (.int .i32 1) c1)
    · simp [f1]
    rintro e u' w'' ⟨rfl, rfl, rfl⟩
    have hg := grown3 w ge 1 3 1 (.int .i32 1) (.slice (some ⟨g, 0, none⟩) 0 c) (.int .i32 0)
    have hgb := But.of_grown hg
    have hbo2 := hgb.own HBO.out (fun k hk e => (H.out.dbe k hk).1 (by injection e with e; exact e.symm))
    have hfo2 := hgb.own H.out.fo (fun k hk e => (H.out.dfe k hk).1 (by injection e with e; exact e.symm))
    refine ⟨_, results_tmp rfl _ _ _, .slice Ab 0 cb, .slice (some ⟨g, 0, none⟩) 0 c, rfl, hg, own_cut0 hbo2, fun k hk => (by cases Ab with | none => cases hk | some a => exact hk), ?_, rfl⟩
    exact H.out.boxed hg (H.out.lockB _) (by omega) (own_cut0 hfo2) ⟨0, [], World.ownsRow_nil _ _ _ _⟩ H.out.dfe (fun k hk => (by cases hk))
theorem info61 : (Try.prog.info? 173).map (fun i => (i.size, i.bytes)) = some (1, 24) := by kernel_rfl
set_option maxRecDepth 100000 in
set_option maxHeartbeats 4000000 in
theorem back_any (w : World) (B ge gm n bn : Nat) (fv lv : Value) (bx : List Value) (D : DataW Unit) (F : Int → Int → Option Nat) (h : Eg w B ge gm fv (.slice none 0 0) 0 D n F) (hl : w.ownsRow B 176 3 lv bn bx)
    (hd : ∀ k, lv.ownBlock = some k → k ≠ ge ∧ k ≠ gm ∧ fv.ownBlock ≠ some k) (hB : B ≤ w.heap.size) :
    Calls Try.prog 99 #[.pointer (some ⟨ge, 0, none⟩), lv] w fun e w' => ∃ fv', e = .returned (.tuple #[]) ∧ But (fun k => k = ge ∨ fv.ownBlock = some k) w w' ∧ Eg w' B ge gm fv' lv 1 D n F ∧ (∀ k, fv'.ownBlock = some k → fv.ownBlock = some k ∨ w.heap.size ≤ k) := by
  obtain ⟨i9, z9, hi9, hz9, hsz9, hbt9, hzc9⟩ : ∃ i z, Try.prog.info? 173 = some i ∧ i.zero = some z ∧ i.size = 1 ∧ i.bytes = 24 ∧ z.cells.size = 1 := ⟨_, _, rfl, rfl, rfl, rfl, rfl⟩
  have H := Lib.hid h
  have HL := Lib.hid hl
  have HD := Lib.hid hd
  have c0 := h.box.cell 0
  have c1 := h.box.cell 1
  have c2 := h.box.cell 2
  have c3 := h.box.cell 3
  have f1 := h.box.frozen 1
  have f3 := h.box.frozen 3
  simp only [List.getElem?_cons_zero, List.getElem?_cons_succ] at c0 c1 c2 c3
  obtain ⟨Ab, cb, rfl⟩ := own_form hl
  obtain ⟨W1, hW1⟩ : ∃ W1, W1 = w.setCell ⟨ge, 1, none⟩ (.int .i32 1) := ⟨_, rfl⟩
  have hg1 := grownBy_setCell w ge 1 (.int .i32 1)
  rw [← hW1] at hg1
  have ho1 := (But.of_grown hg1).own h.fo (fun k hk e => (h.dfe k hk).1 (by injection e with e; exact e.symm))
  have hbx : Blk W1 ge 169 [.map (some gm), .int .i32 1, .int .u32 0, fv] := by rw [hW1]; exact h.box.set 1 (.int .i32 1)
  have HW := Lib.hid (And.intro hg1 (And.intro ho1 (And.intro hbx hW1)))
  have hsz1 : W1.heap.size = w.heap.size := by rw [hW1]; simp
  have HSZ := Lib.hid hsz1
  have HN := Lib.hid (show ∀ j u, [Value.slice Ab bn cb][j]? = some u → ((w.setCell ⟨ge, 1, none⟩ (.int .i32 1)).alloc (.cells #[.slice Ab bn cb] 173)).cell? ((⟨w.heap.size, 0, none⟩ : Addr).add j) = some u by
    have := cell_one_new W1 (.slice Ab bn cb) 173
    rw [hsz1, hW1] at this
    exact this)
  clear h hl hd ho1 hg1 hbx hsz1 hW1
  go_enter_defers Try.func99, Try.ntmps99
  go_wp2_with (first
    | (go_at_call 127; refine (lock_free muLib ⟨ge, 1, none⟩ _ c1 f1).mono ?_; rintro e w' ⟨rfl, rfl⟩)
    | (at_builtin
       refine (wpList_append_own_at _ rfl (.tmp 15) (.tmp 17) 167 rfl B 173 i9 z9 1 24 Try.underlying167 hi9 hz9 hsz9 hbt9 hzc9 (by omega) fv 0 [] rfl (by rw [← HW.out.2.2.2]; exact HW.out.2.1.alloc _) ⟨_, 0, none⟩ 1 1 [.slice Ab bn cb] rfl rfl HN.out (by intro u hu; simp at hu; subst hu; rfl) (by unfold maxLen; omega) (by omega) (by simp; omega) ?_)
       intro v' w' h2 h3 h4 h5
       rw [← HW.out.2.2.2] at h3 h5
       have hbx2 : Blk w' ge 169 [.map (some gm), .int .i32 1, .int .u32 0, fv] := (h3.block ge (by have := HW.out.2.2.1.lt; simp; omega) (fun e => (H.out.dfe ge e.symm).1 rfl)).trans (HW.out.2.2.1.alloc _)
       have e1 := hbx2.cell 1
       have e3 := hbx2.cell 3
       have g1 := hbx2.frozen 1
       have g3 := hbx2.frozen 3
       simp only [List.getElem?_cons_zero, List.getElem?_cons_succ] at e1 e3
       have H2 := Lib.hid (And.intro h2 (And.intro h3 (And.intro h5 hbx2)))
       obtain ⟨A', c', rfl⟩ := own_form h2
       clear h2 h3 h4 h5 hbx2))
  refine leaves_cons (f := 128) (args := #[.pointer (some ⟨ge, 1, none⟩)]) (by simp) (by simp [go_sem]) ?_
  refine (unlock_deferred muLib ⟨ge, 1, none⟩ .returning _ ?_ ?_).mono ?_
  · exact (World.cell?_setCell_other _ ⟨ge, 3, none⟩ ⟨ge, 1, none⟩ _ (by simp)).trans e1
  · simp [g1]
  rintro e u' w'' ⟨rfl, rfl, rfl⟩
  obtain ⟨h2, h3, h5, hbx⟩ := H2.out
  obtain ⟨hg1, ho1, hbx1, hW⟩ := HW.out
  have hsz := HSZ.out
  have hb1 : But (fun k => k = ge ∨ fv.ownBlock = some k) w w' := (((But.of_grown hg1).trans (But.of_below ((Below.refl W1.heap.size W1).alloc (Nat.le_refl _) (.cells #[.slice Ab bn cb] 173))) (fun k hk hk2 => by omega)).mono (fun k _ e => .inl (by injection e with e; exact e.symm))).trans (But.of_grown h3) (fun k _ e => .inr e)
  have hg2 := But.of_grown (grown2 w' ge 3 1 (.slice A' (0 + 1) c') (.int .i32 0))
  have hff : ∀ k, (Value.slice A' (0 + 1) c').ownBlock = some k → fv.ownBlock = some k ∨ w.heap.size ≤ k := fun k hk => by
    rcases h5 with h5 | h5
    · exact .inl (by rw [← h5]; exact hk)
    · rw [hk] at h5
      injection h5 with h5
      right; rw [h5]; simp; omega
  have hgl := H.out.box.lt
  have hgm := H.out.map.lt
  refine ⟨_, results_none rfl _ _ _, .slice A' (0 + 1) c', rfl, hb1.trans hg2 (fun k _ e => .inl (by injection e with e; exact e.symm)), ?_, fun k hk => ?_⟩
  · refine ⟨H.out.geB, H.out.gmB, H.out.ne, (hbx.set 3 _).set 1 (.int .i32 0), hg2.map (hb1.map H.out.map (fun e => by rcases e with e | e; exact H.out.ne e.symm; exact (H.out.dfe gm e).2 rfl)) (fun e => by injection e with e; exact H.out.ne e), H.out.rk, by omega, hg2.own h2 (fun k hk e => ?_), ⟨bn, bx, hg2.own (hb1.own HL.out (fun k hk e => ?_)) (fun k hk e => ?_)⟩, fun k hk => ?_, fun k hk => ⟨(HD.out k hk).1, (HD.out k hk).2.1, fun e => ?_⟩⟩
    · injection e with e
      subst e
      rcases hff _ hk with h9 | h9
      · exact (H.out.dfe _ h9).1 rfl
      · omega
    · rcases e with e | e
      · exact (HD.out k hk).1 e
      · exact (HD.out k hk).2.2 e
    · injection e with e
      exact (HD.out k hk).1 e.symm
    · rcases hff _ hk with h9 | h9
      · exact H.out.dfe _ h9
      · exact ⟨by omega, by omega⟩
    · rcases hff _ e with h9 | h9
      · exact (HD.out k hk).2.2 h9
      · have := (HL.out.lt k hk).2
        omega
  · rcases hff _ hk with h9 | h9
    · exact .inl h9
    · exact .inr (by omega)
end Go.Proofs.Ytfjgfabochiflaa.H14
/- Tokens' memory, and the look for a pair. -/
namespace Go.Proofs.Ytfjgfabochiflaa.H14
open Go.RowKit Go.Maps Go.WideMaps
def ndF (v : Nd) : Nat → Value
  | 0 => .int .i64 v.id
  | 1 => .int .i64 v.next
  | _ => .int .i64 v.last
abbrev nflat (nd : List Nd) : List Value := flat 3 ndF nd0 nd
/-- what an engine tells of two ids: a rank, and what they become -/
def fget (F : Int → Int → Option Nat) (a b : Int) : Option (Int × Int) := (F a b).map fun k => ((k : Int), 256 + (k : Int))
def FSmall (F : Int → Int → Option Nat) : Prop := ∀ a b k, F a b = some k → k < 1024
/-- Tokens' memory: the engine, e's box be, the list's box bl, its nodes gl, the queue's box bq -/
structure TM (P : Nat → Obj → Prop) (S : Nat → Prop) (w0 : World) (B ge gm be bl bq : Nat) (fv : Value) (D : DataW Unit) (k : Nat) (F : Int → Int → Option Nat) (gl cap n : Nat) (W : World) (nd : List Nd) (a : Value) (q : List Pr) : Prop where
  kept : But S w0 W
  eg : Eg W B ge gm fv (.slice none 0 0) 0 D k F
  eb : Blk W be 122 [.pointer (some ⟨ge, 0, none⟩)]
  lb : Blk W bl 173 [.slice (some ⟨gl, 0, none⟩) n cap]
  no : W.ownsRow B 176 3 (.slice (some ⟨gl, 0, none⟩) n cap) n (nflat nd)
  qb : QB P bq W W a q
  len : nd.length = n
  sgl : gl < w0.heap.size → S gl
  wq : w0.heap.size ≤ bq
  oge : ge < bq
  ogm : gm < bq
  obe : be < bq
  obl : bl < bq
  ogl : gl < bq
  ofv : ∀ k, fv.ownBlock = some k → k < bq
  nge : gl ≠ ge
  ngm : gl ≠ gm
  nbe : gl ≠ be
  nbl : gl ≠ bl
  nfv : fv.ownBlock ≠ some gl
  npk : ∀ k o, P k o → gl ≠ k
theorem QB.again {P : Nat → Obj → Prop} {g0 : Nat} {w0 w : World} {a : Value} {q : List Pr} (h : QB P g0 w0 w a q) : QB P g0 w w a q := ⟨Below.refl _ _, h.box, h.own, h.pk⟩
section
variable {P : Nat → Obj → Prop} {S : Nat → Prop} {w0 : World} {B ge gm be bl bq : Nat} {fv : Value} {D : DataW Unit} {k : Nat} {F : Int → Int → Option Nat} {gl cap n : Nat} {W W' : World} {nd nd' : List Nd} {a a' : Value} {q q' : List Pr}
theorem TM.put (h : TM P S w0 B ge gm be bl bq fv D k F gl cap n W nd a q) (hq : QB P bq W W' a' q') : TM P S w0 B ge gm be bl bq fv D k F gl cap n W' nd a' q' := by
  have hb := But.of_below hq.below
  have l1 := h.oge
  have l2 := h.ogm
  have l3 := h.obe
  have l4 := h.obl
  have l5 := h.ogl
  have l6 := h.wq
  exact ⟨h.kept.trans hb (fun k hk e => by omega), h.eg.but hb (by omega) (by omega) (fun k hk => by have := h.ofv k hk; omega) (fun k hk => by cases hk), hb.blk h.eb (by omega), hb.blk h.lb (by omega),
    hb.own h.no (fun k hk => by injection hk with hk; simp only at hk; omega), hq.again, h.len, h.sgl, h.wq, l1, l2, l3, l4, l5, h.ofv, h.nge, h.ngm, h.nbe, h.nbl, h.nfv, h.npk⟩
theorem TM.go (h : TM P S w0 B ge gm be bl bq fv D k F gl cap n W nd a q) (hb : Below W.heap.size W W') : TM P S w0 B ge gm be bl bq fv D k F gl cap n W' nd a q := h.put (h.qb.go hb)
theorem TM.drew (h : TM P S w0 B ge gm be bl bq fv D k F gl cap n W nd a q) : TM P S w0 B ge gm be bl bq fv D k F gl cap n W.drew nd a q := h.go (Below.refl _ _).drew
theorem TM.drewN (h : TM P S w0 B ge gm be bl bq fv D k F gl cap n W nd a q) (m : Nat) : TM P S w0 B ge gm be bl bq fv D k F gl cap n (W.drewN m) nd a q := h.go (below_drewN (Below.refl _ _) m)
theorem TM.alloc (h : TM P S w0 B ge gm be bl bq fv D k F gl cap n W nd a q) (o : Obj) : TM P S w0 B ge gm be bl bq fv D k F gl cap n (W.alloc o) nd a q := h.go ((Below.refl _ _).alloc (Nat.le_refl _) _)
/-- the nodes are written, and nothing else -/
theorem TM.nodes (h : TM P S w0 B ge gm be bl bq fv D k F gl cap n W nd a q) (hg : W.grownBy W' (some gl)) (hn : W'.ownsRow B 176 3 (.slice (some ⟨gl, 0, none⟩) n cap) n (nflat nd')) (hl : nd'.length = n) : TM P S w0 B ge gm be bl bq fv D k F gl cap n W' nd' a q := by
  have hb := But.of_grown hg
  have l1 := h.oge
  have l2 := h.ogm
  have l3 := h.obe
  have l4 := h.obl
  have l5 := h.ogl
  have hqn : bq ≠ gl := by omega
  have e1 : ∀ k, k ≠ gl → ¬ (some gl = some k) := fun k hk e => hk (by injection e with e; exact e.symm)
  refine ⟨h.kept.trans hb (fun k hk e => ?_), h.eg.but hb (e1 _ (Ne.symm h.nge)) (e1 _ (Ne.symm h.ngm)) (fun k hk => e1 _ (fun e => h.nfv (by rw [hk, e]))) (fun k hk => by cases hk), hb.blk h.eb (e1 _ (Ne.symm h.nbe)), hb.blk h.lb (e1 _ (Ne.symm h.nbl)),
    hn, ⟨Below.refl _ _, hb.blk h.qb.box (e1 _ hqn), hb.own h.qb.own (fun k hk => e1 _ (fun e => by have := (h.qb.own.lt k hk).1; omega)), fun k o hp => ⟨(h.qb.pk k o hp).1, (h.qb.pk k o hp).2.1, (hb.block k (lt_of_heap (h.qb.pk k o hp).2.2) (e1 _ (Ne.symm (h.npk k o hp)))).trans (h.qb.pk k o hp).2.2⟩⟩, hl, h.sgl, h.wq, l1, l2, l3, l4, l5, h.ofv, h.nge, h.ngm, h.nbe, h.nbl, h.nfv, h.npk⟩
  injection e with e
  subst e
  exact h.sgl hk
theorem TM.cell (h : TM P S w0 B ge gm be bl bq fv D k F gl cap n W nd a q) {i j : Nat} (hi : i < n) (hj : j < 3) : W.cell? ⟨gl, i * 3 + j, none⟩ = some (ndF (ndAt nd i) j) := by
  have hx : i * 3 + j < n * 3 := by omega
  rw [h.no.cellAt _ hx]
  exact flat_get (by rw [h.len]; exact hi) hj
theorem TM.fz (h : TM P S w0 B ge gm be bl bq fv D k F gl cap n W nd a q) (i : Nat) : W.frozen? ⟨gl, i, none⟩ = false := h.no.frozenAt i
theorem TM.box (h : TM P S w0 B ge gm be bl bq fv D k F gl cap n W nd a q) : W.cell? ⟨bl, 0, none⟩ = some (.slice (some ⟨gl, 0, none⟩) n cap) := h.lb.cell 0
theorem TM.capLe (h : TM P S w0 B ge gm be bl bq fv D k F gl cap n W nd a q) : n ≤ cap := own_cap h.no
end
/-- other blocks are watched -/
theorem TM.watch {P P' : Nat → Obj → Prop} {S : Nat → Prop} {w0 : World} {B ge gm be bl bq : Nat} {fv : Value} {D : DataW Unit} {k : Nat} {F : Int → Int → Option Nat} {gl cap n : Nat} {W : World} {nd : List Nd} {a : Value} {q : List Pr} (h : TM P S w0 B ge gm be bl bq fv D k F gl cap n W nd a q)
    (hp : ∀ k o, P' k o → bq < k ∧ a.ownBlock ≠ some k ∧ W.heap[k]? = some o) : TM P' S w0 B ge gm be bl bq fv D k F gl cap n W nd a q :=
  ⟨h.kept, h.eg, h.eb, h.lb, h.no, ⟨h.qb.below, h.qb.box, h.qb.own, fun k o h9 => ⟨by have := (hp k o h9).1; omega, (hp k o h9).2⟩⟩, h.len, h.sgl, h.wq, h.oge, h.ogm, h.obe, h.obl, h.ogl, h.ofv, h.nge, h.ngm, h.nbe, h.nbl, h.nfv, fun k o h9 => by have := (hp k o h9).1; have := h.ogl; omega⟩
theorem fget_bd {F : Int → Int → Option Nat} (hF : FSmall F) {a b r x : Int} (h : fget F a b = some (r, x)) : 0 ≤ r ∧ r < 1024 ∧ x = 256 + r := by
  unfold fget at h
  cases hk : F a b with
  | none => rw [hk] at h; cases h
  | some k =>
    rw [hk] at h
    have := hF a b k hk
    simp at h
    omega
theorem lookP_val (get : Int → Int → Option (Int × Int)) (nd : List Nd) (k nx : Nat) (h : (ndAt nd k).next = (nx : Int)) : lookP get nd (k : Int) = (get (ndAt nd k).id (ndAt nd nx).id).map fun v => ⟨v.1, k, (ndAt nd k).id, (ndAt nd nx).id, v.2⟩ := by
  unfold lookP
  rw [Int.toNat_natCast, if_neg (by rw [h]; omega)]
  simp only [h, Int.toNat_natCast]
set_option maxRecDepth 100000 in
set_option maxHeartbeats 4000000 in
theorem look_any (P : Nat → Obj → Prop) (S : Nat → Prop) (w0 : World) (B ge gm be bl bq : Nat) (fv : Value) (D : DataW Unit) (kk : Nat) (F : Int → Int → Option Nat) (gl cap n : Nat) (W : World) (nd : List Nd) (a : Value) (q : List Pr) (h : TM P S w0 B ge gm be bl bq fv D kk F gl cap n W nd a q) (hF : FSmall F)
    (k : Nat) (hk : k < n) (hn : n ≤ 262144) (nx : Nat) (hnx : (ndAt nd k).next = (nx : Int)) (hnn : nx < n) (hq : q.length < 999999) (hs : ∀ p ∈ q, SmallP p) (hh : HeapP q)
    (ha : 0 ≤ (ndAt nd k).id ∧ (ndAt nd k).id < 65536) (hb : 0 ≤ (ndAt nd nx).id ∧ (ndAt nd nx).id < 65536) :
    Calls Try.prog 96 #[.int .i64 k, .pointer (some ⟨bl, 0, none⟩), .pointer (some ⟨be, 0, none⟩), .pointer (some ⟨bq, 0, none⟩)] W fun e w' => e = .returned (.tuple #[]) ∧ ∃ a' q', TM P S w0 B ge gm be bl bq fv D kk F gl cap n w' nd a' q' ∧ HeapP q' ∧ q'.Perm (q ++ (lookP (fget F) nd (k : Int)).toList) := by
  have H := Lib.hid h
  have q0 := h.box
  have c00 := h.cell hk (j := 0) (by omega)
  have c01 := h.cell hk (j := 1) (by omega)
  have c10 := h.cell hnn (j := 0) (by omega)
  obtain ⟨x, hx⟩ : ∃ x, x = (ndAt nd k).id := ⟨_, rfl⟩
  obtain ⟨y, hy⟩ : ∃ y, y = (ndAt nd nx).id := ⟨_, rfl⟩
  unfold ndF at c00 c01 c10
  simp only [← hx, ← hy, hnx, Nat.add_zero] at c00 c01 c10 ha hb
  have HA := h.alloc (.cells #[.int .i64 0, .int .i64 0] 94)
  have r0 := HA.box
  have d00 := HA.cell hk (j := 0) (by omega)
  have d01 := HA.cell hk (j := 1) (by omega)
  have d10 := HA.cell hnn (j := 0) (by omega)
  unfold ndF at d00 d01 d10
  simp only [← hx, ← hy, hnx, Nat.add_zero] at d00 d01 d10
  clear HA
  have i1 : (k : Int) < (n : Int) := by omega
  have i2 : (nx : Int) < (n : Int) := by omega
  have hlk := lookP_val (fget F) nd k nx hnx
  rw [← hx, ← hy] at hlk
  have HI1 := Lib.hid (i64_of x ha.1 (by omega))
  have HI2 := Lib.hid (i64_of y hb.1 (by omega))
  obtain ⟨r, hr⟩ : ∃ r, r = F x y := ⟨_, rfl⟩
  have hgv : fget F x y = r.map fun k => ((k : Int), 256 + (k : Int)) := by unfold fget; rw [← hr]
  rw [hgv] at hlk
  have HLK := Lib.hid hlk
  have HX := Lib.hid (And.intro hx (And.intro hy (And.intro hnx (And.intro hr hgv))))
  have hrs : ∀ k, r = some k → k < 1024 := fun k hk => hF x y k (by rw [← hr, hk])
  have HRS := Lib.hid hrs
  clear h hx hy hr hgv hlk hnx hrs hF
  go_enter Try.func96, Try.ntmps96
  go_upto_region 1 with (fail)
  go_wp2_with fail
  go_region
  obtain ⟨bm, hbm⟩ : ∃ bm, bm = W.heap.size := ⟨_, rfl⟩
  have hB : Blk (W.alloc (.cells #[.int .i64 x, .int .i64 y] 94)).drew bm 94 [.int .i64 x, .int .i64 y] := by rw [hbm]; exact (Blk.new W 94 [.int .i64 x, .int .i64 y]).drewN 1
  have hT := (H.out.alloc (.cells #[.int .i64 x, .int .i64 y] 94)).drew
  rw [← hbm]
  generalize (W.alloc (.cells #[.int .i64 x, .int .i64 y] 94)).drew = W1 at hB hT ⊢
  have H1 := Lib.hid hT
  have HB1 := Lib.hid hB
  clear hbm q0 c00 c01 c10 r0 d00 d01 d10 H
  have e0 := hT.eb.cell 0
  have e1 := hT.eg.box.cell 0
  have m0 := hB.cell 0
  have m1 := hB.cell 1
  simp only [List.getElem?_cons_zero, List.getElem?_cons_succ] at e0 e1 m0 m1
  clear hB hT
  cases r with
  | none =>
    have hlook : ∀ nq, (Instr.lookup 160 (.map (some gm)) (.agg #[.int .i64 x, .int .i64 y]) true).run Try.prog (W1.drewN nq) = .ok (.tuple #[.int .i64 (0 : Int), .bool false]) (W1.drewN nq) := fun nq => by
      rw [ranks_lookup (map_drewN H1.out.eg.map nq) H1.out.eg.rk x y HI1.out HI2.out, ← HX.out.2.2.2.1]; rfl
    go_wp2_with fail
    go_quiet (fail)
    go_wp2_with fail
    go_returns
    refine ⟨by first | rfl | simp, a, q, H1.out.drewN _, hh, ?_⟩
    rw [HLK.out]
    simp
  | some r =>
    have hlook : ∀ nq, (Instr.lookup 160 (.map (some gm)) (.agg #[.int .i64 x, .int .i64 y]) true).run Try.prog (W1.drewN nq) = .ok (.tuple #[.int .i64 (r : Int), .bool true]) (W1.drewN nq) := fun nq => by
      rw [ranks_lookup (map_drewN H1.out.eg.map nq) H1.out.eg.rk x y HI1.out HI2.out, ← HX.out.2.2.2.1]; rfl
    have hr := HRS.out r rfl
    go_wp2_with fail
    go_quiet (fail)
    clear hlook
    have H2 := Lib.hid (H1.out.drewN nq)
    have m2 : (W1.drewN nq).cell? ⟨bm, 0, none⟩ = some (.int .i64 x) := m0
    have m3 : (W1.drewN nq).cell? ⟨bm, 1, none⟩ = some (.int .i64 y) := m1
    generalize W1.drewN nq = W2 at H2 m2 m3 ⊢
    clear m0 m1 e0 e1
    go_wp2_with fail
    refine (put_any P bq W2 W2 a q ⟨r, k, x, y, 256 + (r : Int)⟩ (by omega) hs ⟨by show (0 : Int) ≤ (r : Int); omega, by show (r : Int) < 4294967296; omega, by show (0 : Int) ≤ (k : Int); omega, by show (k : Int) < 4294967296; omega⟩ hh H2.out.qb).mono ?_
    rintro e w4 ⟨rfl, a', q', hq4, hh4, hp4⟩
    have H4 := Lib.hid (H2.out.put hq4)
    have HP4 := Lib.hid (And.intro hh4 hp4)
    clear hq4 hh4 hp4
    go_wp2_with fail
    go_returns
    refine ⟨by first | rfl | simp, a', q', H4.out, HP4.out.1, ?_⟩
    rw [HLK.out]
    exact HP4.out.2
set_option maxRecDepth 100000 in
set_option maxHeartbeats 4000000 in
theorem look_neg (bl be bq : Nat) (W : World) :
    Calls Try.prog 96 #[.int .i64 (-1), .pointer (some ⟨bl, 0, none⟩), .pointer (some ⟨be, 0, none⟩), .pointer (some ⟨bq, 0, none⟩)] W fun e w' => e = .returned (.tuple #[]) ∧ w' = W := by
  go_enter Try.func96, Try.ntmps96
  go_wp2_with fail
  go_returns
  exact ⟨by first | rfl | simp, rfl⟩
set_option maxRecDepth 100000 in
set_option maxHeartbeats 4000000 in
theorem look_end (bl be bq gl n cap k : Nat) (W : World) (hk : k < n) (q0 : W.cell? ⟨bl, 0, none⟩ = some (.slice (some ⟨gl, 0, none⟩) n cap)) (c1 : W.cell? ⟨gl, k * 3 + 1, none⟩ = some (.int .i64 (-1))) :
    Calls Try.prog 96 #[.int .i64 k, .pointer (some ⟨bl, 0, none⟩), .pointer (some ⟨be, 0, none⟩), .pointer (some ⟨bq, 0, none⟩)] W fun e w' => e = .returned (.tuple #[]) ∧ w' = W := by
  have i1 : (k : Int) < (n : Int) := by omega
  go_enter Try.func96, Try.ntmps96
  go_wp2_with fail
  go_returns
  exact ⟨by first | rfl | simp, rfl⟩
theorem look_all (P : Nat → Obj → Prop) (S : Nat → Prop) (w0 : World) (B ge gm be bl bq : Nat) (fv : Value) (D : DataW Unit) (kk : Nat) (F : Int → Int → Option Nat) (gl cap n : Nat) (W : World) (nd : List Nd) (a : Value) (q : List Pr) (h : TM P S w0 B ge gm be bl bq fv D kk F gl cap n W nd a q) (hF : FSmall F)
    (hn : n ≤ 262144) (c : List Nat) (hc : Chain nd c) (hi : ∀ i, i < nd.length → (ndAt nd i).id < 65536) (i : Int) (hij : i = -1 ∨ ∃ j, j < c.length ∧ i = (c.getD j 0 : Nat)) (hq : q.length < 999999) (hs : ∀ p ∈ q, SmallP p) (hh : HeapP q) :
    Calls Try.prog 96 #[.int .i64 i, .pointer (some ⟨bl, 0, none⟩), .pointer (some ⟨be, 0, none⟩), .pointer (some ⟨bq, 0, none⟩)] W fun e w' => e = .returned (.tuple #[]) ∧ ∃ a' q', TM P S w0 B ge gm be bl bq fv D kk F gl cap n w' nd a' q' ∧ HeapP q' ∧ q'.Perm (q ++ (lookP (fget F) nd i).toList) := by
  rcases hij with rfl | ⟨j, hj, rfl⟩
  · refine (look_neg bl be bq W).mono ?_
    rintro e w' ⟨rfl, rfl⟩
    exact ⟨rfl, a, q, h, hh, by unfold lookP; rw [if_pos (by omega)]; simp⟩
  · have hlt := hc.lt j hj
    rw [h.len] at hlt
    by_cases hj1 : j + 1 < c.length
    · have hn1 := hc.next j hj1
      have hlt1 := hc.lt (j + 1) hj1
      rw [h.len] at hlt1
      exact look_any P S w0 B ge gm be bl bq fv D kk F gl cap n W nd a q h hF _ hlt hn _ hn1 hlt1 hq hs hh ⟨hc.id j hj, hi _ (by rw [h.len]; exact hlt)⟩ ⟨hc.id (j + 1) hj1, hi _ (by rw [h.len]; exact hlt1)⟩
    · have hn1 := hc.nextEnd j (by omega)
      have hcell := h.cell hlt (j := 1) (by omega)
      unfold ndF at hcell
      simp only [hn1] at hcell
      refine (look_end bl be bq gl n cap _ W hlt h.box hcell).mono ?_
      rintro e w' ⟨rfl, rfl⟩
      exact ⟨rfl, a, q, h, hh, by unfold lookP; rw [Int.toNat_natCast, if_pos (by rw [hn1]; omega)]; simp⟩
end Go.Proofs.Ytfjgfabochiflaa.H14
/- Tokens' list: filled; its fields; what is left to do. -/
namespace Go.Proofs.Ytfjgfabochiflaa.H14
open Go.RowKit Go.Maps Go.WideMaps
/-- a text's bytes, as ids -/
def bytesI (s : ByteArray) : List Int := s.data.toList.map fun b => (b.toNat : Int)
theorem length_bytesI (s : ByteArray) : (bytesI s).length = s.size := by unfold bytesI; rw [List.length_map]; rfl
theorem index_bytes (s : ByteArray) (k : Nat) (h : k < s.size) : 0 ≤ (bytesI s).getD k 0 ∧ (bytesI s).getD k 0 < 256 ∧ ∀ W, (Instr.index 9 (.string s) (.int .i64 (k : Int))).run Try.prog W = .ok (.int .u8 ((bytesI s).getD k 0)) W := by
  have h' : k < s.data.size := h
  have e : (bytesI s).getD k 0 = ((s[k]'h).toNat : Int) := by
    unfold bytesI
    rw [List.getD, List.getElem?_map, Array.getElem?_toList, Array.getElem?_eq_getElem h']
    rfl
  have := (s[k]'h).toNat_lt
  refine ⟨by omega, by omega, fun W => ?_⟩
  rw [run_index_string W 9 s .i64 k Try.underlying9, dif_pos ⟨by omega, by omega⟩, e]
  rfl
/-- the list when k nodes are filled -/
def ndT (l : List Int) (k : Nat) : List Nd := (List.range k).map fun i => ⟨l.getD i 0, (i : Int) + 1, (i : Int) - 1⟩
theorem length_ndT (l : List Int) (k : Nat) : (ndT l k).length = k := by simp [ndT]
theorem ndT_snoc (l : List Int) (k : Nat) : ndT l (k + 1) = ndT l k ++ [⟨l.getD k 0, (k : Int) + 1, (k : Int) - 1⟩] := by
  unfold ndT
  rw [List.range_succ, List.map_append]
  rfl
theorem ndT_at (l : List Int) (k i : Nat) (hi : i < k) : ndAt (ndT l k) i = ⟨l.getD i 0, (i : Int) + 1, (i : Int) - 1⟩ := by
  simp [ndAt, ndT, hi]
theorem ndT_last (l : List Int) (h0 : 0 < l.length) : (ndT l l.length).set (l.length - 1) ⟨l.getD (l.length - 1) 0, -1, ((l.length - 1 : Nat) : Int) - 1⟩ = ndInit l := by
  apply List.ext_getElem (by simp [ndT, ndInit])
  intro i h1 h2
  rw [List.getElem_set]
  have hi : i < l.length := by simpa [ndT] using h1
  simp only [ndT, ndInit, List.getElem_map, List.getElem_range]
  by_cases e : l.length - 1 = i
  · subst e
    rw [if_pos rfl, if_pos (by omega)]
  · rw [if_neg e, if_neg (by omega)]
    congr 1
/-- one field of a node is written -/
theorem nd_setId {W : World} {B gl n cap : Nat} {nd : List Nd} (h : W.ownsRow B 176 3 (.slice (some ⟨gl, 0, none⟩) n cap) n (nflat nd)) {k : Nat} (hk : k < nd.length) (x : Int) : (W.setCell ⟨gl, k * 3, none⟩ (.int .i64 x)).ownsRow B 176 3 (.slice (some ⟨gl, 0, none⟩) n cap) n (nflat (nd.set k ⟨x, (ndAt nd k).next, (ndAt nd k).last⟩)) := by
  have := (h.stored (k * 3 + 0) (.int .i64 x)).1
  rw [nflat, flat_set (j := 0) (v := .int .i64 x) (x := (⟨x, (ndAt nd k).next, (ndAt nd k).last⟩ : Nd)) hk (by omega) rfl (fun i hi hne => by
    rcases (by omega : i = 1 ∨ i = 2) with rfl | rfl <;> rfl)] at this
  exact this
theorem nd_setNext {W : World} {B gl n cap : Nat} {nd : List Nd} (h : W.ownsRow B 176 3 (.slice (some ⟨gl, 0, none⟩) n cap) n (nflat nd)) {k : Nat} (hk : k < nd.length) (x : Int) : (W.setCell ⟨gl, k * 3 + 1, none⟩ (.int .i64 x)).ownsRow B 176 3 (.slice (some ⟨gl, 0, none⟩) n cap) n (nflat (nd.set k ⟨(ndAt nd k).id, x, (ndAt nd k).last⟩)) := by
  have := (h.stored (k * 3 + 1) (.int .i64 x)).1
  rw [nflat, flat_set (j := 1) (v := .int .i64 x) (x := (⟨(ndAt nd k).id, x, (ndAt nd k).last⟩ : Nd)) hk (by omega) rfl (fun i hi hne => by
    rcases (by omega : i = 0 ∨ i = 2) with rfl | rfl <;> rfl)] at this
  exact this
theorem nd_setLast {W : World} {B gl n cap : Nat} {nd : List Nd} (h : W.ownsRow B 176 3 (.slice (some ⟨gl, 0, none⟩) n cap) n (nflat nd)) {k : Nat} (hk : k < nd.length) (x : Int) : (W.setCell ⟨gl, k * 3 + 2, none⟩ (.int .i64 x)).ownsRow B 176 3 (.slice (some ⟨gl, 0, none⟩) n cap) n (nflat (nd.set k ⟨(ndAt nd k).id, (ndAt nd k).next, x⟩)) := by
  have := (h.stored (k * 3 + 2) (.int .i64 x)).1
  rw [nflat, flat_set (j := 2) (v := .int .i64 x) (x := (⟨(ndAt nd k).id, (ndAt nd k).next, x⟩ : Nd)) hk (by omega) rfl (fun i hi hne => by
    rcases (by omega : i = 0 ∨ i = 1) with rfl | rfl <;> rfl)] at this
  exact this
/-- Tokens' memory while its list is filled -/
structure T1 (S : Nat → Prop) (w0 : World) (B ge gm be bl : Nat) (fv : Value) (D : DataW Unit) (kk : Nat) (F : Int → Int → Option Nat) (W : World) (lv : Value) (k : Nat) (nd : List Nd) : Prop where
  kept : But S w0 W
  eg : Eg W B ge gm fv (.slice none 0 0) 0 D kk F
  eb : Blk W be 122 [.pointer (some ⟨ge, 0, none⟩)]
  lb : Blk W bl 173 [lv]
  no : W.ownsRow B 176 3 lv k (nflat nd)
  len : nd.length = k
  hB : B ≤ w0.heap.size
  wge : ge < w0.heap.size
  wgm : gm < w0.heap.size
  wfv : ∀ k, fv.ownBlock = some k → k < w0.heap.size
  wbe : w0.heap.size ≤ be
  wbl : w0.heap.size ≤ bl
  nbb : be ≠ bl
  vs : ∀ g, lv.ownBlock = some g → (g < w0.heap.size → S g) ∧ g ≠ ge ∧ g ≠ gm ∧ g ≠ be ∧ g ≠ bl ∧ fv.ownBlock ≠ some g
section
variable {S : Nat → Prop} {w0 : World} {B ge gm be bl : Nat} {fv : Value} {D : DataW Unit} {kk : Nat} {F : Int → Int → Option Nat} {W W' W2 : World} {lv lv' : Value} {k : Nat} {nd nd' : List Nd}
theorem T1.go (h : T1 S w0 B ge gm be bl fv D kk F W lv k nd) (hb : Below W.heap.size W W') : T1 S w0 B ge gm be bl fv D kk F W' lv k nd := by
  have hb2 := But.of_below hb
  have l1 := h.eb.lt
  have l2 := h.lb.lt
  have l3 := h.kept.size
  have l4 := h.wge
  have l5 := h.wgm
  exact ⟨h.kept.trans hb2 (fun k hk e => by omega), h.eg.go hb, hb2.blk h.eb (by omega), hb2.blk h.lb (by omega), hb2.own h.no (fun k hk => by have := (h.no.lt k hk).2; omega), h.len, h.hB, h.wge, h.wgm, h.wfv, h.wbe, h.wbl, h.nbb, h.vs⟩
/-- the list has grown, and its box holds it -/
theorem T1.grow (h : T1 S w0 B ge gm be bl fv D kk F W lv k nd) (hg : W.grownBy W2 lv.ownBlock) (ho : W2.ownsRow B 176 3 lv' (k + 1) (nflat nd')) (hl : nd'.length = k + 1) (hv : ∀ g, lv'.ownBlock = some g → lv.ownBlock = some g ∨ W.heap.size ≤ g) :
    T1 S w0 B ge gm be bl fv D kk F (W2.setCell ⟨bl, 0, none⟩ lv') lv' (k + 1) nd' := by
  have hb1 := But.of_grown hg
  have hb2 := But.of_grown (grownBy_setCell W2 bl 0 lv')
  have l1 := h.eb.lt
  have l2 := h.lb.lt
  have l3 := h.kept.size
  have l4 := h.wge
  have l5 := h.wgm
  have l6 := h.wbl
  have n1 : ∀ x, (∃ g, lv.ownBlock = some g ∧ x = g) ↔ lv.ownBlock = some x := fun x => ⟨fun ⟨g, h1, h2⟩ => by rw [h1, h2], fun h1 => ⟨x, h1, rfl⟩⟩
  have b1 : lv.ownBlock ≠ some ge := fun e => (h.vs ge e).2.1 rfl
  have b2 : lv.ownBlock ≠ some gm := fun e => (h.vs gm e).2.2.1 rfl
  have b3 : lv.ownBlock ≠ some be := fun e => (h.vs be e).2.2.2.1 rfl
  have b4 : lv.ownBlock ≠ some bl := fun e => (h.vs bl e).2.2.2.2.1 rfl
  have bf : ∀ x, fv.ownBlock = some x → lv.ownBlock ≠ some x := fun x hx e => (h.vs x e).2.2.2.2.2 hx
  have c1 : ∀ x, x ≠ bl → ¬ (some bl = some x) := fun x hx e => hx (by injection e with e; exact e.symm)
  have hvs : ∀ g, lv'.ownBlock = some g → (g < w0.heap.size → S g) ∧ g ≠ ge ∧ g ≠ gm ∧ g ≠ be ∧ g ≠ bl ∧ fv.ownBlock ≠ some g := fun g hg9 => by
    rcases hv g hg9 with e | e
    · exact h.vs g e
    · exact ⟨fun h9 => by omega, by omega, by omega, by omega, by omega, fun h9 => by have := h.wfv g h9; omega⟩
  refine ⟨(h.kept.trans hb1 (fun x hx e => (h.vs x e).1 hx)).trans hb2 (fun x hx e => by injection e with e; omega), (h.eg.but hb1 b1 b2 bf (fun x hx => by cases hx)).but hb2 (c1 _ (by omega)) (c1 _ (by omega)) (fun x hx => c1 _ (by have := h.wfv x hx; omega)) (fun x hx => by cases hx),
    hb2.blk (hb1.blk h.eb b3) (c1 _ h.nbb), (hb1.blk h.lb b4).set 0 lv', hb2.own ho (fun x hx => c1 _ (hvs x hx).2.2.2.2.1), hl, h.hB, l4, l5, h.wfv, h.wbe, h.wbl, h.nbb, hvs⟩
end
end Go.Proofs.Ytfjgfabochiflaa.H14
