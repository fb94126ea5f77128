/- The engine in memory: its box, its map, its buffers; buffer and back. -/
import Derived.Test.YtklklmaclaohaaaPTake
import Derived.Test.YtklklmaclaohaaaNew
import Derived.Test.YtklklmaclaohaaaLocks
namespace Go.Proofs.Ytklklmaclaohaaa
open Go.RowKit Go.Maps Go.WideMaps Go.MuLone
/-- all elder blocks but those in S are as they were -/
structure But (S : Nat → Prop) (w w' : World) : Prop where
  os : w'.os = w.os
  tape : w'.tape = w.tape
  output : w'.output = w.output
  size : w.heap.size ≤ w'.heap.size
  block : ∀ k, k < w.heap.size → ¬ S k → w'.heap[k]? = w.heap[k]?
section
variable {S S' : Nat → Prop} {w w1 w2 : World}
theorem But.refl (S : Nat → Prop) (w : World) : But S w w := ⟨rfl, rfl, rfl, Nat.le_refl _, fun _ _ _ => rfl⟩
theorem But.trans (h : But S w w1) (h2 : But S' w1 w2) (hs : ∀ k, k < w.heap.size → S' k → S k) : But S w w2 :=
  ⟨h2.os.trans h.os, h2.tape.trans h.tape, h2.output.trans h.output, Nat.le_trans h.size h2.size, fun k hk hn =>
    (h2.block k (Nat.lt_of_lt_of_le hk h.size) (fun e => hn (hs k hk e))).trans (h.block k hk hn)⟩
theorem But.of_grown {row : Option Nat} (h : w.grownBy w1 row) : But (fun k => row = some k) w w1 :=
  ⟨h.os, h.tape, h.output, h.size, fun k hk hn => h.block k hk (fun e => hn e.symm)⟩
theorem But.of_below {B : Nat} (h : Below B w w1) : But (fun k => B ≤ k) w w1 :=
  ⟨h.os, h.tape, h.output, h.size, fun k _ hn => h.block k (by omega)⟩
theorem But.below {B : Nat} (h : But S w w1) (hB : B ≤ w.heap.size) (hs : ∀ k, S k → B ≤ k) : Below B w w1 :=
  ⟨h.os, h.tape, h.output, h.size, fun k hk => h.block k (by omega) (fun e => by have := hs k e; omega)⟩
theorem But.mono (h : But S w w1) (hs : ∀ k, k < w.heap.size → S k → S' k) : But S' w w1 :=
  ⟨h.os, h.tape, h.output, h.size, fun k hk hn => h.block k hk (fun e => hn (hs k hk e))⟩
theorem But.blk {g : Nat} {t : TypeId} {cur : List Value} (h : But S w w1) (hb : Blk w g t cur) (hn : ¬ S g) : Blk w1 g t cur := (h.block g hb.lt hn).trans hb
theorem But.own {base size n : Nat} {e : TypeId} {v : Value} {xs : List Value} (h : But S w w1) (ho : w.ownsRow base e size v n xs) (hn : ∀ k, v.ownBlock = some k → ¬ S k) : w1.ownsRow base e size v n xs :=
  own_move ho (fun k _ e h9 _ => (h.block k (ho.lt k e).2 (hn k e)).trans h9)
theorem But.map {g k : Nat} {D : DataW Unit} (h : But S w w1) (hm : w.ownsMap Try.prog 58 (plainElem Try.prog 3) g k D) (hn : ¬ S g) : w1.ownsMap Try.prog 58 (plainElem Try.prog 3) g k D := by
  have hlt := hm.lt
  obtain ⟨es, c, h1, h2⟩ := hm
  exact ⟨es, c, (h.block g hlt hn).trans h1, h2⟩
end
theorem own_nilA {w : World} {base size n c : Nat} {e : TypeId} {A : Option Addr} {xs : List Value} (h : w.ownsRow base e size (.slice A n c) n xs) : A = none → n = 0 ∧ c = 0 := fun hA => by
  rcases h.2 with ⟨h1, h2⟩ | ⟨g, cap, cur, hv, _⟩
  · injection h1 with h3 h4 h5
    exact ⟨h2, h5⟩
  · injection hv with h3
    rw [hA] at h3
    cases h3
def bufs (m : Nat) (bv : Value) : List Value := if m = 0 then [] else [bv]
/-- an engine: its box ge, its map gm, the buffers that nobody uses (fv: none, or bv) -/
structure Eg (w : World) (B ge gm : Nat) (fv bv : Value) (m : Nat) (D : DataW Unit) (n : Nat) (F : Int → Int → Option Nat) : Prop where
  geB : B ≤ ge
  gmB : B ≤ gm
  ne : ge ≠ gm
  box : Blk w ge 56 [.map (some gm), .int .i32 0, .int .u32 0, fv]
  map : w.ownsMap Try.prog 58 (plainElem Try.prog 3) gm n D
  rk : Ranks D F
  m1 : m ≤ 1
  fo : w.ownsRow B 61 1 fv m (bufs m bv)
  bo : ∃ bn xs, w.ownsRow B 64 3 bv bn xs
  dfe : ∀ k, fv.ownBlock = some k → k ≠ ge ∧ k ≠ gm
  dbe : ∀ k, bv.ownBlock = some k → k ≠ ge ∧ k ≠ gm ∧ fv.ownBlock ≠ some k
theorem Eg.start {w : World} {B ge gm n : Nat} {D : DataW Unit} {F : Int → Int → Option Nat} (h : EngIn w B ge gm (.slice none 0 0) D n F) : Eg w B ge gm (.slice none 0 0) (.slice none 0 0) 0 D n F :=
  ⟨h.geB, h.gmB, h.ne, h.box, h.map, h.rk, by omega, World.ownsRow_nil _ _ _ _, ⟨0, [], World.ownsRow_nil _ _ _ _⟩, fun k hk => (by cases hk), fun k hk => (by cases hk)⟩
theorem Eg.but {w w' : World} {B ge gm n m : Nat} {fv bv : Value} {D : DataW Unit} {F : Int → Int → Option Nat} {S : Nat → Prop} (h : Eg w B ge gm fv bv m D n F) (hb : But S w w') (h1 : ¬ S ge) (h2 : ¬ S gm)
    (h3 : ∀ k, fv.ownBlock = some k → ¬ S k) (h4 : ∀ k, bv.ownBlock = some k → ¬ S k) : Eg w' B ge gm fv bv m D n F := by
  obtain ⟨bn, xs, hbo⟩ := h.bo
  exact ⟨h.geB, h.gmB, h.ne, hb.blk h.box h1, hb.map h.map h2, h.rk, h.m1, hb.own h.fo h3, ⟨bn, xs, hb.own hbo h4⟩, h.dfe, h.dbe⟩
theorem Eg.fl {w : World} {B ge gm n m : Nat} {fv bv : Value} {D : DataW Unit} {F : Int → Int → Option Nat} (h : Eg w B ge gm fv bv m D n F) : ∀ k, fv.ownBlock = some k → k < w.heap.size := fun k hk => (h.fo.lt k hk).2
theorem Eg.bl {w : World} {B ge gm n m : Nat} {fv bv : Value} {D : DataW Unit} {F : Int → Int → Option Nat} (h : Eg w B ge gm fv bv m D n F) : ∀ k, bv.ownBlock = some k → k < w.heap.size := fun k hk => by
  obtain ⟨bn, xs, hbo⟩ := h.bo
  exact (hbo.lt k hk).2
/-- memory above is made, nothing else -/
theorem Eg.go {w w' : World} {B ge gm n m : Nat} {fv bv : Value} {D : DataW Unit} {F : Int → Int → Option Nat} (h : Eg w B ge gm fv bv m D n F) (hb : Below w.heap.size w w') : Eg w' B ge gm fv bv m D n F :=
  h.but (But.of_below hb) (by have := h.box.lt; omega) (by have := h.map.lt; omega) (fun k hk => by have := h.fl k hk; omega) (fun k hk => by have := h.bl k hk; omega)
theorem own_cut0 {w : World} {base size n c : Nat} {e : TypeId} {A : Option Addr} {xs : List Value} (h : w.ownsRow base e size (.slice A n c) n xs) : w.ownsRow base e size (.slice A 0 c) 0 [] := by
  rcases h.2 with ⟨h1, h2⟩ | ⟨g, cap, cur, hv, hb, hg, hnc, hcm, hcs, _⟩
  · simp only [Value.slice.injEq] at h1
    obtain ⟨rfl, rfl, rfl⟩ := h1
    exact World.ownsRow_nil _ _ _ _
  · simp only [Value.slice.injEq] at hv
    obtain ⟨rfl, _, rfl⟩ := hv
    exact ⟨by simp, .inr ⟨g, c, cur, rfl, hb, hg, by omega, hcm, hcs, by simp⟩⟩
theorem Eg.boxed {w w' : World} {B ge gm n m m' : Nat} {fv bv fv' bv' : Value} {D : DataW Unit} {F : Int → Int → Option Nat} (h : Eg w B ge gm fv bv m D n F) (hg : w.grownBy w' (some ge))
    (hb : Blk w' ge 56 [.map (some gm), .int .i32 0, .int .u32 0, fv']) (hm : m' ≤ 1) (fo : w'.ownsRow B 61 1 fv' m' (bufs m' bv')) (hbo : ∃ bn xs, w'.ownsRow B 64 3 bv' bn xs)
    (hf : ∀ k, fv'.ownBlock = some k → k ≠ ge ∧ k ≠ gm) (hd : ∀ k, bv'.ownBlock = some k → k ≠ ge ∧ k ≠ gm ∧ fv'.ownBlock ≠ some k) : Eg w' B ge gm fv' bv' m' D n F :=
  ⟨h.geB, h.gmB, h.ne, hb, (But.of_grown hg).map h.map (fun e => h.ne (by injection e)), h.rk, hm, fo, hbo, hf, hd⟩
/-- the lock is taken and given back, and the buffers' row is another one -/
theorem Eg.lockB {w : World} {B ge gm n m : Nat} {fv bv : Value} {D : DataW Unit} {F : Int → Int → Option Nat} (h : Eg w B ge gm fv bv m D n F) (v : Value) :
    Blk (((w.setCell ⟨ge, 1, none⟩ (.int .i32 1)).setCell ⟨ge, 3, none⟩ v).setCell ⟨ge, 1, none⟩ (.int .i32 0)) ge 56 [.map (some gm), .int .i32 0, .int .u32 0, v] :=
  ((h.box.set 1 (.int .i32 1)).set 3 v).set 1 (.int .i32 0)
theorem Eg.lockA {w : World} {B ge gm n m : Nat} {fv bv : Value} {D : DataW Unit} {F : Int → Int → Option Nat} (h : Eg w B ge gm fv bv m D n F) :
    Blk ((w.setCell ⟨ge, 1, none⟩ (.int .i32 1)).setCell ⟨ge, 1, none⟩ (.int .i32 0)) ge 56 [.map (some gm), .int .i32 0, .int .u32 0, fv] :=
  (h.box.set 1 (.int .i32 1)).set 1 (.int .i32 0)
theorem grown2 (w : World) (ge i j : Nat) (u v : Value) : w.grownBy ((w.setCell ⟨ge, i, none⟩ u).setCell ⟨ge, j, none⟩ v) (some ge) :=
  (grownBy_setCell w ge i u).trans (grownBy_setCell _ ge j v)
theorem grown3 (w : World) (ge i j k : Nat) (u v x : Value) : w.grownBy (((w.setCell ⟨ge, i, none⟩ u).setCell ⟨ge, j, none⟩ v).setCell ⟨ge, k, none⟩ x) (some ge) :=
  (grown2 w ge i j u v).trans (grownBy_setCell _ ge k x)
theorem bslice0 (A : Option Addr) (n c : Nat) (w : World) (hA : A = none → n = 0 ∧ c = 0) (hn : n ≤ c) : (Instr.slice 61 (.slice A n c) none (some (.int .i64 0)) none).run Try.prog w = .ok (.slice A 0 c) w := by
  cases A with
  | none =>
    obtain ⟨rfl, rfl⟩ := hA rfl
    kernel_rfl
  | some a =>
    have h0 : (0 : Int) ≤ 0 := by omega
    have h1 : (0 : Int) ≤ (c : Int) := by omega
    go_simp
set_option maxRecDepth 100000 in
set_option maxHeartbeats 4000000 in
theorem buffer_any (w : World) (B ge gm n m : Nat) (fv bv : Value) (D : DataW Unit) (F : Int → Int → Option Nat) (h : Eg w B ge gm fv bv m D n F) :
    Calls Try.prog 19 #[.pointer (some ⟨ge, 0, none⟩)] w fun e w' => ∃ lv fv', e = .returned lv ∧ w.grownBy w' (some ge) ∧ w'.ownsRow B 64 3 lv 0 [] ∧ (∀ k, lv.ownBlock = some k → bv.ownBlock = some k) ∧ Eg w' B ge gm fv' (.slice none 0 0) 0 D n F ∧ fv'.ownBlock = fv.ownBlock := by
  have H := Lib.hid h
  have c0 := h.box.cell 0
  have c1 := h.box.cell 1
  have c2 := h.box.cell 2
  have c3 := h.box.cell 3
  have f1 := h.box.frozen 1
  have f3 := h.box.frozen 3
  simp only [List.getElem?_cons_zero, List.getElem?_cons_succ] at c0 c1 c2 c3
  obtain ⟨A, c, rfl⟩ := own_form h.fo
  rcases (by have := h.m1; omega : m = 0 ∨ m = 1) with rfl | rfl
  · clear h
    go_enter_defers Try.func19, Try.ntmps19
    go_wp2_with (go_at_call 33; refine (lock_free muLib ⟨ge, 1, none⟩ _ c1 f1).mono ?_; rintro e w' ⟨rfl, rfl⟩)
    refine leaves_cons (f := 34) (args := #[.pointer (some ⟨ge, 1, none⟩)]) (by simp) (by simp [go_sem]) ?_
    refine (unlock_deferred muLib ⟨ge, 1, none⟩ .returning _ ?_ ?_).mono ?_
    · exact World.cell?_setCell_same w ⟨ge, 1, none⟩ (.int .i32 1) c1
    · simp [f1]
    rintro e u' w'' ⟨rfl, rfl, rfl⟩
    have hg := grown2 w ge 1 1 (.int .i32 1) (.int .i32 0)
    refine ⟨_, results_tmp rfl _ _ _, .slice none 0 0, .slice A 0 c, rfl, hg, World.ownsRow_nil _ _ _ _, fun k hk => (by cases hk), ?_, rfl⟩
    exact H.out.boxed hg H.out.lockA (by omega) ((But.of_grown hg).own H.out.fo (fun k hk e => (H.out.dfe k hk).1 (by injection e with e; exact e.symm))) ⟨0, [], World.ownsRow_nil _ _ _ _⟩ H.out.dfe (fun k hk => (by cases hk))
  · obtain ⟨bn, bx, hbo⟩ := h.bo
    obtain ⟨Ab, cb, rfl⟩ := own_form hbo
    have HBO := Lib.hid hbo
    obtain ⟨g, cap, hv, _⟩ := h.fo.form (by omega)
    simp only [Value.slice.injEq, true_and] at hv
    obtain ⟨rfl, rfl⟩ := hv
    have hcb := h.fo.cells (g := g) rfl 0 _ rfl
    simp only [Addr.add, if_true] at hcb
    have nb : ¬ g = ge := fun e => (h.dfe g rfl).1 e
    have hc1 := own_cap h.fo
    have hb0 := fun w => bslice0 Ab bn cb w (own_nilA hbo) (own_cap hbo)
    clear h hbo
    go_enter_defers Try.func19, Try.ntmps19
    go_wp2_with (go_at_call 33; refine (lock_free muLib ⟨ge, 1, none⟩ _ c1 f1).mono ?_; rintro e w' ⟨rfl, rfl⟩)
    refine leaves_cons (f := 34) (args := #[.pointer (some ⟨ge, 1, none⟩)]) (by simp) (by simp [go_sem]) ?_
    refine (unlock_deferred muLib ⟨ge, 1, none⟩ .returning _ ?_ ?_).mono ?_
    · exact (World.cell?_setCell_other _ ⟨ge, 3, none⟩ ⟨ge, 1, none⟩ _ (by simp)).trans (World.cell?_setCell_same w ⟨ge, 1, none⟩ (.int .i32 1) c1)
    · simp [f1]
    rintro e u' w'' ⟨rfl, rfl, rfl⟩
    have hg := grown3 w ge 1 3 1 (.int .i32 1) (.slice (some ⟨g, 0, none⟩) 0 c) (.int .i32 0)
    have hgb := But.of_grown hg
    have hbo2 := hgb.own HBO.out (fun k hk e => (H.out.dbe k hk).1 (by injection e with e; exact e.symm))
    have hfo2 := hgb.own H.out.fo (fun k hk e => (H.out.dfe k hk).1 (by injection e with e; exact e.symm))
    refine ⟨_, results_tmp rfl _ _ _, .slice Ab 0 cb, .slice (some ⟨g, 0, none⟩) 0 c, rfl, hg, own_cut0 hbo2, fun k hk => (by cases Ab with | none => cases hk | some a => exact hk), ?_, rfl⟩
    exact H.out.boxed hg (H.out.lockB _) (by omega) (own_cut0 hfo2) ⟨0, [], World.ownsRow_nil _ _ _ _⟩ H.out.dfe (fun k hk => (by cases hk))
theorem info61 : (Try.prog.info? 61).map (fun i => (i.size, i.bytes)) = some (1, 24) := by kernel_rfl
set_option maxRecDepth 100000 in
set_option maxHeartbeats 4000000 in
theorem back_any (w : World) (B ge gm n bn : Nat) (fv lv : Value) (bx : List Value) (D : DataW Unit) (F : Int → Int → Option Nat) (h : Eg w B ge gm fv (.slice none 0 0) 0 D n F) (hl : w.ownsRow B 64 3 lv bn bx)
    (hd : ∀ k, lv.ownBlock = some k → k ≠ ge ∧ k ≠ gm ∧ fv.ownBlock ≠ some k) (hB : B ≤ w.heap.size) :
    Calls Try.prog 25 #[.pointer (some ⟨ge, 0, none⟩), lv] w fun e w' => ∃ fv', e = .returned (.tuple #[]) ∧ But (fun k => k = ge ∨ fv.ownBlock = some k) w w' ∧ Eg w' B ge gm fv' lv 1 D n F ∧ (∀ k, fv'.ownBlock = some k → fv.ownBlock = some k ∨ w.heap.size ≤ k) := by
  obtain ⟨i9, z9, hi9, hz9, hsz9, hbt9, hzc9⟩ : ∃ i z, Try.prog.info? 61 = some i ∧ i.zero = some z ∧ i.size = 1 ∧ i.bytes = 24 ∧ z.cells.size = 1 := ⟨_, _, rfl, rfl, rfl, rfl, rfl⟩
  have H := Lib.hid h
  have HL := Lib.hid hl
  have HD := Lib.hid hd
  have c0 := h.box.cell 0
  have c1 := h.box.cell 1
  have c2 := h.box.cell 2
  have c3 := h.box.cell 3
  have f1 := h.box.frozen 1
  have f3 := h.box.frozen 3
  simp only [List.getElem?_cons_zero, List.getElem?_cons_succ] at c0 c1 c2 c3
  obtain ⟨Ab, cb, rfl⟩ := own_form hl
  obtain ⟨W1, hW1⟩ : ∃ W1, W1 = w.setCell ⟨ge, 1, none⟩ (.int .i32 1) := ⟨_, rfl⟩
  have hg1 := grownBy_setCell w ge 1 (.int .i32 1)
  rw [← hW1] at hg1
  have ho1 := (But.of_grown hg1).own h.fo (fun k hk e => (h.dfe k hk).1 (by injection e with e; exact e.symm))
  have hbx : Blk W1 ge 56 [.map (some gm), .int .i32 1, .int .u32 0, fv] := by rw [hW1]; exact h.box.set 1 (.int .i32 1)
  have HW := Lib.hid (And.intro hg1 (And.intro ho1 (And.intro hbx hW1)))
  have hsz1 : W1.heap.size = w.heap.size := by rw [hW1]; simp
  have HSZ := Lib.hid hsz1
  have HN := Lib.hid (show ∀ j u, [Value.slice Ab bn cb][j]? = some u → ((w.setCell ⟨ge, 1, none⟩ (.int .i32 1)).alloc (.cells #[.slice Ab bn cb] 61)).cell? ((⟨w.heap.size, 0, none⟩ : Addr).add j) = some u by
    have := cell_one_new W1 (.slice Ab bn cb) 61
    rw [hsz1, hW1] at this
    exact this)
  clear h hl hd ho1 hg1 hbx hsz1 hW1
  go_enter_defers Try.func25, Try.ntmps25
  go_wp2_with (first
    | (go_at_call 33; refine (lock_free muLib ⟨ge, 1, none⟩ _ c1 f1).mono ?_; rintro e w' ⟨rfl, rfl⟩)
    | (at_builtin
       refine (wpList_append_own_at _ rfl (.tmp 15) (.tmp 17) 54 rfl B 61 i9 z9 1 24 Try.underlying54 hi9 hz9 hsz9 hbt9 hzc9 (by omega) fv 0 [] rfl (by rw [← HW.out.2.2.2]; exact HW.out.2.1.alloc _) ⟨_, 0, none⟩ 1 1 [.slice Ab bn cb] rfl rfl HN.out (by intro u hu; simp at hu; subst hu; rfl) (by unfold maxLen; omega) (by omega) (by simp; omega) ?_)
       intro v' w' h2 h3 h4 h5
       rw [← HW.out.2.2.2] at h3 h5
       have hbx2 : Blk w' ge 56 [.map (some gm), .int .i32 1, .int .u32 0, fv] := (h3.block ge (by have := HW.out.2.2.1.lt; simp; omega) (fun e => (H.out.dfe ge e.symm).1 rfl)).trans (HW.out.2.2.1.alloc _)
       have e1 := hbx2.cell 1
       have e3 := hbx2.cell 3
       have g1 := hbx2.frozen 1
       have g3 := hbx2.frozen 3
       simp only [List.getElem?_cons_zero, List.getElem?_cons_succ] at e1 e3
       have H2 := Lib.hid (And.intro h2 (And.intro h3 (And.intro h5 hbx2)))
       obtain ⟨A', c', rfl⟩ := own_form h2
       clear h2 h3 h4 h5 hbx2))
  refine leaves_cons (f := 34) (args := #[.pointer (some ⟨ge, 1, none⟩)]) (by simp) (by simp [go_sem]) ?_
  refine (unlock_deferred muLib ⟨ge, 1, none⟩ .returning _ ?_ ?_).mono ?_
  · exact (World.cell?_setCell_other _ ⟨ge, 3, none⟩ ⟨ge, 1, none⟩ _ (by simp)).trans e1
  · simp [g1]
  rintro e u' w'' ⟨rfl, rfl, rfl⟩
  obtain ⟨h2, h3, h5, hbx⟩ := H2.out
  obtain ⟨hg1, ho1, hbx1, hW⟩ := HW.out
  have hsz := HSZ.out
  have hb1 : But (fun k => k = ge ∨ fv.ownBlock = some k) w w' := (((But.of_grown hg1).trans (But.of_below ((Below.refl W1.heap.size W1).alloc (Nat.le_refl _) (.cells #[.slice Ab bn cb] 61))) (fun k hk hk2 => by omega)).mono (fun k _ e => .inl (by injection e with e; exact e.symm))).trans (But.of_grown h3) (fun k _ e => .inr e)
  have hg2 := But.of_grown (grown2 w' ge 3 1 (.slice A' (0 + 1) c') (.int .i32 0))
  have hff : ∀ k, (Value.slice A' (0 + 1) c').ownBlock = some k → fv.ownBlock = some k ∨ w.heap.size ≤ k := fun k hk => by
    rcases h5 with h5 | h5
    · exact .inl (by rw [← h5]; exact hk)
    · rw [hk] at h5
      injection h5 with h5
      right; rw [h5]; simp; omega
  have hgl := H.out.box.lt
  have hgm := H.out.map.lt
  refine ⟨_, results_none rfl _ _ _, .slice A' (0 + 1) c', rfl, hb1.trans hg2 (fun k _ e => .inl (by injection e with e; exact e.symm)), ?_, fun k hk => ?_⟩
  · refine ⟨H.out.geB, H.out.gmB, H.out.ne, (hbx.set 3 _).set 1 (.int .i32 0), hg2.map (hb1.map H.out.map (fun e => by rcases e with e | e; exact H.out.ne e.symm; exact (H.out.dfe gm e).2 rfl)) (fun e => by injection e with e; exact H.out.ne e), H.out.rk, by omega, hg2.own h2 (fun k hk e => ?_), ⟨bn, bx, hg2.own (hb1.own HL.out (fun k hk e => ?_)) (fun k hk e => ?_)⟩, fun k hk => ?_, fun k hk => ⟨(HD.out k hk).1, (HD.out k hk).2.1, fun e => ?_⟩⟩
    · injection e with e
      subst e
      rcases hff _ hk with h9 | h9
      · exact (H.out.dfe _ h9).1 rfl
      · omega
    · rcases e with e | e
      · exact (HD.out k hk).1 e
      · exact (HD.out k hk).2.2 e
    · injection e with e
      exact (HD.out k hk).1 e.symm
    · rcases hff _ hk with h9 | h9
      · exact H.out.dfe _ h9
      · exact ⟨by omega, by omega⟩
    · rcases hff _ e with h9 | h9
      · exact (HD.out k hk).2.2 h9
      · have := (HL.out.lt k hk).2
        omega
  · rcases hff _ hk with h9 | h9
    · exact .inl h9
    · exact .inr (by omega)
end Go.Proofs.Ytklklmaclaohaaa
