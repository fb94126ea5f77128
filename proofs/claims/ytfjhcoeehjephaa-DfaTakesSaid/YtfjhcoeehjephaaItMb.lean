/- The iterator's own cells, and what stays while the body runs. -/
import Derived.Test.YtfjhcoeehjephaaRangeMb
import Derived.Test.YtfjhcoeehjephaaNfaMb
namespace Go.Proofs.Ytfjhcoeehjephaa
open Go.RowKit

theorem wpListIn_append_lies {F : Fence} {n : Nat} {P : Program} (w : World) {ops : Array Oper} {rest : List Oper} {o : Oper} {a : Act} {Q : Exit → Act → World → Prop}
    (hg : o.guard = none) (s x : Operand) (t : TypeId) (hop : o.op = Op.call { callee := Callee.builtin Builtin.append, args := #[s, x], argTypes := #[t, t] })
    (base : Nat) (e : TypeId) (i : TypeInfo) (z : Value) (size bytes : Nat) (h1 : P.underlying t = some (.slice e)) (h2 : P.info? e = some i) (h3 : i.zero = some z) (h4 : i.size = size) (h5 : i.bytes = bytes) (h6 : z.cells.size = size) (h7 : 0 < size)
    (v : Value) (k : Nat) (xs : List Value) (hs : a.eval s = v) (hown : w.ownsRow base e size v k xs) (ad : Addr) (m c : Nat) (news : List Value) (hx : a.eval x = .slice (some ad) m c) (hn : news.length = m * size)
    (hc : ∀ j u, news[j]? = some u → w.cell? (ad.add j) = some u) (h1c : ∀ u ∈ news, u.oneCell' = true) (b0 : 0 < m) (b1 : k + m ≤ maxLen) (b2 : (k + m) * bytes ≤ 140737488355328) (b3 : base ≤ w.heap.size)
    (hK : ∀ g cap w', w'.ownsRow base e size (.slice (some ⟨g, 0, none⟩) (k + m) cap) (k + m) (xs ++ news) → w.grownBy w' v.ownBlock → (v.ownBlock = some g ∨ g = w.heap.size) → g < w'.heap.size → wpListIn F n P ops Q rest (a.put o.dst (.slice (some ⟨g, 0, none⟩) (k + m) cap)) w') :
    wpListIn F n P ops Q (o :: rest) a w := by
  refine wpListIn_plain hg fun K hK' => ?_
  obtain ⟨g, cap, w', hrun, r1, r2, r3, r4⟩ := run_append_lies (P := P) w t o.type base e i z size bytes h1 h2 h3 h4 h5 h6 h7 v k xs hown ad m c news hn hc h1c b0 b1 b2 b3 _ rfl
  unfold Oper.wpIn
  refine ⟨?_, ?_⟩
  · simp [Oper.about, hop, resolve, Target.leads, Sem.run_pure]
  · rw [Oper.semAt_plain F _ _ (by rw [hop]; intro c hc'; cases hc')]
    simp [execOp, hop, resolve, invoke, builtin, hs, hx, hrun, Result.andThen]
    exact hK' _ _ (hK g cap w' r1 r2 r3 r4)

theorem own_move {w w' : World} {base n size : Nat} {e : TypeId} {v : Value} {xs : List Value} (h : w.ownsRow base e size v n xs) (hs : ∀ b o, v.ownBlock = some b → w.heap[b]? = some o → o.isCells = true → w'.heap[b]? = some o) : w'.ownsRow base e size v n xs := by
  refine ⟨h.1, ?_⟩
  rcases h.2 with h2 | ⟨g, cap, cur, hv, hb, hg, r⟩
  · exact .inl h2
  · exact .inr ⟨g, cap, cur, hv, hb, hs g _ (by rw [hv]; rfl) hg rfl, r⟩
theorem grownBy_none (w : World) : w.grownBy w none := ⟨rfl, rfl, rfl, Nat.le_refl _, fun _ _ _ => rfl⟩
theorem grownBy_drewN (w : World) (n : Nat) : w.grownBy (w.drewN n) none := ⟨rfl, rfl, rfl, Nat.le_refl _, fun _ _ _ => rfl⟩
theorem grownBy_setCell (w : World) (g k : Nat) (v : Value) : w.grownBy (w.setCell ⟨g, k, none⟩ v) (some g) := ⟨rfl, rfl, rfl, by show w.heap.size ≤ (w.heap.modify g _).size; simp, fun k _ hk => Below.heap_setCell _ _ _ k (fun e => hk (by rw [e]))⟩
def numsV (q : IntKind) (l : List Int) : List Value := l.map (.int q)
theorem numsV_snoc (q : IntKind) (l : List Int) (x : Int) : numsV q (l ++ [x]) = numsV q l ++ [.int q x] := by simp [numsV]

theorem Keep.refl (X : World → Nat → Prop) (W : World) : Keep X W W := ⟨Nat.le_refl _, fun _ _ h => h, fun _ _ h _ _ => h⟩
theorem Keep.of_grown {X : World → Nat → Prop} {w W W' : World} {row : Option Nat} (h : Keep X w W) (hg : W.grownBy W' row) (hx : ∀ r, X W' r → X W r) (hr : ∀ r, row = some r → w.heap.size ≤ r) : Keep X w W' :=
  ⟨Nat.le_trans h.size hg.size, fun b hb h9 => h.mine b hb (hx b h9), fun b o ho hc hn => by
    have h2 := h.same b o ho hc hn
    have hlt := (Array.getElem?_eq_some_iff.1 ho).1
    exact (hg.block b (Array.getElem?_eq_some_iff.1 h2).1 (fun e => by have := hr b e.symm; omega)).trans h2⟩

structure It (X : World → Nat → Prop) (w : World) (J : List Int → World → Prop) (B gs base S : Nat) (pre : List Int) (seen : List Bool) (st : List Int) (v : Value) (W : World) : Prop where
  j : J pre W
  keep : Keep X w W
  nx : ¬ X W gs
  blk : Blk W gs 4 (seen.map Value.bool)
  own : W.ownsRow base 3 1 v st.length (numsV .i64 st)
  nrow : ∀ b, v.ownBlock = some b → ¬ X W b
  lo : w.heap.size ≤ B
  at_ : B ≤ gs
  at2 : gs < base
section
variable {X : World → Nat → Prop} {w W W' : World} {J : List Int → World → Prop} {B gs base S : Nat} {pre st : List Int} {seen : List Bool} {v : Value}
theorem It.lt (h : It X w J B gs base S pre seen st v W) : gs < W.heap.size := h.blk.lt
theorem It.grow (h : It X w J B gs base S pre seen st v W) (ha : Abides X B J) (hg : W.grownBy W' none) : It X w J B gs base S pre seen st v W' := by
  obtain ⟨hj, hx⟩ := ha pre W W' none h.j hg (fun r e => by cases e)
  refine ⟨hj, h.keep.of_grown hg hx (fun r e => by cases e), fun h9 => h.nx (hx _ h9), h.blk.same (hg.block _ h.lt (fun e => by cases e)), own_move h.own (fun b o _ ho _ => (hg.block b (Array.getElem?_eq_some_iff.1 ho).1 (fun e => by cases e)).trans ho), fun b hb h9 => h.nrow b hb (hx _ h9), h.lo, h.at_, h.at2⟩
theorem It.alloc (h : It X w J B gs base S pre seen st v W) (ha : Abides X B J) (o : Obj) : It X w J B gs base S pre seen st v (W.alloc o) := h.grow ha (World.grownBy_alloc W o none)
theorem It.drewN (h : It X w J B gs base S pre seen st v W) (ha : Abides X B J) (m : Nat) : It X w J B gs base S pre seen st v (W.drewN m) := h.grow ha (grownBy_drewN W m)
theorem It.drew (h : It X w J B gs base S pre seen st v W) (ha : Abides X B J) : It X w J B gs base S pre seen st v W.drew := h.grow ha ⟨rfl, rfl, rfl, Nat.le_refl _, fun _ _ _ => rfl⟩
theorem It.gfar (h : It X w J B gs base S pre seen st v W) : v.ownBlock ≠ some gs := fun e => by have := (h.own.lt gs e).1; have := h.at2; omega
theorem It.mark (h : It X w J B gs base S pre seen st v W) (ha : Abides X B J) (j : Nat) : It X w J B gs base S pre (seen.set j true) st v (W.setCell ⟨gs, j, none⟩ (.bool true)) := by
  have hg := grownBy_setCell W gs j (.bool true)
  obtain ⟨hj, hx⟩ := ha pre W _ _ h.j hg (fun r e => by cases e; exact ⟨h.at_, h.nx⟩)
  refine ⟨hj, h.keep.of_grown hg hx (fun r e => by cases e; exact Nat.le_trans h.lo h.at_), fun h9 => h.nx (hx _ h9), ?_, own_move h.own (fun b o hb ho _ => (hg.block b (Array.getElem?_eq_some_iff.1 ho).1 (fun e => ?_)).trans ho), fun b hb h9 => h.nrow b hb (hx _ h9), h.lo, h.at_, h.at2⟩
  · have := h.blk.set j (.bool true)
    rw [List.map_set]; exact this
  · cases e; exact h.gfar hb
theorem It.app (h : It X w J B gs base S pre seen st v W) (ha : Abides X B J) (hxl : ∀ pre W, J pre W → ∀ r, X W r → r < W.heap.size) {g cap : Nat} {x : Int}
    (hown : W'.ownsRow base 3 1 (.slice (some ⟨g, 0, none⟩) (st.length + 1) cap) (st.length + 1) (numsV .i64 st ++ [.int .i64 x])) (hg : W.grownBy W' v.ownBlock) (hat : v.ownBlock = some g ∨ g = W.heap.size) :
    It X w J B gs base S pre seen (st ++ [x]) (.slice (some ⟨g, 0, none⟩) (st.length + 1) cap) W' := by
  obtain ⟨hj, hx⟩ := ha pre W _ _ h.j hg (fun r e => ⟨by have := (h.own.lt r e).1; have := h.at_; have := h.at2; omega, h.nrow r e⟩)
  refine ⟨hj, h.keep.of_grown hg hx (fun r e => by have := (h.own.lt r e).1; have := h.at_; have := h.at2; have := h.lo; omega), fun h9 => h.nx (hx _ h9), h.blk.same (hg.block _ h.lt (fun e => h.gfar e.symm)), ?_, fun b hb h9 => ?_, h.lo, h.at_, h.at2⟩
  · rw [List.length_append, numsV_snoc]; exact hown
  · obtain rfl : g = b := by simpa [Value.ownBlock] using hb
    rcases hat with hat | hat
    · exact h.nrow g hat (hx _ h9)
    · have := hxl _ _ h.j _ (hx _ h9)
      omega
theorem own_pop {base c n : Nat} {A : Option Addr} {xs : List Value} {x : Value} (h : W.ownsRow base 3 1 (.slice A (n + 1) c) (n + 1) (xs ++ [x])) (hl : xs.length = n) : W.ownsRow base 3 1 (.slice A n c) n xs := by
  rcases h.2 with ⟨_, h'⟩ | ⟨g', cap', cur, h', hb, hg, hnc, hcm, hcs, htake⟩
  · omega
  · simp only [Value.slice.injEq] at h'
    obtain ⟨rfl, _, rfl⟩ := h'
    refine ⟨by omega, .inr ⟨g', c, cur, rfl, hb, hg, by omega, hcm, hcs, ?_⟩⟩
    have h9 := congrArg (List.take n) htake
    rw [List.take_take, List.take_left' hl] at h9
    rw [← h9]
    congr 1
    omega
theorem It.pop {x : Int} {A : Option Addr} {c : Nat} (h : It X w J B gs base S pre seen (st ++ [x]) (.slice A (st.length + 1) c) W) : It X w J B gs base S pre seen st (.slice A st.length c) W := by
  refine ⟨h.j, h.keep, h.nx, h.blk, own_pop (x := .int .i64 x) ?_ (by simp [numsV]), fun b hb => h.nrow b ?_, h.lo, h.at_, h.at2⟩
  · have := h.own
    rw [numsV_snoc, List.length_append] at this
    exact this
  · cases A with
    | none => simp [Value.ownBlock] at hb
    | some a => simpa [Value.ownBlock] using hb
theorem It.round {x : Int} (h : It X w J B gs base S pre seen st v W) (hj : J (pre ++ [x]) W') (hk : Keep X W W') : It X w J B gs base S (pre ++ [x]) seen st v W' :=
  ⟨hj, h.keep.trans hk, fun h9 => h.nx (hk.mine _ h.lt h9), hk.same _ _ h.blk rfl h.nx, own_move h.own (fun b o hb ho hc => hk.same b o ho hc (h.nrow b hb)), fun b hb h9 => h.nrow b hb (hk.mine b (h.own.lt b hb).2 h9), h.lo, h.at_, h.at2⟩
theorem It.cell (h : It X w J B gs base S pre seen st v W) {j : Nat} (hj : j < seen.length) : W.cell? ⟨gs, j, none⟩ = some (.bool (seen.getD j false)) := by
  rw [h.blk.cell]
  simp [hj]
end
end Go.Proofs.Ytfjhcoeehjephaa
