/- A maker in memory: rows more, an end more. -/
import Derived.Test.YthjnkpoalbddkaaMPMemY
import Derived.Test.YthjnkpoalbddkaaStepY
namespace Go.Proofs.Ythjnkpoalbddkaa.MP
open Go.RowKit Go.Maps Go.WideMaps
/-- two rows that grow, while two appends and two stores go on -/
structure RwIn (W wr : World) (B bk : Nat) (vn vp : Value) (rest : List Value) (c0 c1 v0 : Value) (n0 : Nat) (x0 : List Value) (v1 : Value) (n1 : Nat) (x1 : List Value) : Prop where
  but : But (fun k => k = bk ∨ vn.ownBlock = some k ∨ vp.ownBlock = some k) W wr
  box : Blk wr bk 106 (c0 :: c1 :: rest)
  o0 : wr.ownsRow B 39 1 v0 n0 x0
  o1 : wr.ownsRow B 39 1 v1 n1 x1
  ne : ∀ k, v0.ownBlock = some k → v1.ownBlock ≠ some k
  a0 : ∀ k, v0.ownBlock = some k → vn.ownBlock = some k ∨ W.heap.size ≤ k
  a1 : ∀ k, v1.ownBlock = some k → vp.ownBlock = some k ∨ W.heap.size ≤ k
section
variable {W wr W' : World} {B bk : Nat} {m : Mk St} {vn vp ve vt va : Value} {gno gtx : Nat} {D1 D2 : DataW Unit} {RN RP : Nat → Nat} {rest : List Value} {c0 c1 v0 v1 : Value} {n0 n1 : Nat} {x0 x1 : List Value}
theorem MkIn.rw (h : MkIn W B bk m vn vp ve vt va gno gtx D1 D2 RN RP) : RwIn W W B bk vn vp [ve, vt, .map (some gno), va, .map (some gtx), .bool m.bad] vn vp vn m.next.length (slV RN m.next.length) vp m.put.length (slV RP m.put.length) :=
  ⟨But.refl _ _, h.box, h.nx.own, h.pt.own, h.dnp, fun _ e => .inl e, fun _ e => .inl e⟩
theorem RwIn.go (h : RwIn W wr B bk vn vp rest c0 c1 v0 n0 x0 v1 n1 x1) (hw : Below wr.heap.size wr W') : RwIn W W' B bk vn vp rest c0 c1 v0 n0 x0 v1 n1 x1 := by
  have hb := But.of_below hw
  have e : ∀ k, k < wr.heap.size → ¬ wr.heap.size ≤ k := fun k hk => by omega
  exact ⟨h.but.trans hb (fun k hk e9 => by have := h.but.size; omega), hb.blk h.box (e _ h.box.lt), hb.own h.o0 (fun k hk => e _ (h.o0.lt k hk).2), hb.own h.o1 (fun k hk => e _ (h.o1.lt k hk).2), h.ne, h.a0, h.a1⟩
theorem RwIn.alloc (h : RwIn W wr B bk vn vp rest c0 c1 v0 n0 x0 v1 n1 x1) (o : Obj) : RwIn W (wr.alloc o) B bk vn vp rest c0 c1 v0 n0 x0 v1 n1 x1 := h.go ((Below.refl _ _).alloc (Nat.le_refl _) _)
theorem RwIn.drew (h : RwIn W wr B bk vn vp rest c0 c1 v0 n0 x0 v1 n1 x1) : RwIn W wr.drew B bk vn vp rest c0 c1 v0 n0 x0 v1 n1 x1 := h.go ((Below.refl _ _).drew)
theorem RwIn.app0 (h : RwIn W wr B bk vn vp rest c0 c1 v0 n0 x0 v1 n1 x1) {v' : Value} {n' : Nat} {x' : List Value} {g H : Nat} (hg : wr.grownBy W' v0.ownBlock) (ho : W'.ownsRow B 39 1 v' n' x') (hv : v'.ownBlock = some g) (hat : v0.ownBlock = some g ∨ g = H) (hH : wr.heap.size = H) :
    RwIn W W' B bk vn vp rest c0 c1 v' n' x' v1 n1 x1 := by
  have hb := But.of_grown hg
  have hsz := h.but.size
  refine ⟨h.but.trans hb (fun k hk e => ?_), hb.blk h.box (fun e => blk_own_ne h.box h.o0 (by decide) e), ho, hb.own h.o1 (fun k hk e => h.ne k e hk), fun k hk e => ?_, fun k hk => ?_, h.a1⟩
  · rcases h.a0 k e with e9 | e9
    · exact .inr (.inl e9)
    · omega
  · rw [hv] at hk
    injection hk with hk
    subst hk
    rcases hat with e9 | e9
    · exact h.ne _ e9 e
    · have := (h.o1.lt _ e).2; omega
  · rw [hv] at hk
    injection hk with hk
    subst hk
    rcases hat with e9 | e9
    · exact h.a0 _ e9
    · exact .inr (by omega)
theorem RwIn.app1 (h : RwIn W wr B bk vn vp rest c0 c1 v0 n0 x0 v1 n1 x1) {v' : Value} {n' : Nat} {x' : List Value} {g H : Nat} (hg : wr.grownBy W' v1.ownBlock) (ho : W'.ownsRow B 39 1 v' n' x') (hv : v'.ownBlock = some g) (hat : v1.ownBlock = some g ∨ g = H) (hH : wr.heap.size = H) :
    RwIn W W' B bk vn vp rest c0 c1 v0 n0 x0 v' n' x' := by
  have hb := But.of_grown hg
  have hsz := h.but.size
  refine ⟨h.but.trans hb (fun k hk e => ?_), hb.blk h.box (fun e => blk_own_ne h.box h.o1 (by decide) e), hb.own h.o0 (fun k hk e => h.ne k hk e), ho, fun k hk e => ?_, h.a0, fun k hk => ?_⟩
  · rcases h.a1 k e with e9 | e9
    · exact .inr (.inr e9)
    · omega
  · rw [hv] at e
    injection e with e
    subst e
    rcases hat with e9 | e9
    · exact h.ne _ hk e9
    · have := (h.o0.lt _ hk).2; omega
  · rw [hv] at hk
    injection hk with hk
    subst hk
    rcases hat with e9 | e9
    · exact h.a1 _ e9
    · exact .inr (by omega)
theorem RwIn.put (h : RwIn W wr B bk vn vp rest c0 c1 v0 n0 x0 v1 n1 x1) (j : Nat) (v : Value) {d0 d1 : Value} (hd : (c0 :: c1 :: rest).set j v = d0 :: d1 :: rest) : RwIn W (wr.setCell ⟨bk, j, none⟩ v) B bk vn vp rest d0 d1 v0 n0 x0 v1 n1 x1 := by
  have hb := But.of_grown (grownBy_setCell wr bk j v)
  have e : ∀ k, some bk = some k → k = bk := fun k e => by injection e with e; exact e.symm
  refine ⟨h.but.trans hb (fun k hk e9 => .inl (e k e9)), hd ▸ h.box.set j v, hb.own h.o0 (fun k hk e9 => ?_), hb.own h.o1 (fun k hk e9 => ?_), h.ne, h.a0, h.a1⟩
  · exact blk_own_ne h.box h.o0 (by decide) (by rw [hk, e k e9])
  · exact blk_own_ne h.box h.o1 (by decide) (by rw [hk, e k e9])
theorem RwIn.put0 (h : RwIn W wr B bk vn vp rest c0 c1 v0 n0 x0 v1 n1 x1) (v : Value) : RwIn W (wr.setCell ⟨bk, 0, none⟩ v) B bk vn vp rest v c1 v0 n0 x0 v1 n1 x1 := h.put 0 v rfl
theorem RwIn.put1 (h : RwIn W wr B bk vn vp rest c0 c1 v0 n0 x0 v1 n1 x1) (v : Value) : RwIn W (wr.setCell ⟨bk, 1, none⟩ v) B bk vn vp rest c0 v v0 n0 x0 v1 n1 x1 := h.put 1 v rfl
/-- both rows are in -/
theorem MkIn.rowed (h : MkIn W B bk m vn vp ve vt va gno gtx D1 D2 RN RP) {v0 v1 : Value} {gx gp : Nat} {nx pt : List Int} (hnp : m.put.length = m.next.length)
    (hr : RwIn W wr B bk vn vp [ve, vt, .map (some gno), va, .map (some gtx), .bool m.bad] v0 v1 v0 (m.next.length + 1) (slV RN m.next.length ++ [.slice (some ⟨gx, 0, none⟩) 256 256]) v1 (m.put.length + 1) (slV RP m.put.length ++ [.slice (some ⟨gp, 0, none⟩) 256 256]))
    (hx : Blk W gx 3 (numsV .i64 nx)) (hp : Blk W gp 3 (numsV .i64 pt)) (lx : nx.length = 256) (lp : pt.length = 256) (bx : B ≤ gx) (bp : B ≤ gp) (ex : ve.ownBlock ≠ some gx) (ep : ve.ownBlock ≠ some gp) :
    MkIn wr B bk (m.rowed nx pt) v0 v1 ve vt va gno gtx D1 D2 (fun i => if i = m.next.length then gx else RN i) (fun i => if i = m.next.length then gp else RP i) := by
  have hn : ∀ {g : Nat} {t : TypeId} {cur : List Value}, Blk W g t cur → t ≠ 106 → t ≠ 39 → ¬ (g = bk ∨ vn.ownBlock = some g ∨ vp.ownBlock = some g) := fun hb h1 h2 e => by
    rcases e with e | e | e
    · exact blk_ne hb h.box h1 e
    · exact blk_own_ne hb h.nx.own h2 e
    · exact blk_own_ne hb h.pt.own h2 e
  have hno : ∀ {v : Value} {base size n : Nat} {e : TypeId} {xs : List Value}, W.ownsRow base e size v n xs → e ≠ 106 → e ≠ 39 → ∀ k, v.ownBlock = some k → ¬ (k = bk ∨ vn.ownBlock = some k ∨ vp.ownBlock = some k) := fun ho h1 h2 k hk e => by
    rcases e with e | e | e
    · exact blk_own_ne h.box ho (Ne.symm h1) (by rw [hk, e])
    · exact own_own_ne ho h.nx.own h2 k hk e
    · exact own_own_ne ho h.pt.own h2 k hk e
  have hmp : ∀ {kt : TypeId} {R : Value → Option (DataW Unit × List MemPlace)} {g k : Nat} {D : DataW Unit}, W.ownsMap Try.prog kt R g k D → ¬ (g = bk ∨ vn.ownBlock = some g ∨ vp.ownBlock = some g) := fun hm e => by
    rcases e with e | e | e
    · exact map_blk_ne hm h.box e
    · exact map_own_ne hm h.nx.own e
    · exact map_own_ne hm h.pt.own e
  have hb := hr.but
  have ln : (m.rowed nx pt).next.length = m.next.length + 1 := by simp [Mk.rowed]
  have lq : (m.rowed nx pt).put.length = m.put.length + 1 := by simp [Mk.rowed]
  have hsl : ∀ (R : Nat → Nat) (g n : Nat), slV (fun i => if i = n then g else R i) (n + 1) = slV R n ++ [.slice (some ⟨g, 0, none⟩) 256 256] := fun R g n => by
    unfold slV
    rw [List.range_succ, List.map_append]
    congr 1
    · apply List.map_congr_left
      intro i hi
      have := List.mem_range.1 hi
      simp only [show ¬ i = n by omega, if_false]
    · simp
  refine ⟨Nat.le_trans h.hB hb.size, h.hbk, h.hno, h.htx, hr.box, ⟨?_, ?_, ?_⟩, ⟨?_, ?_, ?_⟩, hb.own h.oe (hno h.oe (by decide) (by decide)), hb.own h.ot (hno h.ot (by decide) (by decide)), hb.own h.oa (hno h.oa (by decide) (by decide)), hb.maps h.no (hmp h.no), h.kno, hb.maps h.tx (hmp h.tx), h.ktx, h.dm, hr.ne, h.dat⟩
  · rw [ln, hsl]; exact hr.o0
  · intro i hi
    show ((m.next ++ [nx]).getD i []).length = 256
    by_cases e : i < m.next.length
    · rw [getD_pre e]; exact h.nx.len i e
    · rw [getD_end (by omega)]; exact lx
  · intro i hi
    show B ≤ (if i = m.next.length then gx else RN i) ∧ Blk wr (if i = m.next.length then gx else RN i) 3 (numsV .i64 ((m.next ++ [nx]).getD i [])) ∧ ve.ownBlock ≠ some (if i = m.next.length then gx else RN i)
    by_cases e : i < m.next.length
    · rw [getD_pre e, if_neg (by omega)]
      have h9 := h.nx.blk i e
      exact ⟨h9.1, hb.blk h9.2.1 (hn h9.2.1 (by decide) (by decide)), h9.2.2⟩
    · have e2 : i = m.next.length := by omega
      rw [getD_end (by omega), if_pos e2]
      exact ⟨bx, hb.blk hx (hn hx (by decide) (by decide)), ex⟩
  · rw [lq]; simp only [← hnp]; rw [hsl]; exact hr.o1
  · intro i hi
    show ((m.put ++ [pt]).getD i []).length = 256
    by_cases e : i < m.put.length
    · rw [getD_pre e]; exact h.pt.len i e
    · rw [getD_end (by omega)]; exact lp
  · intro i hi
    show B ≤ (if i = m.next.length then gp else RP i) ∧ Blk wr (if i = m.next.length then gp else RP i) 3 (numsV .i64 ((m.put ++ [pt]).getD i [])) ∧ ve.ownBlock ≠ some (if i = m.next.length then gp else RP i)
    by_cases e : i < m.put.length
    · rw [getD_pre e, if_neg (by omega)]
      have h9 := h.pt.blk i e
      exact ⟨h9.1, hb.blk h9.2.1 (hn h9.2.1 (by decide) (by decide)), h9.2.2⟩
    · have e2 : i = m.next.length := by omega
      rw [getD_end (by omega), if_pos e2]
      exact ⟨bp, hb.blk hp (hn hp (by decide) (by decide)), ep⟩
/-- an end is in -/
theorem MkIn.ended (h : MkIn W B bk m vn vp ve vt va gno gtx D1 D2 RN RP) {ve' : Value} {e : Int} (hb : But (fun k => k = bk ∨ ve.ownBlock = some k) W W')
    (hbx : Blk W' bk 106 [vn, vp, ve', vt, .map (some gno), va, .map (some gtx), .bool m.bad]) (ho : W'.ownsRow B 3 1 ve' (m.ends.length + 1) (numsV .i64 m.ends ++ [.int .i64 e])) (hv : ∀ k, ve'.ownBlock = some k → ve.ownBlock = some k ∨ W.heap.size ≤ k) :
    MkIn W' B bk (m.ended e) vn vp ve' vt va gno gtx D1 D2 RN RP := by
  have hno : ∀ {v : Value} {base size n : Nat} {e : TypeId} {xs : List Value}, W.ownsRow base e size v n xs → e ≠ 106 → e ≠ 3 → ∀ k, v.ownBlock = some k → ¬ (k = bk ∨ ve.ownBlock = some k) := fun ho h1 h2 k hk e => by
    rcases e with e | e
    · exact blk_own_ne h.box ho (Ne.symm h1) (by rw [hk, e])
    · exact own_own_ne ho h.oe h2 k hk e
  have hmp : ∀ {kt : TypeId} {R : Value → Option (DataW Unit × List MemPlace)} {g k : Nat} {D : DataW Unit}, W.ownsMap Try.prog kt R g k D → ¬ (g = bk ∨ ve.ownBlock = some g) := fun hm e => by
    rcases e with e | e
    · exact map_blk_ne hm h.box e
    · exact map_own_ne hm h.oe e
  have hrow : ∀ {v : Value} {rows : List (List Int)} {R : Nat → Nat}, RowsM W B v ve rows R → RowsM W' B v ve' rows R := fun hr => by
    refine ⟨hb.own hr.own (hno hr.own (by decide) (by decide)), hr.len, fun i hi => ?_⟩
    have h9 := hr.blk i hi
    refine ⟨h9.1, hb.blk h9.2.1 (fun e => ?_), fun e => ?_⟩
    · rcases e with e | e
      · exact blk_ne h9.2.1 h.box (by decide) e
      · exact h9.2.2 e
    · rcases hv _ e with e | e
      · exact h9.2.2 e
      · have := h9.2.1.lt; omega
  refine ⟨Nat.le_trans h.hB hb.size, h.hbk, h.hno, h.htx, hbx, hrow h.nx, hrow h.pt, ?_, hb.own h.ot (hno h.ot (by decide) (by decide)), hb.own h.oa (hno h.oa (by decide) (by decide)), hb.maps h.no (hmp h.no), h.kno, hb.maps h.tx (hmp h.tx), h.ktx, h.dm, h.dnp, h.dat⟩
  show W'.ownsRow B 3 1 ve' (m.ends ++ [e]).length (numsV .i64 (m.ends ++ [e]))
  rw [numsV_snoc, List.length_append, List.length_singleton]
  exact ho
/-- a block of numbers that is no part of the maker changes -/
theorem MkIn.cur (h : MkIn W B bk m vn vp ve vt va gno gtx D1 D2 RN RP) {g : Nat} {cur : List Value} (hg : Blk W g 3 cur) (hb : But (fun k => k = g) W W') (h0 : ve.ownBlock ≠ some g) (h1 : ∀ i, i < m.next.length → RN i ≠ g) (h2 : ∀ i, i < m.put.length → RP i ≠ g) :
    MkIn W' B bk m vn vp ve vt va gno gtx D1 D2 RN RP := by
  have hno : ∀ {v : Value} {base size n : Nat} {e : TypeId} {xs : List Value}, W.ownsRow base e size v n xs → e ≠ 3 → ∀ k, v.ownBlock = some k → ¬ k = g := fun ho h1 k hk e => blk_own_ne hg ho (Ne.symm h1) (by rw [hk, e])
  exact ⟨Nat.le_trans h.hB hb.size, h.hbk, h.hno, h.htx, hb.blk h.box (fun e => blk_ne hg h.box (by decide) e.symm), h.nx.but hb (hno h.nx.own (by decide)) h1, h.pt.but hb (hno h.pt.own (by decide)) h2,
    hb.own h.oe (fun k hk e => h0 (by rw [hk, e])), hb.own h.ot (hno h.ot (by decide)), hb.own h.oa (hno h.oa (by decide)), hb.maps h.no (map_blk_ne h.no hg), h.kno, hb.maps h.tx (map_blk_ne h.tx hg), h.ktx, h.dm, h.dnp, h.dat⟩
end
end Go.Proofs.Ythjnkpoalbddkaa.MP
