/- Boxes of 256 bytes: loads and stores, shut. -/
import Derived.Test.YthjnkpoalbddkaaRReach
import Derived.Laws.Tables
import Derived.Deep.MidRow
import Derived.Laws.CopyOwn
import Derived.Laws.ResultCell
namespace Go.Proofs.Ythjnkpoalbddkaa
open Go.RowKit

theorem zeros51 : Try.zeroCells51 = (List.replicate 256 (Value.int .u8 0)).toArray := by kernel_rfl
theorem info51 : (Try.prog.info? 51).map (·.size) = some 256 := by kernel_rfl
def loadBox (v : Value) : Sem Value := Instr.loadAt 51 v
theorem load_box (v : Value) : Instr.loadAt 51 v = loadBox v := rfl
def storeBox (p v : Value) : Sem Unit := Instr.storeAt 51 p v
theorem store_box (p v : Value) : Instr.storeAt 51 p v = storeBox p v := rfl
theorem load51 {W : World} {g : Nat} {cs : Array Value} (h : Blk W g 51 cs.toList) (hl : cs.size = 256) : (loadBox (.pointer (some ⟨g, 0, none⟩))).run Try.prog W = .ok (.agg cs) W := by
  have hr : W.rangeAt g 0 cs.toList := fun j v hv => by rw [h.cell]; simpa using hv
  have := run_loadAt_mid W g 0 51 cs.toList _ hr Try.underlying51 rfl (by rw [Array.length_toList, hl]; exact info51)
  unfold loadBox
  rw [this]
theorem Blk.row {W : World} {g : Nat} {t : TypeId} {cs : List Value} (h : Blk W g t cs) (ds : Array Value) : Blk (W.setRow g ds) g t ds.toList := setRow_heap W g _ _ t _ h
theorem Blk.row_other {W : World} {g g' : Nat} {t : TypeId} {cs : List Value} (h : Blk W g t cs) (ds : Array Value) (hg : g ≠ g') : Blk (W.setRow g' ds) g t cs := (setRow_other W g' g ds hg).trans h
theorem store51 {W : World} {g : Nat} {cs : List Value} (h : Blk W g 51 cs) (hl : cs.length = 256) (ds : Array Value) (hd : ds.size = 256) (h1 : ds.all (·.oneCell') = true) : (storeBox (.pointer (some ⟨g, 0, none⟩)) (.agg ds)).run Try.prog W = .ok () (W.setRow g ds) := by
  simp only [storeBox, Instr.storeAt, Instr.sureAddr, Sem.run_bind, Sem.run_pure, Result.andThen_ok]
  exact run_storeVar_row W g 51 51 _ ds h (by rw [hd]; exact info51) (by simp [hl, hd]) h1
attribute [local go_sem ↓] load_box store_box
/-- the world of a walk with a machine's box, the result's box, and the box of an array -/
structure LB (w : World) (A0 A1 A2 A3 : Option Addr) (n0 n1 n2 n3 c0 c1 c2 c3 : Nat) (m : Mach) (W : World) (cs : List Value) : Prop where
  bel : Below w.heap.size w W
  lt : w.heap.size + 1 + 1 < W.heap.size
  q0 : W.cell? ⟨w.heap.size, 0, none⟩ = some (.slice A0 n0 c0)
  q1 : W.cell? ⟨w.heap.size, 1, none⟩ = some (.slice A1 n1 c1)
  q2 : W.cell? ⟨w.heap.size, 2, none⟩ = some (.slice A2 n2 c2)
  q3 : W.cell? ⟨w.heap.size, 3, none⟩ = some (.slice A3 n3 c3)
  r : Blk W (w.heap.size + 1) 51 (tab m 0)
  o : Blk W (w.heap.size + 1 + 1) 51 cs
  cl : cs.length = 256
theorem tab_one (m : Mach) (c : Nat) : (tab m c).toArray.all (·.oneCell') = true := by
  rw [Array.all_eq_true_iff_forall_mem]
  intro x hx
  simp only [tab, List.mem_toArray, List.mem_map] at hx
  obtain ⟨b, _, rfl⟩ := hx
  rfl
section
variable {w W W' : World} {A0 A1 A2 A3 : Option Addr} {n0 n1 n2 n3 c0 c1 c2 c3 : Nat} {m : Mach} {cs : List Value}
/-- what lies below a bound that lies behind all boxes is kept -/
theorem LB.goB (h : LB w A0 A1 A2 A3 n0 n1 n2 n3 c0 c1 c2 c3 m W cs) {B : Nat} (hB : w.heap.size + 1 + 1 < B) (hb : Below B W W') : LB w A0 A1 A2 A3 n0 n1 n2 n3 c0 c1 c2 c3 m W' cs :=
  have hl : w.heap.size < B := by omega
  ⟨h.bel.trans (hb.mono (by omega)), Nat.lt_of_lt_of_le h.lt hb.size, (hb.cell (p := ⟨w.heap.size, 0, none⟩) hl).trans h.q0, (hb.cell (p := ⟨w.heap.size, 1, none⟩) hl).trans h.q1,
    (hb.cell (p := ⟨w.heap.size, 2, none⟩) hl).trans h.q2, (hb.cell (p := ⟨w.heap.size, 3, none⟩) hl).trans h.q3, (hb.block _ (by omega)).trans h.r, (hb.block _ hB).trans h.o, h.cl⟩
theorem LB.go (h : LB w A0 A1 A2 A3 n0 n1 n2 n3 c0 c1 c2 c3 m W cs) (hb : Below W.heap.size W W') : LB w A0 A1 A2 A3 n0 n1 n2 n3 c0 c1 c2 c3 m W' cs := h.goB h.lt hb
theorem LB.start (w : World) (A0 A1 A2 A3 : Option Addr) (n0 n1 n2 n3 c0 c1 c2 c3 : Nat) (m : Mach) : LB w A0 A1 A2 A3 n0 n1 n2 n3 c0 c1 c2 c3 m (((w.alloc (.cells #[.slice A0 n0 c0, .slice A1 n1 c1, .slice A2 n2 c2, .slice A3 n3 c3] 42)).alloc (.cells Try.zeroCells51 51)).alloc (.cells Try.zeroCells51 51)) (tab m 0) := by
  have hz : Try.zeroCells51 = (tab m 0).toArray := by rw [tab_zero]; exact zeros51
  have hb : ∀ W : World, W.heap.size = w.heap.size + 1 → Blk (W.alloc (.cells Try.zeroCells51 51)) (w.heap.size + 1) 51 (tab m 0) := fun W hW => by rw [hz, ← hW]; exact Blk.new _ _ _
  refine ⟨(((Below.refl _ _).alloc (Nat.le_refl _) _).alloc (by simp) _).alloc (by simp; omega) _, by simp, cell_al (cell_al (by simp) _) _, cell_al (cell_al (by simp) _) _, cell_al (cell_al (by simp) _) _, cell_al (cell_al (by simp) _) _, (hb _ (by simp)).alloc _, ?_, tab_len m 0⟩
  have h2 : w.heap.size + 1 + 1 = ((w.alloc (.cells #[.slice A0 n0 c0, .slice A1 n1 c1, .slice A2 n2 c2, .slice A3 n3 c3] 42)).alloc (.cells Try.zeroCells51 51)).heap.size := by simp
  rw [h2, hz]
  exact Blk.new _ _ _
theorem LB.set (h : LB w A0 A1 A2 A3 n0 n1 n2 n3 c0 c1 c2 c3 m W cs) (k : Nat) (v : Value) : LB w A0 A1 A2 A3 n0 n1 n2 n3 c0 c1 c2 c3 m (W.setCell ⟨w.heap.size + 1 + 1, k, none⟩ v) (cs.set k v) := by
  have hb : Below (w.heap.size + 1 + 1) W (W.setCell ⟨w.heap.size + 1 + 1, k, none⟩ v) := (Below.refl _ _).setCell (p := ⟨w.heap.size + 1 + 1, k, none⟩) (Nat.le_refl _) _
  have hl : w.heap.size < w.heap.size + 1 + 1 := by omega
  exact ⟨h.bel.trans (hb.mono (by omega)), Nat.lt_of_lt_of_le h.lt hb.size, (hb.cell (p := ⟨w.heap.size, 0, none⟩) hl).trans h.q0, (hb.cell (p := ⟨w.heap.size, 1, none⟩) hl).trans h.q1,
    (hb.cell (p := ⟨w.heap.size, 2, none⟩) hl).trans h.q2, (hb.cell (p := ⟨w.heap.size, 3, none⟩) hl).trans h.q3, (hb.block _ (by omega)).trans h.r, h.o.set k v, by simp [h.cl]⟩
theorem LB.load (h : LB w A0 A1 A2 A3 n0 n1 n2 n3 c0 c1 c2 c3 m W cs) : (loadBox (.pointer (some ⟨w.heap.size + 1 + 1, 0, none⟩))).run Try.prog W = .ok (.agg cs.toArray) W := load51 (cs := cs.toArray) h.o (by simp [h.cl])
theorem LB.store (h : LB w A0 A1 A2 A3 n0 n1 n2 n3 c0 c1 c2 c3 m W cs) (c : Nat) : (storeBox (.pointer (some ⟨w.heap.size + 1, 0, none⟩)) (.agg (tab m c).toArray)).run Try.prog W = .ok () (W.setRow (w.heap.size + 1) (tab m c).toArray) :=
  store51 h.r (tab_len m 0) _ (by simp [tab_len]) (tab_one m c)
theorem LB.out (h : LB w A0 A1 A2 A3 n0 n1 n2 n3 c0 c1 c2 c3 m W cs) (ds : Array Value) : Below w.heap.size w (W.setRow (w.heap.size + 1) ds) := below_setRow h.bel (by omega) _
theorem LB.res (h : LB w A0 A1 A2 A3 n0 n1 n2 n3 c0 c1 c2 c3 m W cs) (ds : Array Value) : Blk (W.setRow (w.heap.size + 1) ds) (w.heap.size + 1) 51 ds.toList := h.r.row ds
end
/-- the store of zeros into the box of the array, that holds zeros -/
theorem store_zero {w W : World} {A0 A1 A2 A3 : Option Addr} {n0 n1 n2 n3 c0 c1 c2 c3 : Nat} {m : Mach} (h : LB w A0 A1 A2 A3 n0 n1 n2 n3 c0 c1 c2 c3 m W (tab m 0)) : ∃ W', (storeBox (.pointer (some ⟨w.heap.size + 1 + 1, 0, none⟩)) (.agg Try.zeroCells51)).run Try.prog W = .ok () W' ∧ LB w A0 A1 A2 A3 n0 n1 n2 n3 c0 c1 c2 c3 m W' (tab m 0) := by
  have hz : Try.zeroCells51 = (tab m 0).toArray := by rw [tab_zero]; exact zeros51
  rw [hz]
  refine ⟨_, store51 h.o (tab_len m 0) _ (by simp [tab_len]) (tab_one m 0), ?_⟩
  have hb : Below (w.heap.size + 1 + 1) W (W.setRow (w.heap.size + 1 + 1) (tab m 0).toArray) := below_setRow (Below.refl _ _) (Nat.le_refl _) _
  have hl : w.heap.size < w.heap.size + 1 + 1 := by omega
  exact ⟨h.bel.trans (hb.mono (by omega)), Nat.lt_of_lt_of_le h.lt hb.size, (hb.cell (p := ⟨w.heap.size, 0, none⟩) hl).trans h.q0, (hb.cell (p := ⟨w.heap.size, 1, none⟩) hl).trans h.q1,
    (hb.cell (p := ⟨w.heap.size, 2, none⟩) hl).trans h.q2, (hb.cell (p := ⟨w.heap.size, 3, none⟩) hl).trans h.q3, (hb.block _ (by omega)).trans h.r, h.o.row _, tab_len m 0⟩
/-- a return of an array out of its box, and of a bool -/
theorem res51 {fn : Func} (h : fn.results = #[.cell 2 51, .tmp 3]) {tmps : Array Value} {W : World} {g : Nat} {cs : List Value} {b : Value} (hp : tmps.getD 2 undef = .pointer (some ⟨g, 0, none⟩)) (hb : tmps.getD 3 undef = b) (hB : Blk W g 51 cs) (hl : cs.length = 256) : (results fn tmps).run Try.prog W = .ok (.tuple #[.agg cs.toArray, b]) W := by
  rw [results_cell_tmp h, hp, hb]
  simp only [asAddr, Sem.run_pure, Result.andThen_ok]
  rw [run_loadVar_row W g 51 51 cs.toArray (0, 0) _ hB Try.underlying51 rfl (by rw [List.size_toArray, hl]; exact info51)]
  rfl
set_option maxRecDepth 100000 in
set_option maxHeartbeats 8000000 in
theorem tbytes_no (A0 A1 A2 A3 : Option Addr) (n0 n1 n2 n3 c0 c1 c2 c3 : Nat) (m : Mach) (RA : Nat → Option Addr) (rc : Nat → Nat) (PA : Nat → Option Addr) (pc : Nat → Nat) (w : World) (h : MachIn w A0 A1 A2 A3 n0 n1 n2 n3 m RA rc PA pc) (hr : rightM m = false) :
    Calls Try.prog 29 #[.agg #[.slice A0 n0 c0, .slice A1 n1 c1, .slice A2 n2 c2, .slice A3 n3 c3]] w fun e w' => e = .returned (.tuple #[.agg (tab m 0).toArray, .bool false]) ∧ Below w.heap.size w w' := by
  have L0 := Lib.hid (LB.start w A0 A1 A2 A3 n0 n1 n2 n3 c0 c1 c2 c3 m)
  have HR := Lib.hid (tright_any A0 A1 A2 A3 n0 n1 n2 n3 c0 c1 c2 c3 m RA rc PA pc _ (h.keep L0.out.bel))
  rw [hr] at HR
  clear h hr
  go_enter Try.func29, Try.ntmps29
  go_wp2_with fail
  refine HR.out.mono ?_
  rintro e w1 ⟨rfl, hb1⟩
  have L1 := Lib.hid (L0.out.go hb1)
  have hld := L1.out.load
  have hst := L1.out.store 0
  clear hb1 L0 HR
  go_wp2_with fail
  (try simp only [Exit.inBlock, Exit.then])
  refine bodyPost_ret (res51 rfl rfl rfl (L1.out.res _) (tab_len m 0)) rfl ?_
  exact ⟨by first | rfl | simp, L1.out.out _⟩
end Go.Proofs.Ythjnkpoalbddkaa
