/- RD9, RSA of this seat, in one text. -/
import Derived.Test.YtgejpggbmgiocaaM25
import Derived.Test.YtgejpggbmgiocaaM29
import Derived.StillTailTactics
import Derived.Test.YtgejpggbmgiocaaM24
import Derived.Test.YtgejpggbmgiocaaM35
import Derived.Test.YtgejpggbmgiocaaM36
import Derived.Test.YtgejpggbmgiocaaM37
import Derived.Test.YtgejpggbmgiocaaM39
import Derived.Test.YtgejpggbmgiocaaM40
import Derived.Test.YtgejpggbmgiocaaM41
import Derived.Test.YtgejpggbmgiocaaM42
/- The reference's instructions: a look. -/
namespace Go.Proofs.Ytgejpggbmgiocaa
open Go.RowKit
attribute [local go_sem ↓] store_tab
theorem cell_ok {p : Prog} {s : St} {i : Ins} {cc : Nat} (h : cellF p s i = some cc) : 0 ≤ i.d ∧ i.d.toNat < p.tabs.length ∧ 1 ≤ (p.tabs.getD i.d.toNat noTbl).cols ∧ 0 ≤ s.reg i.a ∧ s.reg i.a < ((p.tabs.getD i.d.toNat noTbl).data.length : Int) / (p.tabs.getD i.d.toNat noTbl).cols ∧ 0 ≤ s.reg i.b ∧ s.reg i.b < (p.tabs.getD i.d.toNat noTbl).cols ∧ cc = (s.reg i.a * (p.tabs.getD i.d.toNat noTbl).cols + s.reg i.b).toNat := by
  unfold cellF at h
  split at h
  · cases h
  · simp only at h
    split at h
    · cases h
    · split at h
      · cases h
      · injection h with h
        refine ⟨by omega, by omega, by omega, by omega, by omega, by omega, by omega, h.symm⟩
theorem cell_in {ra rb co : Int} {nd : Nat} (h1 : 1 ≤ co) (h2 : 0 ≤ ra) (h3 : ra < (nd : Int) / co) (_ : 0 ≤ rb) (h5 : rb < co) : 0 ≤ ra * co ∧ ra * co ≤ (nd : Int) ∧ ra * co + rb < (nd : Int) := by
  have hd := Int.ediv_mul_le (nd : Int) (b := co) (by omega)
  have hm : (ra + 1) * co ≤ (nd : Int) / co * co := Int.mul_le_mul_of_nonneg_right (by omega) (by omega)
  have h0 : 0 ≤ ra * co := Int.mul_nonneg h2 (by omega)
  have he : (ra + 1) * co = ra * co + co := by rw [Int.add_mul, Int.one_mul]
  generalize ra * co = x at h0 he ⊢
  omega
set_option maxRecDepth 100000 in
set_option maxHeartbeats 4000000 in
theorem rdo_8 (B g gr gk : Nat) (w0 W : World) (prg : List Value) (room fuel : Int) (s : St) (vs vp vg vt : Value) (mg : List Int → Option (List Int)) (p : Prog) (i : Ins) (ho : i.op = 8) (hf : fitsF i = true) (h : RR B g gr gk w0 W prg room fuel s vs vp vg vt) (ht : TabsIn w0 B prg p.tabs) (cc : Nat) (hc : cellF p s i = some cc) :
    Calls Try.prog 35 #[.pointer (some ⟨g, 0, none⟩), insV i] W (ResR B g gr w0 prg room fuel (doF mg p room s i)) := by
  obtain ⟨op, a, b, c, d⟩ := i
  simp only at ho
  subst ho
  have hf2 : isReg b = true ∧ isReg a = true := by simpa [fitsF] using hf
  obtain ⟨kb, hkb, rfl⟩ := reg_nat hf2.1
  obtain ⟨ka, hka, rfl⟩ := reg_nat hf2.2
  clear hf2
  obtain ⟨g1, g2, g3, g4, g5, g6, g7, g8⟩ := cell_ok hc
  simp only at g1 g2 g3 g4 g5 g6 g7 g8
  obtain ⟨kd, rfl⟩ := Int.eq_ofNat_of_zero_le g1
  simp only [Int.toNat_natCast] at g2 g3 g4 g5 g6 g7 g8
  have H1 := Lib.hid (h.alloc (.cells #[.int .i64 8, .int .i64 (ka : Int), .int .i64 (kb : Int), .int .i64 c, .int .i64 (kd : Int)] 40))
  have hlt := h.lt
  have e9 : ({ s with regs := s.regs.set ka ((p.tabs.getD kd noTbl).data.getD cc 0) } : St) = (doF mg p room s ⟨8, (ka : Int), (kb : Int), c, (kd : Int)⟩).1 := by
    show _ = s.setReg (ka : Int) ((p.tabs.getD kd noTbl).data.getD ((cellF p s ⟨8, (ka : Int), (kb : Int), c, (kd : Int)⟩).getD 0) 0)
    rw [hc]
    rfl
  have e8 : (doF mg p room s ⟨8, (ka : Int), (kb : Int), c, (kd : Int)⟩).2 = none := rfl
  have HE := Lib.hid (And.intro e9 e8)
  have hra : s.reg (ka : Int) = s.regs.getD ka 0 := rfl
  have hrb : s.reg (kb : Int) = s.regs.getD kb 0 := rfl
  rw [hra] at g4 g5 g8
  rw [hrb] at g6 g7 g8
  have ca := H1.out.cells.reg ka hka
  have cb := H1.out.cells.reg kb hkb
  have c0 := H1.out.cells.vr
  have c5 := H1.out.cells.p 5 (by omega)
  have f1 := H1.out.cells.frr ka
  have hle1 := ht.le
  have hle2 := ht.led kd g2
  obtain ⟨bt, ot, ct, DA, dc, h5, t0, t1, harr⟩ := ht.at H1.out.below g2
  rw [h5] at c5
  obtain ⟨ra, hra2⟩ : ∃ x, x = s.regs.getD ka 0 := ⟨_, rfl⟩
  obtain ⟨rb, hrb2⟩ : ∃ x, x = s.regs.getD kb 0 := ⟨_, rfl⟩
  rw [← hra2] at g4 g5 g8 ca
  rw [← hrb2] at g6 g7 g8 cb
  obtain ⟨T, hT⟩ : ∃ T, T = p.tabs.getD kd noTbl := ⟨_, rfl⟩
  rw [← hT] at g3 g5 g7 g8 t0 t1 hle2 harr HE
  have gi := cell_in g3 g4 g5 g6 g7
  have hcc : cc < T.data.length := by omega
  obtain ⟨bd, od, rfl, _, hdc⟩ := harr.one hcc
  unfold IntC at hdc
  obtain ⟨y, hy⟩ : ∃ y, y = T.data.getD cc 0 := ⟨_, rfl⟩
  rw [← hy] at hdc HE
  obtain ⟨nd, hnd⟩ : ∃ n, n = T.data.length := ⟨_, rfl⟩
  rw [← hnd] at t1 hle2 gi hcc
  obtain ⟨co, hco⟩ : ∃ n, n = T.cols := ⟨_, rfl⟩
  rw [← hco] at t0 gi g8
  obtain ⟨nt, hnt⟩ : ∃ n, n = p.tabs.length := ⟨_, rfl⟩
  rw [← hnt] at c5 g2 hle1
  have i1 : (kd : Int) < (nt : Int) := by omega
  obtain ⟨pr, hpr⟩ : ∃ x, ra * co = x := ⟨_, rfl⟩
  rw [hpr] at gi g8
  have hs1 : pr + rb = (cc : Int) := by omega
  have i2 : (cc : Int) < (nd : Int) := by omega
  have w5 : wrap64 (wrap64 (ra * co) + rb) = (cc : Int) := by rw [hpr, IntWalk.wrap64_in pr (by omega), hs1]; exact IntWalk.wrap64_in _ (by omega)
  have HW5 := Lib.hid w5
  have HW6 := Lib.hid (show IntKind.i64.wrap (IntKind.i64.wrap (ra * co) + rb) = (cc : Int) by rw [hpr, IntWalk.i64_in pr (by omega), hs1]; exact IntWalk.i64_in _ (by omega))
  clear w5
  have n1 : decide ((ka : Int) < 0) = false := by simp
  have n2 : decide ((8 : Int) ≤ (ka : Int)) = false := by simp; omega
  have n4 : decide (ka < 8) = true := by simpa using hka
  have n5 : ¬ 8 ≤ ka := by omega
  have n6 : (ka : Int) < 8 := by omega
  have p1 : decide ((kb : Int) < 0) = false := by simp
  have p2 : decide ((8 : Int) ≤ (kb : Int)) = false := by simp; omega
  have p4 : decide (kb < 8) = true := by simpa using hkb
  have p5 : ¬ 8 ≤ kb := by omega
  have p6 : (kb : Int) < 8 := by omega
  have a1 := fun n o => cell_al (W := (W.alloc (.cells #[.int .i64 8, .int .i64 (ka : Int), .int .i64 (kb : Int), .int .i64 c, .int .i64 (kd : Int)] 40)).drewN n) t0 o
  have a2 := fun n o => cell_al (W := (W.alloc (.cells #[.int .i64 8, .int .i64 (ka : Int), .int .i64 (kb : Int), .int .i64 c, .int .i64 (kd : Int)] 40)).drewN n) t1 o
  have hst : (storeTab (.pointer (some ⟨W.heap.size + 1, 0, none⟩)) (.agg #[.int .i64 co, .slice (some ⟨bd, od, none⟩) nd dc])).run Try.prog ((W.alloc (.cells #[.int .i64 8, .int .i64 (ka : Int), .int .i64 (kb : Int), .int .i64 c, .int .i64 (kd : Int)] 40)).alloc (.cells #[.int .i64 0, .slice none 0 0] 89)).drew = .ok () ((W.alloc (.cells #[.int .i64 8, .int .i64 (ka : Int), .int .i64 (kb : Int), .int .i64 c, .int .i64 (kd : Int)] 40)).alloc (.cells #[.int .i64 co, .slice (some ⟨bd, od, none⟩) nd dc] 89)).drew := tab_store (W.alloc (.cells #[.int .i64 8, .int .i64 (ka : Int), .int .i64 (kb : Int), .int .i64 c, .int .i64 (kd : Int)] 40)).drew _ (size_al _ _ 1) _ _ _ _ rfl rfl
  have a3 := fun o => cell_al (W := W.alloc (.cells #[.int .i64 8, .int .i64 (ka : Int), .int .i64 (kb : Int), .int .i64 c, .int .i64 (kd : Int)] 40)) t0 o
  have a4 := fun o => cell_al (W := W.alloc (.cells #[.int .i64 8, .int .i64 (ka : Int), .int .i64 (kb : Int), .int .i64 c, .int .i64 (kd : Int)] 40)) t1 o
  have HRA := Lib.hid (And.intro hra2 hrb2)
  clear h hf ht harr hy hnd hco hnt hpr hT g1 g3 g4 g5 g6 g7 g8 gi hs1 h5 hc e9 e8 hra hrb hra2 hrb2
  unfold insV
  go_enter Try.func35, Try.ntmps35
  go_wp2_with fail
  go_region
  clear hst a1 a2 a3 a4
  have hI : Blk ((W.alloc (.cells #[.int .i64 8, .int .i64 (ka : Int), .int .i64 (kb : Int), .int .i64 c, .int .i64 (kd : Int)] 40)).alloc (.cells #[.int .i64 co, .slice (some ⟨bd, od, none⟩) nd dc] 89)).drew (W.heap.size + 1) 89 [.int .i64 co, .slice (some ⟨bd, od, none⟩) nd dc] := by
    have := Blk.new (W.alloc (.cells #[.int .i64 8, .int .i64 (ka : Int), .int .i64 (kb : Int), .int .i64 c, .int .i64 (kd : Int)] 40)) 89 [.int .i64 co, .slice (some ⟨bd, od, none⟩) nd dc]
    rw [show (W.alloc (.cells #[.int .i64 8, .int .i64 (ka : Int), .int .i64 (kb : Int), .int .i64 c, .int .i64 (kd : Int)] 40)).heap.size = W.heap.size + 1 by simp] at this
    exact this.drewN 1
  have hJ : Blk ((W.alloc (.cells #[.int .i64 8, .int .i64 (ka : Int), .int .i64 (kb : Int), .int .i64 c, .int .i64 (kd : Int)] 40)).alloc (.cells #[.int .i64 co, .slice (some ⟨bd, od, none⟩) nd dc] 89)).drew W.heap.size 40 [.int .i64 8, .int .i64 (ka : Int), .int .i64 (kb : Int), .int .i64 c, .int .i64 (kd : Int)] := ((Blk.new W 40 [.int .i64 8, .int .i64 (ka : Int), .int .i64 (kb : Int), .int .i64 c, .int .i64 (kd : Int)]).alloc _).drewN 1
  have X3 := Lib.hid ((H1.out.alloc (.cells #[.int .i64 co, .slice (some ⟨bd, od, none⟩) nd dc] 89)).drew)
  have hd3 : ((W.alloc (.cells #[.int .i64 8, .int .i64 (ka : Int), .int .i64 (kb : Int), .int .i64 c, .int .i64 (kd : Int)] 40)).alloc (.cells #[.int .i64 co, .slice (some ⟨bd, od, none⟩) nd dc] 89)).drew.cell? ⟨bd, od + cc, none⟩ = some (.int .i64 y) := by
    have h9 : (W.alloc (.cells #[.int .i64 8, .int .i64 (ka : Int), .int .i64 (kb : Int), .int .i64 c, .int .i64 (kd : Int)] 40)).cell? ⟨bd, od + cc, none⟩ = some (.int .i64 y) := by simpa using hdc
    exact cell_al h9 _
  clear ca cb c0 c5 f1 t0 t1 hdc H1
  generalize ((W.alloc (.cells #[.int .i64 8, .int .i64 (ka : Int), .int .i64 (kb : Int), .int .i64 c, .int .i64 (kd : Int)] 40)).alloc (.cells #[.int .i64 co, .slice (some ⟨bd, od, none⟩) nd dc] 89)).drew = w5 at hI hJ X3 hd3 ⊢
  have ca := X3.out.cells.reg ka hka
  have cb := X3.out.cells.reg kb hkb
  rw [← HRA.out.1] at ca
  rw [← HRA.out.2] at cb
  have c0 := X3.out.cells.vr
  have f1 := X3.out.cells.frr ka
  obtain ⟨j0, j1, j4, u0, u1⟩ : w5.cell? ⟨W.heap.size, 1, none⟩ = some (.int .i64 (ka : Int)) ∧ w5.cell? ⟨W.heap.size, 2, none⟩ = some (.int .i64 (kb : Int)) ∧ w5.cell? ⟨W.heap.size, 4, none⟩ = some (.int .i64 (kd : Int)) ∧ w5.cell? ⟨W.heap.size + 1, 0, none⟩ = some (.int .i64 co) ∧ w5.cell? ⟨W.heap.size + 1, 1, none⟩ = some (.slice (some ⟨bd, od, none⟩) nd dc) :=
    ⟨by rw [hJ.cell]; rfl, by rw [hJ.cell]; rfl, by rw [hJ.cell]; rfl, by rw [hI.cell]; rfl, by rw [hI.cell]; rfl⟩
  clear hI hJ
  have w5' := HW5.out
  have w6' : IntKind.i64.wrap (IntKind.i64.wrap (ra * co) + rb) = (cc : Int) := HW6.out
  clear hle1 hle2 i1 g2
  go_wp2_with fail
  go_still_tail 31, (by kernel_rfl)
  rw [show ({ heap := w5.heap, tape := w5.tape, drawn := w5.drawn + 1, os := w5.os, output := w5.output } : World) = w5.drew from rfl]
  have f2 : w5.drew.frozen? ⟨gr, ka, none⟩ = false := f1
  have ca2 : w5.drew.cell? ⟨gr, ka, none⟩ = some (.int .i64 ra) := ca
  go_wp2_with fail
  go_returns
  refine ⟨by first | rfl | simp, gk, vs, vp, vg, vt, ?_⟩
  rw [← HE.out.1]
  first | exact (X3.out.drewN _).setReg ka y | exact X3.out.drew.setReg ka y
end Go.Proofs.Ytgejpggbmgiocaa
/- The reference steps: all instructions. -/
namespace Go.Proofs.Ytgejpggbmgiocaa
open Go.RowKit
theorem rstep_all (B g gr gk : Nat) (w0 W : World) (prg : List Value) (room fuel : Int) (s : St) (vs vp vg vt : Value) (p : Prog) (S K V : List Int) (h : RR B g gr gk w0 W prg room fuel s vs vp vg vt) (hp : PIn w0 B prg p S K V) (htl : ∀ k, (p.texts.getD k ⟨#[]⟩).size ≤ 140737488351232) (hv : Inv room fuel s) (hrg : RegB s) (hfu : fuel ≤ 35184372088832) (hro : room ≤ 10000000000) :
    Calls Try.prog 22 #[.pointer (some ⟨g, 0, none⟩)] W (ResR B g gr w0 prg room fuel (stepF (mgF p.signs S K V) p room fuel s)) := by
  have htn : s.told.length ≤ 10000000000 := by have := hv.told; omega
  have hsl := hv.signs
  have hpl := hv.put
  by_cases hpc : s.pc < 0 ∨ (p.code.length : Int) ≤ s.pc
  · rw [stepF_out _ p room fuel s hpc]
    exact rst_out B g gr gk w0 W prg room fuel s vs vp vg vt p h hp.code hpc
  · obtain ⟨k, hk⟩ : ∃ k : Nat, s.pc = (k : Int) := ⟨s.pc.toNat, by omega⟩
    have hkl : k < p.code.length := by omega
    obtain ⟨i, hi⟩ : ∃ i, p.code.getD k noIns = i := ⟨_, rfl⟩
    rw [stepF_at _ p room fuel s k hk hkl i hi]
    have HF := fun (W' : World) (h' : RR B g gr gk w0 W' prg room fuel s vs vp vg vt) => rfault_any B g gr gk w0 W' prg room fuel s vs vp vg vt p S K V i h' hp hrg
    cases hfa : faultF p s i with
    | true =>
      rw [hfa] at HF
      rw [fault_cost hfa]
      exact rst_fault B g gr gk w0 W prg room fuel s vs vp vg vt p h hp.code k hk hkl i hi HF
    | false =>
      rw [hfa] at HF
      obtain ⟨hf, q8, q12, q13, hc⟩ := fault_none (room := room) hfa
      rw [hc]
      clear hc hfa
      have hops := fits_ops hf
      by_cases e12 : i.op = 12
      · by_cases hq : 262144 ≤ s.put.length
        · rw [if_pos ⟨e12, hq⟩]
          exact rst_12_full B g gr gk w0 W prg room fuel s vs vp vg vt p h hp.code k hk hkl i hi e12 hq HF
        · rw [if_neg (fun h9 => hq h9.2), if_neg (show ¬ i.op = 13 by omega), if_neg (show ¬ (i.op = 15 ∧ 262144 ≤ s.signs.length) from fun h9 => by omega), if_neg (show ¬ (i.op = 17 ∧ room ≤ (s.told.length : Int)) from fun h9 => by omega), if_neg (show ¬ i.op = 16 by omega)]
          exact rst_12 B g gr gk w0 W prg room fuel s vs vp vg vt _ p h hp.code k hk hkl i hi e12 hq HF (fun W2 h2 => rdo_12 B g gr gk w0 W2 prg room fuel _ vs vp vg vt _ p i e12 hf h2 (q12 e12) (Nat.le_trans hpl (by decide))) hv.used hfu
      rw [if_neg (show ¬ (i.op = 12 ∧ 262144 ≤ s.put.length) from fun h9 => e12 h9.1)]
      by_cases e13 : i.op = 13
      · rw [if_pos e13]
        by_cases hq : 262144 < s.put.length + (textF p s i).length
        · rw [if_pos hq]
          exact rst_13_full B g gr gk w0 W prg room fuel s vs vp vg vt p h hp.code k hk hkl i hi e13 hp.texts htl hf (q13 e13) hrg hpl hq HF
        · rw [if_neg hq]
          exact rst_13 B g gr gk w0 W prg room fuel s vs vp vg vt _ p h hp.code k hk hkl i hi e13 hp.texts htl hf (q13 e13) hrg hpl hq HF (fun W2 h2 => rdo_13 B g gr gk w0 W2 prg room fuel _ vs vp vg vt _ p i e13 hf h2 hp.texts htl (q13 e13) hrg (Nat.le_trans (Nat.le_of_not_lt hq) (by decide))) hv.used hfu
      rw [if_neg e13]
      by_cases e15 : i.op = 15
      · by_cases hq : 262144 ≤ s.signs.length
        · rw [if_pos ⟨e15, hq⟩]
          exact rst_15_full B g gr gk w0 W prg room fuel s vs vp vg vt p h hp.code k hk hkl i hi e15 hq HF
        · rw [if_neg (fun h9 => hq h9.2), if_neg (show ¬ (i.op = 17 ∧ room ≤ (s.told.length : Int)) from fun h9 => by omega), if_neg (show ¬ i.op = 16 by omega)]
          exact rst_15 B g gr gk w0 W prg room fuel s vs vp vg vt _ p h hp.code k hk hkl i hi e15 hq HF (fun W2 h2 => rdo_15 B g gr gk w0 W2 prg room fuel _ vs vp vg vt _ p i e15 hf h2 (Nat.le_trans hsl (by decide))) hv.used hfu
      rw [if_neg (show ¬ (i.op = 15 ∧ 262144 ≤ s.signs.length) from fun h9 => e15 h9.1)]
      by_cases e17 : i.op = 17
      · by_cases hq : room ≤ (s.told.length : Int)
        · rw [if_pos ⟨e17, hq⟩]
          exact rst_17_full B g gr gk w0 W prg room fuel s vs vp vg vt p h hp.code k hk hkl i hi e17 hq HF
        · rw [if_neg (fun h9 => hq h9.2), if_neg (show ¬ i.op = 16 by omega)]
          exact rst_17 B g gr gk w0 W prg room fuel s vs vp vg vt _ p h hp.code k hk hkl i hi e17 hq HF (fun W2 h2 => rdo_17 B g gr gk w0 W2 prg room fuel _ vs vp vg vt _ p i e17 hf h2 htn) hv.used hfu
      rw [if_neg (show ¬ (i.op = 17 ∧ room ≤ (s.told.length : Int)) from fun h9 => e17 h9.1)]
      by_cases e16 : i.op = 16
      · rw [if_pos e16]
        exact rst_16 B g gr gk w0 W prg room fuel s vs vp vg vt _ p h hp.code k hk hkl i hi e16 hsl HF (fun W2 h2 => rdo_16 B g gr gk w0 W2 prg room fuel _ vs vp vg vt p S K V i e16 h2 hp.pairs htn hsl hro) hv.used hfu
      rw [if_neg e16]
      refine rst_other B g gr gk w0 W prg room fuel s vs vp vg vt _ p h hp.code k hk hkl i hi ⟨e12, e13, e15, e16, e17⟩ HF (fun W2 h2 => ?_) hv.used hfu
      rcases hops with ho | ho | ho | ho | ho | ho | ho | ho | ho | ho | ho | ho | ho | ho | ho | ho | ho
      · exact rdo_1 B g gr gk w0 W2 prg room fuel _ vs vp vg vt _ p i ho hf h2
      · exact rdo_2 B g gr gk w0 W2 prg room fuel _ vs vp vg vt _ p i ho hf h2
      · exact rdo_3 B g gr gk w0 W2 prg room fuel _ vs vp vg vt _ p i ho hf h2
      · exact rdo_4 B g gr gk w0 W2 prg room fuel _ vs vp vg vt _ p i ho hf h2
      · exact rdo_5 B g gr gk w0 W2 prg room fuel _ vs vp vg vt _ p i ho hf h2
      · exact rdo_6 B g gr gk w0 W2 prg room fuel _ vs vp vg vt _ p i ho hf h2
      · exact rdo_7 B g gr gk w0 W2 prg room fuel _ vs vp vg vt _ p i ho hf h2 (by have := hv.src; exact Nat.le_trans this (by decide))
      · obtain ⟨cc, hcc⟩ := Option.ne_none_iff_exists'.1 (q8 ho)
        exact rdo_8 B g gr gk w0 W2 prg room fuel _ vs vp vg vt _ p i ho hf h2 hp.tabs cc hcc
      · exact rdo_9 B g gr gk w0 W2 prg room fuel _ vs vp vg vt _ p i ho hf h2
      · exact rdo_10 B g gr gk w0 W2 prg room fuel _ vs vp vg vt _ p i ho hf h2
      · exact rdo_11 B g gr gk w0 W2 prg room fuel _ vs vp vg vt _ p i ho hf h2
      · omega
      · omega
      · exact rdo_14 B g gr gk w0 W2 prg room fuel _ vs vp vg vt _ p i ho hf h2
      · omega
      · omega
      · omega
end Go.Proofs.Ytgejpggbmgiocaa
