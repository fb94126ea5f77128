/- MGrow, TGrow, RTGrow of this seat, in one text. -/
import Derived.Test.YthjnkpoalbddkaaStepY
/- How much a machine puts at a byte, and at the end: plain. -/
namespace Go.Proofs.Ythjnkpoalbddkaa

/-- the greatest of the first so many -/
def upTo (f : Nat → Nat) : Nat → Nat
  | 0 => 0
  | k + 1 => max (upTo f k) (f k)
theorem upTo_ge (f : Nat → Nat) : ∀ (k j : Nat), j < k → f j ≤ upTo f k
  | 0, j, h => absurd h (by omega)
  | k + 1, j, h => by
    unfold upTo
    by_cases e : j = k
    · subst e; omega
    · have := upTo_ge f k j (by omega); omega
theorem upTo_le (f : Nat → Nat) (b : Nat) : ∀ (k : Nat), (∀ j, j < k → f j ≤ b) → upTo f k ≤ b
  | 0, _ => by simp [upTo]
  | k + 1, h => by
    have h1 := upTo_le f b k (fun j hj => h j (by omega))
    have h2 := h k (by omega)
    unfold upTo
    omega
theorem max_upTo (a : Nat) (f : Nat → Nat) (k : Nat) : max (max a (upTo f k)) (f k) = max a (upTo f (k + 1)) := by
  show max (max a (upTo f k)) (f k) = max a (max (upTo f k) (f k))
  omega

/-- what state i puts at byte b: its length -/
def putLen (m : Mach) (i b : Nat) : Nat := (outT m i (UInt8.ofNat b)).length
def stateMost (m : Mach) (i : Nat) : Nat := upTo (putLen m i) 256
def endLen (m : Mach) (i : Nat) : Nat := (endText m i).size
def mostM (m : Mach) (n : Nat) : Nat := upTo (stateMost m) n
def endM (m : Mach) (n : Nat) : Nat := upTo (endLen m) n

theorem out_le {m : Mach} {i : Nat} (hi : i < m.next.length) (c : UInt8) : (outT m i c).length ≤ mostM m m.next.length := by
  have h1 := upTo_ge (putLen m i) 256 c.toNat c.toNat_lt
  have h2 := upTo_ge (stateMost m) m.next.length i hi
  have h3 : putLen m i c.toNat = (outT m i c).length := by unfold putLen; simp
  rw [← h3]
  exact Nat.le_trans h1 h2
theorem after_len {m : Mach} (h : RightM m) : ∀ s : Bs, (after m s).1.length ≤ mostM m m.next.length * s.length := by
  intro s
  have key : ∀ (s : Bs) (x : Bs × Nat), x.2 < m.next.length → (s.foldl (stepF m) x).1.length ≤ x.1.length + mostM m m.next.length * s.length := fun s => by
    induction s with
    | nil => intro x _; simp
    | cons c t ih =>
      intro x hx
      have h1 := ih (stepF m x c) (state_facts h hx c).2.2.2.1
      have h2 := out_le hx c
      simp only [List.foldl_cons, List.length_cons, Nat.mul_add]
      have h3 : (stepF m x c).1.length = x.1.length + (outT m x.2 c).length := by simp [stepF]
      omega
  have := key s ([], 0) (by have := h.lo; show 0 < _; omega)
  simpa [after] using this
theorem total_len {m : Mach} (h : RightM m) (s : Bs) : (total m s).length ≤ mostM m m.next.length * s.length + endM m m.next.length := by
  have h1 := after_len h s
  have h2 := upTo_ge (endLen m) m.next.length (after m s).2 (after_lt h s)
  unfold total endM
  rw [List.length_append, size_data]
  have h3 : (endText m (after m s).2).size ≤ upTo (endLen m) m.next.length := h2
  omega
end Go.Proofs.Ythjnkpoalbddkaa
/- trans.Grow. -/
namespace Go.Proofs.Ythjnkpoalbddkaa
open Go.RowKit

set_option maxRecDepth 100000 in
set_option maxHeartbeats 8000000 in
theorem tgrow_no (A0 A1 A2 A3 : Option Addr) (n0 n1 n2 n3 c0 c1 c2 c3 : Nat) (m : Mach) (RA : Nat → Option Addr) (rc : Nat → Nat) (PA : Nat → Option Addr) (pc : Nat → Nat) (w : World) (h : MachIn w A0 A1 A2 A3 n0 n1 n2 n3 m RA rc PA pc) (hr : rightM m = false) :
    Calls Try.prog 26 #[.agg #[.slice A0 n0 c0, .slice A1 n1 c1, .slice A2 n2 c2, .slice A3 n3 c3]] w fun e w' => e = .returned (.tuple #[.int .i64 0, .int .i64 0]) ∧ Below w.heap.size w w' := by
  have hb0 : Below w.heap.size w (w.alloc (.cells #[.slice A0 n0 c0, .slice A1 n1 c1, .slice A2 n2 c2, .slice A3 n3 c3] 42)) := (Below.refl _ _).alloc (Nat.le_refl _) _
  have HR := Lib.hid (tright_any A0 A1 A2 A3 n0 n1 n2 n3 c0 c1 c2 c3 m RA rc PA pc _ (h.keep hb0))
  rw [hr] at HR
  clear h hr hb0
  go_enter Try.func26, Try.ntmps26
  go_wp2_with fail
  refine HR.out.mono ?_
  rintro e w1 ⟨rfl, hb1⟩
  have HBX := Lib.hid (below_new (Below.refl w.heap.size w) (Nat.le_refl _) hb1)
  clear hb1
  go_wp2_with fail
  go_ret2
  exact ⟨rfl, HBX.out⟩

set_option maxRecDepth 100000 in
set_option maxHeartbeats 8000000 in
theorem tgrow_ok (A0 A1 A2 A3 : Option Addr) (n0 n1 n2 n3 c0 c1 c2 c3 : Nat) (m : Mach) (RA : Nat → Option Addr) (rc : Nat → Nat) (PA : Nat → Option Addr) (pc : Nat → Nat) (w : World) (h : MachIn w A0 A1 A2 A3 n0 n1 n2 n3 m RA rc PA pc) (hr : RightM m) :
    Calls Try.prog 26 #[.agg #[.slice A0 n0 c0, .slice A1 n1 c1, .slice A2 n2 c2, .slice A3 n3 c3]] w fun e w' => e = .returned (.tuple #[.int .i64 (mostM m m.next.length), .int .i64 (endM m m.next.length)]) ∧ Below w.heap.size w w' := by
  have hb0 : Below w.heap.size w (w.alloc (.cells #[.slice A0 n0 c0, .slice A1 n1 c1, .slice A2 n2 c2, .slice A3 n3 c3] 42)) := (Below.refl _ _).alloc (Nat.le_refl _) _
  have HR := Lib.hid (tright_any A0 A1 A2 A3 n0 n1 n2 n3 c0 c1 c2 c3 m RA rc PA pc _ (h.keep hb0))
  rw [rightM_yes hr] at HR
  have hl0 := h.next.len
  have hl1 := h.put.len
  have hl2 := h.elen
  have hl3 := h.tlen
  have hpu := hr.puts
  have hen := hr.ends
  have hhi := hr.hi
  have HM := Lib.hid hr
  have HW := Lib.hid h
  clear h hr hb0
  go_enter Try.func26, Try.ntmps26
  go_wp2_with fail
  refine HR.out.mono ?_
  rintro e w1 ⟨rfl, hb1⟩
  have HBX := Lib.hid (below_new (Below.refl w.heap.size w) (Nat.le_refl _) hb1)
  have q1 := kept_new hb1 1
  have q2 := kept_new hb1 2
  have q3 := kept_new hb1 3
  simp only [List.getElem?_toArray, List.getElem?_cons_zero, List.getElem?_cons_succ] at q1 q2 q3
  have H1 := Lib.hid (HW.out.keep HBX.out)
  clear hb1 HR
  go_wp2_with fail
  go_loopw [4, 5, 16] (fun mo en x wr => ∃ (k mq : Nat), k ≤ n1 ∧ x = .int .i64 k ∧ mo = .int .i64 (mostM m k) ∧ en = .int .i64 (endM m k) ∧ wr = w1.drewN mq) (fun _ _ x _ => n1 - (intOf x).toNat)
  case atStart => exact ⟨0, 0, by omega, rfl, rfl, rfl, rfl⟩
  case round =>
    obtain ⟨k, mq, hk, rfl, rfl, rfl, rfl⟩ := hrel
    by_cases hlt : k < n1
    · have hkn : k < m.next.length := by omega
      have hpl := (HM.out.states k hkn).plen
      obtain ⟨b1, o1, rfl, _, hc1⟩ := H1.out.put.arr.one hlt
      unfold RowC at hc1
      have HROW := Lib.hid (H1.out.put.row k hlt)
      obtain ⟨bp, op, hPA, _, _⟩ := HROW.out.one (k := 0) (by omega)
      rw [hPA, hpl] at hc1
      have HCELL : Hid (∀ b, b < 256 → w1.cell? ⟨bp, op + b, none⟩ = some (.int .i64 ((m.put.getD k []).getD b 0))) := fun b hb => by
        obtain ⟨b', o', e', _, h'⟩ := HROW.out.one (k := b) (by omega)
        rw [hPA] at e'
        simp only [Option.some.injEq, Addr.mk.injEq, and_true] at e'
        obtain ⟨rfl, rfl⟩ := e'
        exact h'
      obtain ⟨mo, hmo⟩ : ∃ mo, mo = mostM m k := ⟨_, rfl⟩
      obtain ⟨en, hen'⟩ : ∃ en, en = endM m k := ⟨_, rfl⟩
      rw [← hmo, ← hen']
      have HMO := Lib.hid (And.intro hmo hen')
      clear hmo hen' hPA hpl
      go_wp2_with fail
      go_loopw [4, 23] (fun v x wr => ∃ b : Nat, b ≤ 256 ∧ x = .int .i64 b ∧ v = .int .i64 ((max mo (upTo (putLen m k) b) : Nat) : Int) ∧ wr = w1.drewN mq) (fun _ x _ => 256 - (intOf x).toNat)
      case atStart => exact ⟨0, by omega, rfl, by simp [upTo], rfl⟩
      case round =>
        obtain ⟨b, hb, rfl, rfl, rfl⟩ := hrel
        by_cases hlb : b < 256
        · have hcb : (UInt8.ofNat b).toNat = b := by simp; omega
          obtain ⟨f1, f2, _, _, f5, f6⟩ := state_facts HM.out hkn (UInt8.ofNat b)
          have hcc := HCELL.out b hlb
          rw [hcb] at f1
          rw [f1] at hcc
          have hpd : putLen m k b = (textOf m (putN m k (UInt8.ofNat b) / 2)).size + putN m k (UInt8.ofNat b) % 2 := by
            unfold putLen outT
            rw [List.length_append, size_data]
            split <;> simp <;> omega
          obtain ⟨pn, hpn⟩ : ∃ pn, pn = putN m k (UInt8.ofNat b) := ⟨_, rfl⟩
          rw [← hpn] at hcc f2 f5 f6 hpd
          obtain ⟨b3, o3, hA3, _, hc3⟩ := H1.out.tarr.one (k := pn / 2) (by omega)
          unfold StrC at hc3
          obtain ⟨t, ht⟩ : ∃ t, t = m.texts.getD (pn / 2) ⟨#[]⟩ := ⟨_, rfl⟩
          rw [← ht] at hc3
          have hts : t.size ≤ 4096 := by rw [ht]; exact f5
          have hpd2 : putLen m k b = t.size + pn % 2 := by rw [hpd, ht]; rfl
          have HPD := Lib.hid hpd2
          obtain ⟨cur, hcur⟩ : ∃ cur, cur = max mo (upTo (putLen m k) b) := ⟨_, rfl⟩
          have hnxt : max mo (upTo (putLen m k) (b + 1)) = max cur (putLen m k b) := by rw [hcur]; exact (max_upTo mo _ b).symm
          have HNX := Lib.hid hnxt
          rw [← hcur]
          have hx1 : (b : Int) < 256 := by omega
          have hx2 : (pn : Int) / 2 < (n3 : Int) := by omega
          have hx3 : (0 : Int) ≤ (pn : Int) / 2 := by omega
          clear hcb f1 f2 f5 hpd hpd2 hpn ht hcur hnxt
          subst hA3
          go_wp2_with fail
          go_roundw
          case rel => exact ⟨b + 1, by omega, by go_num, by rw [HNX.out, HPD.out]; congr 1; split <;> omega, by first | rfl | trivial⟩
          case measure => simp [intOf]; omega
        · obtain rfl : b = 256 := by omega
          have hst := HM.out.states k hkn
          have hends := HM.out.ends
          have hlo := hst.endlo
          have hhi2 := hst.endhi
          have hfew := HM.out.few
          obtain ⟨b2, o2, hA2, _, hc2⟩ := H1.out.earr.one (k := k) (by omega)
          unfold NumC at hc2
          obtain ⟨ee, hee⟩ := Int.eq_ofNat_of_zero_le hlo
          obtain ⟨b3, o3, hA3, _, hc3⟩ := H1.out.tarr.one (k := ee) (by omega)
          unfold StrC at hc3
          rw [hee] at hc2
          have het : endText m k = m.texts.getD ee ⟨#[]⟩ := by unfold endText; rw [hee]; rfl
          rw [← het] at hc3
          obtain ⟨t, ht⟩ : ∃ t, t = endText m k := ⟨_, rfl⟩
          rw [← ht] at hc3
          have hts : t.size ≤ 4096 := by
            apply Classical.byContradiction
            intro h9
            exact HM.out.short ⟨ee, by omega, by rw [← het, ← ht]; omega⟩
          have hnx1 : mostM m (k + 1) = max mo (upTo (putLen m k) 256) := by rw [HMO.out.1]; rfl
          have hnx2 : endM m (k + 1) = max en t.size := by rw [HMO.out.2, ht]; rfl
          have HN1 := Lib.hid hnx1
          have HN2 := Lib.hid hnx2
          obtain ⟨cur, hcur⟩ : ∃ cur, cur = max mo (upTo (putLen m k) 256) := ⟨_, rfl⟩
          rw [← hcur] at HN1 ⊢
          have hx1 : (k : Int) < (n2 : Int) := by omega
          have hx2 : (ee : Int) < (n3 : Int) := by omega
          clear hst hends hlo hhi2 hee het ht hnx1 hnx2 hcur hfew
          subst hA2
          subst hA3
          go_wp2_with fail
          go_quiet (fail)
          go_wp2_with fail
          go_roundw
          case rel => exact ⟨k + 1, mq + nq, by omega, by go_num, by rw [HN1.out], by rw [HN2.out]; congr 1; split <;> omega, by first | rfl | trivial⟩
          case measure => simp [intOf]; omega
    · obtain rfl : k = n1 := by omega
      have hkk : m.next.length = k := by omega
      have HKK := Lib.hid hkk
      clear hkk
      go_wp2_with fail
      go_ret2
      rw [HKK.out]
      exact ⟨rfl, below_drewN HBX.out _⟩
end Go.Proofs.Ythjnkpoalbddkaa
/- The reference's Grow of machines. -/
namespace Go.Proofs.Ythjnkpoalbddkaa
open Go.RowKit

set_option maxRecDepth 100000 in
set_option maxHeartbeats 8000000 in
theorem rtgrow_ok (A0 A1 A2 A3 : Option Addr) (n0 n1 n2 n3 c0 c1 c2 c3 : Nat) (m : Mach) (RA : Nat → Option Addr) (rc : Nat → Nat) (PA : Nat → Option Addr) (pc : Nat → Nat) (w : World) (h : MachIn w A0 A1 A2 A3 n0 n1 n2 n3 m RA rc PA pc) (hr : RightM m) :
    Calls Try.prog 27 #[.agg #[.slice A0 n0 c0, .slice A1 n1 c1, .slice A2 n2 c2, .slice A3 n3 c3]] w fun e w' => e = .returned (.tuple #[.int .i64 (mostM m m.next.length), .int .i64 (endM m m.next.length)]) ∧ Below w.heap.size w w' := by
  have hb0 : Below w.heap.size w (w.alloc (.cells #[.slice A0 n0 c0, .slice A1 n1 c1, .slice A2 n2 c2, .slice A3 n3 c3] 42)) := (Below.refl _ _).alloc (Nat.le_refl _) _
  have hsz : w.heap.size < (w.alloc (.cells #[.slice A0 n0 c0, .slice A1 n1 c1, .slice A2 n2 c2, .slice A3 n3 c3] 42)).heap.size := by simp
  have q0 : (w.alloc (.cells #[.slice A0 n0 c0, .slice A1 n1 c1, .slice A2 n2 c2, .slice A3 n3 c3] 42)).cell? ⟨w.heap.size, 0, none⟩ = some (.slice A0 n0 c0) := by simp
  have q1 : (w.alloc (.cells #[.slice A0 n0 c0, .slice A1 n1 c1, .slice A2 n2 c2, .slice A3 n3 c3] 42)).cell? ⟨w.heap.size, 1, none⟩ = some (.slice A1 n1 c1) := by simp
  have q2 : (w.alloc (.cells #[.slice A0 n0 c0, .slice A1 n1 c1, .slice A2 n2 c2, .slice A3 n3 c3] 42)).cell? ⟨w.heap.size, 2, none⟩ = some (.slice A2 n2 c2) := by simp
  have q3 : (w.alloc (.cells #[.slice A0 n0 c0, .slice A1 n1 c1, .slice A2 n2 c2, .slice A3 n3 c3] 42)).cell? ⟨w.heap.size, 3, none⟩ = some (.slice A3 n3 c3) := by simp
  have hl0 := h.next.len
  have hl1 := h.put.len
  have hl2 := h.elen
  have hl3 := h.tlen
  have hpu := hr.puts
  have hen := hr.ends
  have hhi := hr.hi
  have HM := Lib.hid hr
  have H1 := Lib.hid (h.keep hb0)
  have HB0 := Lib.hid hb0
  clear h hr hb0
  go_enter Try.func27, Try.ntmps27
  go_wp2_with fail
  generalize w.alloc (.cells #[.slice A0 n0 c0, .slice A1 n1 c1, .slice A2 n2 c2, .slice A3 n3 c3] 42) = w1 at H1 HB0 q0 q1 q2 q3 hsz ⊢
  go_loopw [4, 5, 13] (fun mo en x wr => ∃ k : Nat, k ≤ n0 ∧ x = .int .i64 k ∧ mo = .int .i64 (mostM m k) ∧ en = .int .i64 (endM m k) ∧ Below w1.heap.size w1 wr) (fun _ _ x _ => n0 - (intOf x).toNat)
  case atStart => exact ⟨0, by omega, rfl, rfl, rfl, Below.refl _ _⟩
  case round =>
    obtain ⟨k, hk, rfl, rfl, rfl, hbel⟩ := hrel
    have HBE := Lib.hid hbel
    clear hbel
    obtain ⟨w2, rfl⟩ : ∃ w2 : World, w2 = wr := ⟨_, rfl⟩
    by_cases hlt : k < n0
    · have hkn : k < m.next.length := by omega
      obtain ⟨mo, hmo⟩ : ∃ mo, mo = mostM m k := ⟨_, rfl⟩
      obtain ⟨en, hen'⟩ : ∃ en, en = endM m k := ⟨_, rfl⟩
      rw [← hmo, ← hen']
      have HMO := Lib.hid (And.intro hmo hen')
      clear hmo hen'
      go_wp2_with fail
      go_loopw [4, 7] (fun v x wr => ∃ b : Nat, b ≤ 256 ∧ x = .int .i64 b ∧ v = .int .i64 ((max mo (upTo (putLen m k) b) : Nat) : Int) ∧ Below w1.heap.size w1 wr) (fun _ x _ => 256 - (intOf x).toNat)
      case atStart => exact ⟨0, by omega, rfl, by simp [upTo], HBE.out⟩
      case round =>
        obtain ⟨b, hb, rfl, rfl, hbel⟩ := hrel
        have r0 := (hbel.cell (p := ⟨w.heap.size, 0, none⟩) hsz).trans q0
        have r1 := (hbel.cell (p := ⟨w.heap.size, 1, none⟩) hsz).trans q1
        have r2 := (hbel.cell (p := ⟨w.heap.size, 2, none⟩) hsz).trans q2
        have r3 := (hbel.cell (p := ⟨w.heap.size, 3, none⟩) hsz).trans q3
        have H3 := Lib.hid (H1.out.keep hbel)
        have HB3 := Lib.hid hbel
        clear hbel
        obtain ⟨w4, rfl⟩ : ∃ w4 : World, w4 = wr := ⟨_, rfl⟩
        by_cases hlb : b < 256
        · have hcb : (UInt8.ofNat b).toNat = b := by simp; omega
          have HOUT := Lib.hid (out_any A0 A1 A2 A3 n0 n1 n2 n3 c0 c1 c2 c3 m RA rc PA pc w4 H3.out HM.out k hlt (UInt8.ofNat b))
          rw [hcb] at HOUT
          have hol : (outT m k (UInt8.ofNat b)).length ≤ 4097 := outT_len HM.out hkn (UInt8.ofNat b)
          have hpd : putLen m k b = (outT m k (UInt8.ofNat b)).length := rfl
          obtain ⟨ot, hot⟩ : ∃ ot : ByteArray, ot = ⟨(outT m k (UInt8.ofNat b)).toArray⟩ := ⟨_, rfl⟩
          have hos : ot.size = (outT m k (UInt8.ofNat b)).length := by rw [hot]; simp [ByteArray.size]
          rw [← hot] at HOUT
          rw [← hos] at hpd hol
          obtain ⟨cur, hcur⟩ : ∃ cur, cur = max mo (upTo (putLen m k) b) := ⟨_, rfl⟩
          have hnxt : max mo (upTo (putLen m k) (b + 1)) = max cur (putLen m k b) := by rw [hcur]; exact (max_upTo mo _ b).symm
          rw [hpd] at hnxt
          have HNX := Lib.hid hnxt
          rw [← hcur]
          have hx1 : (b : Int) < 256 := by omega
          clear hcb hot hos hpd hcur hnxt
          by_cases hgt : cur < ot.size
          · go_wp2_with fail
            refine HOUT.out.mono ?_
            rintro e w5 ⟨rfl, hb5⟩
            have HB5 := Lib.hid (HB3.out.trans (hb5.mono HB3.out.size))
            clear hb5
            go_wp2_with fail
            go_roundw
            case rel => exact ⟨b + 1, by omega, by go_num, by rw [HNX.out]; congr 1; omega, HB5.out⟩
            case measure => simp [intOf]; omega
          · go_wp2_with fail
            refine HOUT.out.mono ?_
            rintro e w5 ⟨rfl, hb5⟩
            have HB5 := Lib.hid (HB3.out.trans (hb5.mono HB3.out.size))
            clear hb5
            go_wp2_with fail
            go_roundw
            case rel => exact ⟨b + 1, by omega, by go_num, by rw [HNX.out]; congr 1; omega, HB5.out⟩
            case measure => simp [intOf]; omega
        · obtain rfl : b = 256 := by omega
          have hst := HM.out.states k hkn
          have hends := HM.out.ends
          have hlo := hst.endlo
          have hhi2 := hst.endhi
          have hfew := HM.out.few
          obtain ⟨b2, o2, hA2, _, hc2⟩ := H3.out.earr.one (k := k) (by omega)
          unfold NumC at hc2
          obtain ⟨ee, hee⟩ := Int.eq_ofNat_of_zero_le hlo
          obtain ⟨b3, o3, hA3, _, hc3⟩ := H3.out.tarr.one (k := ee) (by omega)
          unfold StrC at hc3
          rw [hee] at hc2
          have het : endText m k = m.texts.getD ee ⟨#[]⟩ := by unfold endText; rw [hee]; rfl
          rw [← het] at hc3
          obtain ⟨t, ht⟩ : ∃ t, t = endText m k := ⟨_, rfl⟩
          rw [← ht] at hc3
          have hts : t.size ≤ 4096 := by
            apply Classical.byContradiction
            intro h9
            exact HM.out.short ⟨ee, by omega, by rw [← het, ← ht]; omega⟩
          have hnx1 : mostM m (k + 1) = max mo (upTo (putLen m k) 256) := by rw [HMO.out.1]; rfl
          have hnx2 : endM m (k + 1) = max en t.size := by rw [HMO.out.2, ht]; rfl
          have HN1 := Lib.hid hnx1
          have HN2 := Lib.hid hnx2
          obtain ⟨cur, hcur⟩ : ∃ cur, cur = max mo (upTo (putLen m k) 256) := ⟨_, rfl⟩
          rw [← hcur] at HN1 ⊢
          have hx1 : (k : Int) < (n2 : Int) := by omega
          have hx2 : (ee : Int) < (n3 : Int) := by omega
          clear hst hends hlo hhi2 hee het ht hnx1 hnx2 hcur hfew
          subst hA2
          subst hA3
          by_cases hgt : en < t.size
          · go_wp2_with fail
            go_quiet (fail)
            go_wp2_with fail
            go_roundw
            case rel => exact ⟨k + 1, by omega, by go_num, by rw [HN1.out], by rw [HN2.out]; congr 1; omega, below_drewN HB3.out _⟩
            case measure => simp [intOf]; omega
          · go_wp2_with fail
            go_quiet (fail)
            go_wp2_with fail
            go_roundw
            case rel => exact ⟨k + 1, by omega, by go_num, by rw [HN1.out], by rw [HN2.out]; congr 1; omega, below_drewN HB3.out _⟩
            case measure => simp [intOf]; omega
    · obtain rfl : k = n0 := by omega
      have hkk : m.next.length = k := by omega
      have HKK := Lib.hid hkk
      clear hkk
      go_wp2_with fail
      go_ret2
      rw [HKK.out]
      exact ⟨rfl, HB0.out.trans (HBE.out.mono (Nat.le_of_lt hsz))⟩
end Go.Proofs.Ythjnkpoalbddkaa
