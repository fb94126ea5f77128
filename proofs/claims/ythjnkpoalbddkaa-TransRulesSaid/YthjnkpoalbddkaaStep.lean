/- What a machine puts at a byte, and where it goes. -/
import Derived.Test.YthjnkpoalbddkaaMach
import Derived.Test.YthjnkpoalbddkaaGrow
namespace Go.Proofs.Ythjnkpoalbddkaa
open Go.RowKit

def putN (m : Mach) (i : Nat) (c : UInt8) : Nat := ((m.put.getD i []).getD c.toNat 0).toNat
def textOf (m : Mach) (k : Nat) : ByteArray := m.texts.getD k ⟨#[]⟩
def outT (m : Mach) (i : Nat) (c : UInt8) : Bs := (textOf m (putN m i c / 2)).data.toList ++ if putN m i c % 2 = 1 then [c] else []
def nextS (m : Mach) (i : Nat) (c : UInt8) : Nat := ((m.next.getD i []).getD c.toNat 0).toNat

/-- what is known of a machine that may be, at a state and a byte -/
theorem state_facts {m : Mach} (h : RightM m) {i : Nat} (hi : i < m.next.length) (c : UInt8) :
    (m.put.getD i []).getD c.toNat 0 = (putN m i c : Int) ∧ putN m i c / 2 < m.texts.length ∧ (m.next.getD i []).getD c.toNat 0 = (nextS m i c : Int) ∧ nextS m i c < m.next.length ∧ (textOf m (putN m i c / 2)).size ≤ 4096 ∧ putN m i c < 8192 := by
  have hs := h.states i hi
  have hc := c.toNat_lt
  have h1 : ¬ ((m.put.getD i []).getD c.toNat 0 < 0 ∨ 2 * (m.texts.length : Int) ≤ (m.put.getD i []).getD c.toNat 0) := fun h9 => hs.pin ⟨c.toNat, hc, h9⟩
  have h2 : ¬ ((m.next.getD i []).getD c.toNat 0 < 0 ∨ (m.next.length : Int) ≤ (m.next.getD i []).getD c.toNat 0) := fun h9 => hs.nin ⟨c.toNat, hc, h9⟩
  have hf := h.few
  have h3 : putN m i c / 2 < m.texts.length := by unfold putN; omega
  refine ⟨by unfold putN; omega, h3, by unfold nextS; omega, by unfold nextS; omega, ?_, by unfold putN; omega⟩
  apply Classical.byContradiction
  intro h9
  exact h.short ⟨_, h3, by unfold textOf at h9; omega⟩

theorem rem_nat (a b : Nat) : ((a : Int)).tmod (b : Int) = ((a % b : Nat) : Int) := by
  rw [Int.tmod_eq_emod_of_nonneg (by omega)]
  rfl

set_option maxRecDepth 100000 in
set_option maxHeartbeats 4000000 in
theorem out_any (A0 A1 A2 A3 : Option Addr) (n0 n1 n2 n3 c0 c1 c2 c3 : Nat) (m : Mach) (RA : Nat → Option Addr) (rc : Nat → Nat) (PA : Nat → Option Addr) (pc : Nat → Nat) (w : World) (h : MachIn w A0 A1 A2 A3 n0 n1 n2 n3 m RA rc PA pc) (hr : RightM m) (i : Nat) (hi : i < n0) (c : UInt8) :
    Calls Try.prog 50 #[.agg #[.slice A0 n0 c0, .slice A1 n1 c1, .slice A2 n2 c2, .slice A3 n3 c3], .int .i64 i, .int .u8 (c.toNat : Int)] w fun e w' => e = .returned (.string ⟨(outT m i c).toArray⟩) ∧ Below w.heap.size w w' := by
  have hl0 := h.next.len
  have hl1 := h.put.len
  have hl3 := h.tlen
  obtain ⟨f1, f2, f3, f4, f5, f6⟩ := state_facts hr (i := i) (by omega) c
  have hpl := (hr.states i (by omega)).plen
  have hpu := hr.puts
  have hi1 : i < n1 := by omega
  have hcl := c.toNat_lt
  obtain ⟨b1, o1, rfl, _, hc1⟩ := h.put.arr.one hi1
  unfold RowC at hc1
  obtain ⟨b4, o4, hPA, _, hc4⟩ := (h.put.row i hi1).one (k := c.toNat) (by omega)
  unfold NumC at hc4
  rw [f1] at hc4
  obtain ⟨b3, o3, rfl, _, hc3⟩ := h.tarr.one (k := putN m i c / 2) (by omega)
  unfold StrC at hc3
  rw [hPA, hpl] at hc1
  have hot : outT m i c = (textOf m (putN m i c / 2)).data.toList ++ if putN m i c % 2 = 1 then [c] else [] := rfl
  obtain ⟨pn, hpn⟩ : ∃ pn, pn = putN m i c := ⟨_, rfl⟩
  obtain ⟨t, ht⟩ : ∃ t, t = m.texts.getD (pn / 2) ⟨#[]⟩ := ⟨_, rfl⟩
  rw [← hpn] at hc4 hc3 f2 f6 f5 hot
  rw [← ht] at hc3
  have hts : t.size ≤ 4096 := by rw [ht]; exact f5
  have hot2 : outT m i c = t.data.toList ++ if pn % 2 = 1 then [c] else [] := by rw [hot, ht]; rfl
  have HOT := Lib.hid hot2
  obtain ⟨cn, hcn⟩ : ∃ cn, cn = c.toNat := ⟨_, rfl⟩
  rw [← hcn] at hc4 hcl ⊢
  have HCN := Lib.hid hcn
  have hb2 : (pn : Int) / 2 < (n3 : Int) := by omega
  have hb3 : (0 : Int) ≤ (pn : Int) / 2 := by omega
  have hx1 : (i : Int) < (n1 : Int) := by omega
  have hx2 : (cn : Int) < 256 := by omega
  have hconv : (convert 54 9 (.slice (some ⟨w.heap.size + 1, 0, none⟩) 1 1)).run Try.prog ((w.alloc (.cells #[.slice A0 n0 c0, .slice (some ⟨b1, o1, none⟩) n1 c1, .slice A2 n2 c2, .slice (some ⟨b3, o3, none⟩) n3 c3] 42)).alloc (.cells #[.int .u8 (cn : Int)] 5)) = .ok (.string ⟨#[c]⟩) ((w.alloc (.cells #[.slice A0 n0 c0, .slice (some ⟨b1, o1, none⟩) n1 c1, .slice A2 n2 c2, .slice (some ⟨b3, o3, none⟩) n3 c3] 42)).alloc (.cells #[.int .u8 (cn : Int)] 5)) := by
    have h9 := run_byte_string (P := Try.prog) (w.alloc (.cells #[.slice A0 n0 c0, .slice (some ⟨b1, o1, none⟩) n1 c1, .slice A2 n2 c2, .slice (some ⟨b3, o3, none⟩) n3 c3] 42)) 54 5 9 Try.underlying54 Try.underlying5 Try.underlying9 (cn : Int) (by omega) (by omega)
    have h8 : UInt8.ofNat (cn : Int).toNat = c := by rw [hcn]; simp
    rw [h8] at h9
    simpa using h9
  have hbw : Below w.heap.size w (w.alloc (.cells #[.slice A0 n0 c0, .slice (some ⟨b1, o1, none⟩) n1 c1, .slice A2 n2 c2, .slice (some ⟨b3, o3, none⟩) n3 c3] 42)) := (Below.refl _ _).alloc (Nat.le_refl _) _
  have HBW := Lib.hid hbw
  clear hot hot2 hcn hpn ht f1 f2 f3 f4 f5 hbw hPA h hpl hpu hr hl0 hl1 hl3
  by_cases hodd : pn % 2 = 1
  · have e1 : ((pn : Int) % 2 == 1) = true := by simp; omega
    have HODD := Lib.hid hodd
    clear hodd
    go_enter Try.func50, Try.ntmps50
    have s1 : (⟨#[c]⟩ : ByteArray).size = 1 := rfl
    go_wp2_with fail
    go_returns
    refine ⟨?_, HBW.out.alloc (by simp) _⟩
    rw [HOT.out, if_pos HODD.out]
    have h7 : (⟨(t.data.toList ++ [c]).toArray⟩ : ByteArray) = t ++ ⟨#[c]⟩ := str_ext (by simp)
    rw [h7]
    rfl
  · have e1 : ((pn : Int) % 2 == 1) = false := by simp; omega
    have HODD := Lib.hid hodd
    clear hodd
    go_enter Try.func50, Try.ntmps50
    go_wp2_with fail
    go_returns
    refine ⟨?_, HBW.out⟩
    rw [HOT.out, if_neg HODD.out, List.append_nil]
    rfl
set_option maxRecDepth 100000 in
set_option maxHeartbeats 4000000 in
theorem step_any (A0 A1 A2 A3 : Option Addr) (n0 n1 n2 n3 c0 c1 c2 c3 : Nat) (m : Mach) (RA : Nat → Option Addr) (rc : Nat → Nat) (PA : Nat → Option Addr) (pc : Nat → Nat) (w : World) (h : MachIn w A0 A1 A2 A3 n0 n1 n2 n3 m RA rc PA pc) (hr : RightM m) (i : Nat) (hi : i < n0) (c : UInt8) :
    Calls Try.prog 48 #[.agg #[.slice A0 n0 c0, .slice A1 n1 c1, .slice A2 n2 c2, .slice A3 n3 c3], .int .i64 i, .int .u8 (c.toNat : Int)] w fun e w' => e = .returned (.tuple #[.string ⟨(outT m i c).toArray⟩, .int .i64 (nextS m i c)]) ∧ Below w.heap.size w w' := by
  have hl0 := h.next.len
  have hl1 := h.put.len
  have hl3 := h.tlen
  obtain ⟨f1, f2, f3, f4, f5, f6⟩ := state_facts hr (i := i) (by omega) c
  have hpl := (hr.states i (by omega)).plen
  have hpu := hr.puts
  have hi1 : i < n1 := by omega
  have hnl := (hr.states i (by omega)).nlen
  obtain ⟨b0, o0, rfl, _, hc0⟩ := h.next.arr.one hi
  unfold RowC at hc0
  obtain ⟨b5, o5, hRA, _, hc5⟩ := (h.next.row i hi).one (k := c.toNat) (by rw [hnl]; exact c.toNat_lt)
  unfold NumC at hc5
  rw [f3] at hc5
  rw [hRA, hnl] at hc0
  obtain ⟨nx, hnx⟩ : ∃ nx, nx = nextS m i c := ⟨_, rfl⟩
  rw [← hnx] at hc5 ⊢
  have hcl := c.toNat_lt
  obtain ⟨b1, o1, rfl, _, hc1⟩ := h.put.arr.one hi1
  unfold RowC at hc1
  obtain ⟨b4, o4, hPA, _, hc4⟩ := (h.put.row i hi1).one (k := c.toNat) (by omega)
  unfold NumC at hc4
  rw [f1] at hc4
  obtain ⟨b3, o3, rfl, _, hc3⟩ := h.tarr.one (k := putN m i c / 2) (by omega)
  unfold StrC at hc3
  rw [hPA, hpl] at hc1
  have hot : outT m i c = (textOf m (putN m i c / 2)).data.toList ++ if putN m i c % 2 = 1 then [c] else [] := rfl
  obtain ⟨pn, hpn⟩ : ∃ pn, pn = putN m i c := ⟨_, rfl⟩
  obtain ⟨t, ht⟩ : ∃ t, t = m.texts.getD (pn / 2) ⟨#[]⟩ := ⟨_, rfl⟩
  rw [← hpn] at hc4 hc3 f2 f6 f5 hot
  rw [← ht] at hc3
  have hts : t.size ≤ 4096 := by rw [ht]; exact f5
  have hot2 : outT m i c = t.data.toList ++ if pn % 2 = 1 then [c] else [] := by rw [hot, ht]; rfl
  have HOT := Lib.hid hot2
  obtain ⟨cn, hcn⟩ : ∃ cn, cn = c.toNat := ⟨_, rfl⟩
  rw [← hcn] at hc4 hc5 hcl ⊢
  have HCN := Lib.hid hcn
  have hb2 : (pn : Int) / 2 < (n3 : Int) := by omega
  have hb3 : (0 : Int) ≤ (pn : Int) / 2 := by omega
  have hx1 : (i : Int) < (n1 : Int) := by omega
  have hx0 : (i : Int) < (n0 : Int) := by omega
  have hx2 : (cn : Int) < 256 := by omega
  have hconv : (convert 54 9 (.slice (some ⟨w.heap.size + 1, 0, none⟩) 1 1)).run Try.prog ((w.alloc (.cells #[.slice (some ⟨b0, o0, none⟩) n0 c0, .slice (some ⟨b1, o1, none⟩) n1 c1, .slice A2 n2 c2, .slice (some ⟨b3, o3, none⟩) n3 c3] 42)).alloc (.cells #[.int .u8 (cn : Int)] 5)) = .ok (.string ⟨#[c]⟩) ((w.alloc (.cells #[.slice (some ⟨b0, o0, none⟩) n0 c0, .slice (some ⟨b1, o1, none⟩) n1 c1, .slice A2 n2 c2, .slice (some ⟨b3, o3, none⟩) n3 c3] 42)).alloc (.cells #[.int .u8 (cn : Int)] 5)) := by
    have h9 := run_byte_string (P := Try.prog) (w.alloc (.cells #[.slice (some ⟨b0, o0, none⟩) n0 c0, .slice (some ⟨b1, o1, none⟩) n1 c1, .slice A2 n2 c2, .slice (some ⟨b3, o3, none⟩) n3 c3] 42)) 54 5 9 Try.underlying54 Try.underlying5 Try.underlying9 (cn : Int) (by omega) (by omega)
    have h8 : UInt8.ofNat (cn : Int).toNat = c := by rw [hcn]; simp
    rw [h8] at h9
    simpa using h9
  have hbw : Below w.heap.size w (w.alloc (.cells #[.slice (some ⟨b0, o0, none⟩) n0 c0, .slice (some ⟨b1, o1, none⟩) n1 c1, .slice A2 n2 c2, .slice (some ⟨b3, o3, none⟩) n3 c3] 42)) := (Below.refl _ _).alloc (Nat.le_refl _) _
  have HBW := Lib.hid hbw
  clear hRA hnx hnl hot hot2 hcn hpn ht f1 f2 f3 f4 f5 hbw hPA h hpl hpu hr hl0 hl1 hl3
  by_cases hodd : pn % 2 = 1
  · have e1 : ((pn : Int) % 2 == 1) = true := by simp; omega
    have HODD := Lib.hid hodd
    clear hodd
    go_enter Try.func48, Try.ntmps48
    have s1 : (⟨#[c]⟩ : ByteArray).size = 1 := rfl
    go_wp2_with fail
    go_quiet (fail)
    go_wp2_with fail
    go_returns
    refine ⟨?_, below_drewN (HBW.out.alloc (by simp) _) _⟩
    rw [HOT.out, if_pos HODD.out]
    have h7 : (⟨(t.data.toList ++ [c]).toArray⟩ : ByteArray) = t ++ ⟨#[c]⟩ := str_ext (by simp)
    rw [h7]
    rfl
  · have e1 : ((pn : Int) % 2 == 1) = false := by simp; omega
    have HODD := Lib.hid hodd
    clear hodd
    go_enter Try.func48, Try.ntmps48
    go_wp2_with fail
    go_quiet (fail)
    go_wp2_with fail
    go_returns
    refine ⟨?_, below_drewN HBW.out _⟩
    rw [HOT.out, if_neg HODD.out, List.append_nil]
    rfl
end Go.Proofs.Ythjnkpoalbddkaa
