/- Step, Aft, MkIdx, MkPlain, MkEnd, RunI, RBPlain of this seat, in one text. -/
import Derived.Test.YthjnkpoalbddkaaIdxY
import Derived.Test.YthjnkpoalbddkaaTellsY
import Derived.Maps.OwnOps
import Derived.Maps.OwnSet
import Derived.DeepKeys4
import Derived.ChangeKeys
/- What a machine puts at a byte, and where it goes. -/
namespace Go.Proofs.Ythjnkpoalbddkaa
open Go.RowKit

def putN (m : Mach) (i : Nat) (c : UInt8) : Nat := ((m.put.getD i []).getD c.toNat 0).toNat
def textOf (m : Mach) (k : Nat) : ByteArray := m.texts.getD k ⟨#[]⟩
def outT (m : Mach) (i : Nat) (c : UInt8) : Bs := (textOf m (putN m i c / 2)).data.toList ++ if putN m i c % 2 = 1 then [c] else []
def nextS (m : Mach) (i : Nat) (c : UInt8) : Nat := ((m.next.getD i []).getD c.toNat 0).toNat

/-- what is known of a machine that may be, at a state and a byte -/
theorem state_facts {m : Mach} (h : RightM m) {i : Nat} (hi : i < m.next.length) (c : UInt8) :
    (m.put.getD i []).getD c.toNat 0 = (putN m i c : Int) ∧ putN m i c / 2 < m.texts.length ∧ (m.next.getD i []).getD c.toNat 0 = (nextS m i c : Int) ∧ nextS m i c < m.next.length ∧ (textOf m (putN m i c / 2)).size ≤ 4096 ∧ putN m i c < 8192 := by
  have hs := h.states i hi
  have hc := c.toNat_lt
  have h1 : ¬ ((m.put.getD i []).getD c.toNat 0 < 0 ∨ 2 * (m.texts.length : Int) ≤ (m.put.getD i []).getD c.toNat 0) := fun h9 => hs.pin ⟨c.toNat, hc, h9⟩
  have h2 : ¬ ((m.next.getD i []).getD c.toNat 0 < 0 ∨ (m.next.length : Int) ≤ (m.next.getD i []).getD c.toNat 0) := fun h9 => hs.nin ⟨c.toNat, hc, h9⟩
  have hf := h.few
  have h3 : putN m i c / 2 < m.texts.length := by unfold putN; omega
  refine ⟨by unfold putN; omega, h3, by unfold nextS; omega, by unfold nextS; omega, ?_, by unfold putN; omega⟩
  apply Classical.byContradiction
  intro h9
  exact h.short ⟨_, h3, by unfold textOf at h9; omega⟩

theorem rem_nat (a b : Nat) : ((a : Int)).tmod (b : Int) = ((a % b : Nat) : Int) := by
  rw [Int.tmod_eq_emod_of_nonneg (by omega)]
  rfl

set_option maxRecDepth 100000 in
set_option maxHeartbeats 4000000 in
theorem out_any (A0 A1 A2 A3 : Option Addr) (n0 n1 n2 n3 c0 c1 c2 c3 : Nat) (m : Mach) (RA : Nat → Option Addr) (rc : Nat → Nat) (PA : Nat → Option Addr) (pc : Nat → Nat) (w : World) (h : MachIn w A0 A1 A2 A3 n0 n1 n2 n3 m RA rc PA pc) (hr : RightM m) (i : Nat) (hi : i < n0) (c : UInt8) :
    Calls Try.prog 50 #[.agg #[.slice A0 n0 c0, .slice A1 n1 c1, .slice A2 n2 c2, .slice A3 n3 c3], .int .i64 i, .int .u8 (c.toNat : Int)] w fun e w' => e = .returned (.string ⟨(outT m i c).toArray⟩) ∧ Below w.heap.size w w' := by
  have hl0 := h.next.len
  have hl1 := h.put.len
  have hl3 := h.tlen
  obtain ⟨f1, f2, f3, f4, f5, f6⟩ := state_facts hr (i := i) (by omega) c
  have hpl := (hr.states i (by omega)).plen
  have hpu := hr.puts
  have hi1 : i < n1 := by omega
  have hcl := c.toNat_lt
  obtain ⟨b1, o1, rfl, _, hc1⟩ := h.put.arr.one hi1
  unfold RowC at hc1
  obtain ⟨b4, o4, hPA, _, hc4⟩ := (h.put.row i hi1).one (k := c.toNat) (by omega)
  unfold NumC at hc4
  rw [f1] at hc4
  obtain ⟨b3, o3, rfl, _, hc3⟩ := h.tarr.one (k := putN m i c / 2) (by omega)
  unfold StrC at hc3
  rw [hPA, hpl] at hc1
  have hot : outT m i c = (textOf m (putN m i c / 2)).data.toList ++ if putN m i c % 2 = 1 then [c] else [] := rfl
  obtain ⟨pn, hpn⟩ : ∃ pn, pn = putN m i c := ⟨_, rfl⟩
  obtain ⟨t, ht⟩ : ∃ t, t = m.texts.getD (pn / 2) ⟨#[]⟩ := ⟨_, rfl⟩
  rw [← hpn] at hc4 hc3 f2 f6 f5 hot
  rw [← ht] at hc3
  have hts : t.size ≤ 4096 := by rw [ht]; exact f5
  have hot2 : outT m i c = t.data.toList ++ if pn % 2 = 1 then [c] else [] := by rw [hot, ht]; rfl
  have HOT := Lib.hid hot2
  obtain ⟨cn, hcn⟩ : ∃ cn, cn = c.toNat := ⟨_, rfl⟩
  rw [← hcn] at hc4 hcl ⊢
  have HCN := Lib.hid hcn
  have hb2 : (pn : Int) / 2 < (n3 : Int) := by omega
  have hb3 : (0 : Int) ≤ (pn : Int) / 2 := by omega
  have hx1 : (i : Int) < (n1 : Int) := by omega
  have hx2 : (cn : Int) < 256 := by omega
  have hconv : (convert 54 9 (.slice (some ⟨w.heap.size + 1, 0, none⟩) 1 1)).run Try.prog ((w.alloc (.cells #[.slice A0 n0 c0, .slice (some ⟨b1, o1, none⟩) n1 c1, .slice A2 n2 c2, .slice (some ⟨b3, o3, none⟩) n3 c3] 42)).alloc (.cells #[.int .u8 (cn : Int)] 5)) = .ok (.string ⟨#[c]⟩) ((w.alloc (.cells #[.slice A0 n0 c0, .slice (some ⟨b1, o1, none⟩) n1 c1, .slice A2 n2 c2, .slice (some ⟨b3, o3, none⟩) n3 c3] 42)).alloc (.cells #[.int .u8 (cn : Int)] 5)) := by
    have h9 := run_byte_string (P := Try.prog) (w.alloc (.cells #[.slice A0 n0 c0, .slice (some ⟨b1, o1, none⟩) n1 c1, .slice A2 n2 c2, .slice (some ⟨b3, o3, none⟩) n3 c3] 42)) 54 5 9 Try.underlying54 Try.underlying5 Try.underlying9 (cn : Int) (by omega) (by omega)
    have h8 : UInt8.ofNat (cn : Int).toNat = c := by rw [hcn]; simp
    rw [h8] at h9
    simpa using h9
  have hbw : Below w.heap.size w (w.alloc (.cells #[.slice A0 n0 c0, .slice (some ⟨b1, o1, none⟩) n1 c1, .slice A2 n2 c2, .slice (some ⟨b3, o3, none⟩) n3 c3] 42)) := (Below.refl _ _).alloc (Nat.le_refl _) _
  have HBW := Lib.hid hbw
  clear hot hot2 hcn hpn ht f1 f2 f3 f4 f5 hbw hPA h hpl hpu hr hl0 hl1 hl3
  by_cases hodd : pn % 2 = 1
  · have e1 : ((pn : Int) % 2 == 1) = true := by simp; omega
    have HODD := Lib.hid hodd
    clear hodd
    go_enter Try.func50, Try.ntmps50
    have s1 : (⟨#[c]⟩ : ByteArray).size = 1 := rfl
    go_wp2_with fail
    go_returns
    refine ⟨?_, HBW.out.alloc (by simp) _⟩
    rw [HOT.out, if_pos HODD.out]
    have h7 : (⟨(t.data.toList ++ [c]).toArray⟩ : ByteArray) = t ++ ⟨#[c]⟩ := str_ext (by simp)
    rw [h7]
    rfl
  · have e1 : ((pn : Int) % 2 == 1) = false := by simp; omega
    have HODD := Lib.hid hodd
    clear hodd
    go_enter Try.func50, Try.ntmps50
    go_wp2_with fail
    go_returns
    refine ⟨?_, HBW.out⟩
    rw [HOT.out, if_neg HODD.out, List.append_nil]
    rfl
set_option maxRecDepth 100000 in
set_option maxHeartbeats 4000000 in
theorem step_any (A0 A1 A2 A3 : Option Addr) (n0 n1 n2 n3 c0 c1 c2 c3 : Nat) (m : Mach) (RA : Nat → Option Addr) (rc : Nat → Nat) (PA : Nat → Option Addr) (pc : Nat → Nat) (w : World) (h : MachIn w A0 A1 A2 A3 n0 n1 n2 n3 m RA rc PA pc) (hr : RightM m) (i : Nat) (hi : i < n0) (c : UInt8) :
    Calls Try.prog 48 #[.agg #[.slice A0 n0 c0, .slice A1 n1 c1, .slice A2 n2 c2, .slice A3 n3 c3], .int .i64 i, .int .u8 (c.toNat : Int)] w fun e w' => e = .returned (.tuple #[.string ⟨(outT m i c).toArray⟩, .int .i64 (nextS m i c)]) ∧ Below w.heap.size w w' := by
  have hl0 := h.next.len
  have hl1 := h.put.len
  have hl3 := h.tlen
  obtain ⟨f1, f2, f3, f4, f5, f6⟩ := state_facts hr (i := i) (by omega) c
  have hpl := (hr.states i (by omega)).plen
  have hpu := hr.puts
  have hi1 : i < n1 := by omega
  have hnl := (hr.states i (by omega)).nlen
  obtain ⟨b0, o0, rfl, _, hc0⟩ := h.next.arr.one hi
  unfold RowC at hc0
  obtain ⟨b5, o5, hRA, _, hc5⟩ := (h.next.row i hi).one (k := c.toNat) (by rw [hnl]; exact c.toNat_lt)
  unfold NumC at hc5
  rw [f3] at hc5
  rw [hRA, hnl] at hc0
  obtain ⟨nx, hnx⟩ : ∃ nx, nx = nextS m i c := ⟨_, rfl⟩
  rw [← hnx] at hc5 ⊢
  have hcl := c.toNat_lt
  obtain ⟨b1, o1, rfl, _, hc1⟩ := h.put.arr.one hi1
  unfold RowC at hc1
  obtain ⟨b4, o4, hPA, _, hc4⟩ := (h.put.row i hi1).one (k := c.toNat) (by omega)
  unfold NumC at hc4
  rw [f1] at hc4
  obtain ⟨b3, o3, rfl, _, hc3⟩ := h.tarr.one (k := putN m i c / 2) (by omega)
  unfold StrC at hc3
  rw [hPA, hpl] at hc1
  have hot : outT m i c = (textOf m (putN m i c / 2)).data.toList ++ if putN m i c % 2 = 1 then [c] else [] := rfl
  obtain ⟨pn, hpn⟩ : ∃ pn, pn = putN m i c := ⟨_, rfl⟩
  obtain ⟨t, ht⟩ : ∃ t, t = m.texts.getD (pn / 2) ⟨#[]⟩ := ⟨_, rfl⟩
  rw [← hpn] at hc4 hc3 f2 f6 f5 hot
  rw [← ht] at hc3
  have hts : t.size ≤ 4096 := by rw [ht]; exact f5
  have hot2 : outT m i c = t.data.toList ++ if pn % 2 = 1 then [c] else [] := by rw [hot, ht]; rfl
  have HOT := Lib.hid hot2
  obtain ⟨cn, hcn⟩ : ∃ cn, cn = c.toNat := ⟨_, rfl⟩
  rw [← hcn] at hc4 hc5 hcl ⊢
  have HCN := Lib.hid hcn
  have hb2 : (pn : Int) / 2 < (n3 : Int) := by omega
  have hb3 : (0 : Int) ≤ (pn : Int) / 2 := by omega
  have hx1 : (i : Int) < (n1 : Int) := by omega
  have hx0 : (i : Int) < (n0 : Int) := by omega
  have hx2 : (cn : Int) < 256 := by omega
  have hconv : (convert 54 9 (.slice (some ⟨w.heap.size + 1, 0, none⟩) 1 1)).run Try.prog ((w.alloc (.cells #[.slice (some ⟨b0, o0, none⟩) n0 c0, .slice (some ⟨b1, o1, none⟩) n1 c1, .slice A2 n2 c2, .slice (some ⟨b3, o3, none⟩) n3 c3] 42)).alloc (.cells #[.int .u8 (cn : Int)] 5)) = .ok (.string ⟨#[c]⟩) ((w.alloc (.cells #[.slice (some ⟨b0, o0, none⟩) n0 c0, .slice (some ⟨b1, o1, none⟩) n1 c1, .slice A2 n2 c2, .slice (some ⟨b3, o3, none⟩) n3 c3] 42)).alloc (.cells #[.int .u8 (cn : Int)] 5)) := by
    have h9 := run_byte_string (P := Try.prog) (w.alloc (.cells #[.slice (some ⟨b0, o0, none⟩) n0 c0, .slice (some ⟨b1, o1, none⟩) n1 c1, .slice A2 n2 c2, .slice (some ⟨b3, o3, none⟩) n3 c3] 42)) 54 5 9 Try.underlying54 Try.underlying5 Try.underlying9 (cn : Int) (by omega) (by omega)
    have h8 : UInt8.ofNat (cn : Int).toNat = c := by rw [hcn]; simp
    rw [h8] at h9
    simpa using h9
  have hbw : Below w.heap.size w (w.alloc (.cells #[.slice (some ⟨b0, o0, none⟩) n0 c0, .slice (some ⟨b1, o1, none⟩) n1 c1, .slice A2 n2 c2, .slice (some ⟨b3, o3, none⟩) n3 c3] 42)) := (Below.refl _ _).alloc (Nat.le_refl _) _
  have HBW := Lib.hid hbw
  clear hRA hnx hnl hot hot2 hcn hpn ht f1 f2 f3 f4 f5 hbw hPA h hpl hpu hr hl0 hl1 hl3
  by_cases hodd : pn % 2 = 1
  · have e1 : ((pn : Int) % 2 == 1) = true := by simp; omega
    have HODD := Lib.hid hodd
    clear hodd
    go_enter Try.func48, Try.ntmps48
    have s1 : (⟨#[c]⟩ : ByteArray).size = 1 := rfl
    go_wp2_with fail
    go_quiet (fail)
    go_wp2_with fail
    go_returns
    refine ⟨?_, below_drewN (HBW.out.alloc (by simp) _) _⟩
    rw [HOT.out, if_pos HODD.out]
    have h7 : (⟨(t.data.toList ++ [c]).toArray⟩ : ByteArray) = t ++ ⟨#[c]⟩ := str_ext (by simp)
    rw [h7]
    rfl
  · have e1 : ((pn : Int) % 2 == 1) = false := by simp; omega
    have HODD := Lib.hid hodd
    clear hodd
    go_enter Try.func48, Try.ntmps48
    go_wp2_with fail
    go_quiet (fail)
    go_wp2_with fail
    go_returns
    refine ⟨?_, below_drewN HBW.out _⟩
    rw [HOT.out, if_neg HODD.out, List.append_nil]
    rfl
end Go.Proofs.Ythjnkpoalbddkaa
/- What a machine has put, and where it is, behind a text: plain. -/
namespace Go.Proofs.Ythjnkpoalbddkaa

def stepF (m : Mach) (x : Bs × Nat) (c : UInt8) : Bs × Nat := (x.1 ++ outT m x.2 c, nextS m x.2 c)
/-- what was put of a text's bytes, and the state behind them -/
def after (m : Mach) (s : Bs) : Bs × Nat := s.foldl (stepF m) ([], 0)
theorem after_snoc (m : Mach) (s : Bs) (c : UInt8) : after m (s ++ [c]) = ((after m s).1 ++ outT m (after m s).2 c, nextS m (after m s).2 c) := by simp [after, stepF]
theorem after_lt {m : Mach} (h : RightM m) : ∀ s : Bs, (after m s).2 < m.next.length := fun s => by
  have h1 := h.lo
  have key : ∀ (s : Bs) (x : Bs × Nat), x.2 < m.next.length → (s.foldl (stepF m) x).2 < m.next.length := fun s => by
    induction s with
    | nil => intro x hx; exact hx
    | cons c t ih => intro x hx; exact ih _ (state_facts h hx c).2.2.2.1
  exact key s _ (by show 0 < _; omega)
def endText (m : Mach) (i : Nat) : ByteArray := m.texts.getD (m.ends.getD i 0).toNat ⟨#[]⟩
def total (m : Mach) (s : Bs) : Bs := (after m s).1 ++ (endText m (after m s).2).data.toList
/-- is it too long, at any place, or behind the end? -/
def TooLong (m : Mach) (s : Bs) : Prop := (∃ k, k ≤ s.length ∧ 262144 < (after m (s.take k)).1.length) ∨ 262144 < (total m s).length
open Classical in
noncomputable def runRes (m : Mach) (s : Bs) : Option Bs := if TooLong m s then none else some (total m s)
theorem runRes_long {m : Mach} {s : Bs} (h : TooLong m s) : runRes m s = none := by unfold runRes; rw [if_pos h]
theorem runRes_ok {m : Mach} {s : Bs} (h : ¬ TooLong m s) : runRes m s = some (total m s) := by unfold runRes; rw [if_neg h]
theorem take_step (s : ByteArray) (k : Nat) (c : UInt8) (t : Bs) (h : s.data.toList.drop k = c :: t) : s.data.toList.take (k + 1) = s.data.toList.take k ++ [c] := by
  rw [List.take_add_one]
  have : s.data.toList[k]? = some c := by rw [← List.head?_drop, h]; rfl
  rw [this]; rfl

theorem outT_len {m : Mach} (h : RightM m) {i : Nat} (hi : i < m.next.length) (c : UInt8) : (outT m i c).length ≤ 4097 := by
  have h1 := (state_facts h hi c).2.2.2.2.1
  unfold outT
  rw [List.length_append, size_data]
  split <;> simp <;> omega

end Go.Proofs.Ythjnkpoalbddkaa
/- Maps from things to their places in a list. -/
namespace Go.Proofs.Ythjnkpoalbddkaa
open Go.RowKit Go.Maps Go.WideMaps
/-- how things are spelled as keys -/
structure KeyS (S : Type) where
  lit : S → Lit
  ok : S → Prop
  inj : ∀ a b, ok a → ok b → lit a = lit b → a = b
  isLit : ∀ s, WideAt.IsKeyLit (lit s)
section
variable {H S : Type} [DecidableEq S]
/-- the place of a thing -/
def plc (all : List S) (s : S) : Nat := all.idxOf s
theorem plc_get {l : List S} {s : S} (h : s ∈ l) : l[plc l s]? = some s := by
  unfold plc
  rw [List.getElem?_eq_getElem (List.idxOf_lt_length_of_mem h)]
  simp
theorem plc_old {l : List S} {x : S} (r : List S) (h : x ∈ l) : plc (l ++ r) x = plc l x := by
  unfold plc; rw [List.idxOf_append, if_pos h]
theorem plc_new {l : List S} {x : S} (h : x ∉ l) : plc (l ++ [x]) x = l.length := by
  unfold plc; rw [List.idxOf_append, if_neg h]; simp
def placeI (all : List S) (s : S) : Int := if s ∈ all then (plc all s : Int) else 0
def IdxD (K : KeyS S) (D : DataW H) (all : List S) : Prop :=
  IsMap D ∧ ∀ s, K.ok s → Maps.has D (K.lit s) = decide (s ∈ all) ∧ ∀ z, D.atKey (K.lit s) z = if s ∈ all then .lit (.int .i64 (plc all s : Nat)) else z
theorem idx_empty (K : KeyS S) : IdxD K (.map [] : DataW H) ([] : List S) :=
  ⟨isMap_empty, fun s _ => ⟨by simp; rfl, fun z => by simp; rfl⟩⟩
theorem idx_snoc {K : KeyS S} {D : DataW H} {all : List S} (h : IdxD K D all) (s : S) (hs : K.ok s) (hn : s ∉ all) : IdxD K (D.put (K.lit s) (.lit (.int .i64 (all.length : Nat)))) (all ++ [s]) := by
  refine ⟨h.1.put _ _, fun x hx => ?_⟩
  by_cases e : x = s
  · subst e
    refine ⟨by rw [has_put_same h.1 (K.isLit _)]; simp, fun z => ?_⟩
    rw [atKey_put_same h.1 (K.isLit _), if_pos (by simp), plc_new hn]
  · have hne : K.lit x ≠ K.lit s := fun hk => e (K.inj _ _ hx hs hk)
    refine ⟨by rw [has_put_other hne, (h.2 x hx).1]; simp [e], fun z => ?_⟩
    rw [atKey_put_other hne, (h.2 x hx).2 z]
    by_cases hm : x ∈ all
    · rw [if_pos hm, if_pos (by simp [hm]), plc_old _ hm]
    · rw [if_neg hm, if_neg (by simp [hm, e])]
end
theorem zero3m (w : World) : (zeroValue 3).run Try.prog w = .ok (.int .i64 0) w := by kernel_rfl
theorem idx_lookup {S : Type} [DecidableEq S] {K : KeyS S} {w : World} {g n : Nat} {D : DataW Unit} {all : List S} {mt kt : TypeId} (hkd : Keyed Try.prog kt) (hmt : Try.prog.underlying mt = some (.map kt 3)) (hown : w.ownsMap Try.prog kt (plainElem Try.prog 3) g n D) (hR : IdxD K D all) (s : S) (hs : K.ok s)
    {v : Value} (hv : keyOf Try.prog kt v = some (K.lit s)) :
    (Instr.lookup mt (.map (some g)) v true).run Try.prog w = .ok (.tuple #[.int .i64 (placeI all s), .bool (decide (s ∈ all))]) w := by
  obtain ⟨v', ps, hrun, hv'⟩ := hown.look_ok hkd hmt (zero3m w) (plainElem_int Try.underlying3 (by decide)) hv
  obtain ⟨c, rfl, hc, _⟩ := plainElem_int_inv Try.underlying3 hv'
  simp only [Prod.mk.injEq] at hc
  obtain ⟨hh, hat⟩ := hR.2 s hs
  rw [hrun, hh]
  rw [hat] at hc
  unfold placeI
  by_cases hm : s ∈ all
  · rw [if_pos hm] at hc ⊢
    have : c = (plc all s : Nat) := by have := hc.1; simpa using this.symm
    rw [this]
  · rw [if_neg hm] at hc ⊢
    have : c = 0 := by have := hc.1; simpa using this.symm
    rw [this]
/-! Pairs of numbers. -/
theorem Try.laidOut' : laidOutB Try.prog = true := by kernel_rfl
set_option maxRecDepth 100000 in
theorem key89 : Try.prog.keyTypeAt 2 89 = true := by kernel_rfl
set_option maxRecDepth 100000 in
theorem row89 : (89 : TypeId) < Try.prog.types.size := of_decide_eq_true (by kernel_rfl)
set_option maxRecDepth 100000 in
theorem wide89 : (match Try.prog.underlying 89 with | some (.array _ _) | some (.struct _) => true | _ => false) = true := by rw [Try.underlying89]
set_option maxRecDepth 100000 in
theorem keyed89 : Keyed Try.prog 89 := Keyed.of_law (deep_law_laid Try.laidOut' (m := 2) (by omega) row89 key89 wide89)
set_option maxRecDepth 100000 in
theorem cells89 : Try.prog.cellsOf 89 = 2 := by kernel_rfl
theorem cells3m : Try.prog.cellsOf 3 = 1 := by kernel_rfl
set_option maxRecDepth 100000 in
theorem keyType89 : Try.prog.keyType 89 = true := by kernel_rfl
def keyM (a b : Int) : Lit := .string (keyBytes [.int .i64 a, .int .i64 b])
def I64 (a : Int) : Prop := (Lit.int .i64 a).wf = true
theorem i64_of (a : Int) (h0 : 0 ≤ a) (h1 : a < 9223372036854775807) : I64 a := by
  unfold I64
  exact WalkArith.wf_i64 (by omega)
set_option maxRecDepth 100000 in
theorem keyLits89 (n : Nat) (a b : Int) (ha : I64 a) (hb : I64 b) : Try.prog.keyLits (n + 2) 89 [.int .i64 a, .int .i64 b] = some [.int .i64 a, .int .i64 b] := by
  unfold I64 at ha hb
  simp only [Program.keyLits, Try.underlying89, cells89]
  have hr : List.range 2 = [0, 1] := rfl
  simp [Try.underlying3, cells3m, hr, ha, hb, List.mapM_cons]
set_option maxRecDepth 100000 in
theorem keyOf89 (a b : Int) (ha : I64 a) (hb : I64 b) : keyOf Try.prog 89 (.agg #[.int .i64 a, .int .i64 b]) = some (keyM a b) := by
  have hf : (Value.agg #[.int .i64 a, .int .i64 b]).formed Try.prog 89 = true := by simp [Value.formed, Try.underlying89, cells89]
  have hsz : ∃ n, Try.prog.types.size + 1 = n + 2 := ⟨Try.prog.types.size - 1, by have h : 89 < Try.prog.types.size := row89; omega⟩
  obtain ⟨n, hn⟩ := hsz
  simp only [keyOf, Try.underlying89, keyType89, hf, Bool.and_self, if_true, Value.cells, hn]
  rw [keyLits89 n a b ha hb]
  rfl
theorem keyM_inj {a b c d : Int} (ha : I64 a) (hb : I64 b) (hc : I64 c) (hd : I64 d) (h : keyM a b = keyM c d) : a = c ∧ b = d := by
  have e : keyBytes [.int .i64 a, .int .i64 b] = keyBytes [.int .i64 c, .int .i64 d] := by injection h
  have hsz := keyLits_inj (keyLits89 0 a b ha hb) (keyLits89 0 c d hc hd) e
  simpa using hsz
def pairK : KeyS (Int × Int) := ⟨fun p => keyM p.1 p.2, fun p => I64 p.1 ∧ I64 p.2, fun _ _ ha hb h => Prod.ext (keyM_inj ha.1 ha.2 hb.1 hb.2 h).1 (keyM_inj ha.1 ha.2 hb.1 hb.2 h).2, fun _ => trivial⟩
/-! Texts. -/
def textK : KeyS Bs := ⟨fun t => .string t, fun t => t.length ≤ 9223372036854775807, fun _ _ _ _ h => by injection h, fun _ => trivial⟩
theorem keyOf_text (t : Bs) (h : t.length ≤ 9223372036854775807) : keyOf Try.prog 9 (.string ⟨t.toArray⟩) = some (textK.lit t) := by
  rw [keyOf_string_mk Try.underlying9 (by show t.toArray.size ≤ maxLen; simp [maxLen]; exact h)]
  rfl
end Go.Proofs.Ythjnkpoalbddkaa
/- A machine that is made state by state. Plain. -/
namespace Go.Proofs.Ythjnkpoalbddkaa
structure Mk (S : Type) where
  all : List S
  texts : List Bs
  next : List (List Int)
  put : List (List Int)
  ends : List Int
  bad : Bool
/-- what is put by a number at a byte -/
def putT (texts : List Bs) (p : Int) (c : UInt8) : Bs := texts.getD (p.toNat / 2) [] ++ if p.toNat % 2 = 1 then [c] else []
def oddB (t : Bs) (c : UInt8) : Bool := decide (t.getLast? = some c)
def cutB (t : Bs) (c : UInt8) : Bs := if oddB t c = true then t.dropLast else t
def oddN (t : Bs) (c : UInt8) : Int := if oddB t c = true then 1 else 0
theorem cutB_len (t : Bs) (c : UInt8) : (cutB t c).length ≤ t.length := by
  unfold cutB; split
  · simp
  · exact Nat.le_refl _
theorem cut_back (t : Bs) (c : UInt8) : cutB t c ++ (if oddB t c = true then [c] else []) = t := by
  unfold cutB
  by_cases h : oddB t c = true
  · rw [if_pos h, if_pos h]
    unfold oddB at h
    have h := of_decide_eq_true h
    obtain ⟨l, rfl⟩ := List.getLast?_eq_some_iff.1 h
    simp
  · rw [if_neg h, if_neg h]; simp
section
variable {S : Type}
def Mk.addS [DecidableEq S] (m : Mk S) (s : S) : Mk S := if s ∈ m.all then m else { m with all := m.all ++ [s], bad := m.bad || decide (1200 < m.all.length + 1) }
def Mk.addT (m : Mk S) (t : Bs) : Mk S := if t ∈ m.texts then m else { m with texts := m.texts ++ [t], bad := (m.bad || decide (4096 < m.texts.length + 1)) || decide (4096 < t.length) }
/-- more states and texts, and nothing else -/
structure Mk.Le (m m' : Mk S) : Prop where
  all : ∃ x, m'.all = m.all ++ x
  texts : ∃ x, m'.texts = m.texts ++ x
  next : m'.next = m.next
  put : m'.put = m.put
  ends : m'.ends = m.ends
theorem Mk.Le.refl (m : Mk S) : m.Le m := ⟨⟨[], by simp⟩, ⟨[], by simp⟩, rfl, rfl, rfl⟩
theorem Mk.Le.trans {m m1 m2 : Mk S} (h : m.Le m1) (h2 : m1.Le m2) : m.Le m2 := by
  obtain ⟨x, hx⟩ := h.all
  obtain ⟨y, hy⟩ := h2.all
  obtain ⟨z, hz⟩ := h.texts
  obtain ⟨u, hu⟩ := h2.texts
  exact ⟨⟨x ++ y, by rw [hy, hx]; simp⟩, ⟨z ++ u, by rw [hu, hz]; simp⟩, h2.next.trans h.next, h2.put.trans h.put, h2.ends.trans h.ends⟩
theorem Mk.addS_le [DecidableEq S] (m : Mk S) (s : S) : m.Le (m.addS s) := by
  unfold Mk.addS; split
  · exact Mk.Le.refl m
  · exact ⟨⟨[s], rfl⟩, ⟨[], by simp⟩, rfl, rfl, rfl⟩
theorem Mk.addT_le (m : Mk S) (t : Bs) : m.Le (m.addT t) := by
  unfold Mk.addT; split
  · exact Mk.Le.refl m
  · exact ⟨⟨[], by simp⟩, ⟨[t], rfl⟩, rfl, rfl, rfl⟩
theorem Mk.Le.getAll {m m' : Mk S} (h : m.Le m') {i : Nat} {s : S} (hi : m.all[i]? = some s) : m'.all[i]? = some s := by
  obtain ⟨x, hx⟩ := h.all
  have := (List.getElem?_eq_some_iff.1 hi).1
  rw [hx, List.getElem?_append_left this]; exact hi
theorem Mk.Le.getText {m m' : Mk S} (h : m.Le m') {i : Nat} {s : Bs} (hi : m.texts[i]? = some s) : m'.texts[i]? = some s := by
  obtain ⟨x, hx⟩ := h.texts
  have := (List.getElem?_eq_some_iff.1 hi).1
  rw [hx, List.getElem?_append_left this]; exact hi
theorem Mk.Le.lenAll {m m' : Mk S} (h : m.Le m') : m.all.length ≤ m'.all.length := by
  obtain ⟨x, hx⟩ := h.all; rw [hx]; simp
theorem Mk.Le.lenText {m m' : Mk S} (h : m.Le m') : m.texts.length ≤ m'.texts.length := by
  obtain ⟨x, hx⟩ := h.texts; rw [hx]; simp
theorem Mk.mem_addS [DecidableEq S] (m : Mk S) (s : S) : s ∈ (m.addS s).all := by
  unfold Mk.addS; split
  · assumption
  · simp
theorem Mk.mem_addT (m : Mk S) (t : Bs) : t ∈ (m.addT t).texts := by
  unfold Mk.addT; split
  · assumption
  · simp
/-- the place of a thing: where it stands, or behind all -/
theorem idx_addS [DecidableEq S] (m : Mk S) (s : S) : (plc (m.addS s).all s) = if s ∈ m.all then plc m.all s else m.all.length := by
  unfold Mk.addS; split
  · rfl
  · rename_i h; exact plc_new h
theorem idx_addT (m : Mk S) (t : Bs) : (plc (m.addT t).texts t) = if t ∈ m.texts then plc m.texts t else m.texts.length := by
  unfold Mk.addT; split
  · rfl
  · rename_i h; exact plc_new h
variable (step : S → UInt8 → Bs × S) (fin : S → Bs) (first : S)
structure CellOk (m : Mk S) (s : S) (c : UInt8) (nx pt : Int) : Prop where
  n0 : 0 ≤ nx
  ns : m.all[nx.toNat]? = some (step s c).2
  p0 : 0 ≤ pt
  pl : pt.toNat / 2 < m.texts.length
  ps : putT m.texts pt c = (step s c).1
structure RowOk (m : Mk S) (s : S) (nx pt : List Int) (k : Nat) : Prop where
  nl : nx.length = k
  pl : pt.length = k
  cell : ∀ c, c < k → CellOk step m s (UInt8.ofNat c) (nx.getD c 0) (pt.getD c 0)
structure MkOk (m : Mk S) (k : Nat) : Prop where
  nd : m.all.Nodup
  tnd : m.texts.Nodup
  f0 : m.all[0]? = some first
  t0 : 0 < m.texts.length
  nl : m.next.length = k
  pl : m.put.length = k
  el : m.ends.length = k
  kl : k ≤ m.all.length
  rows : ∀ i, i < k → ∃ s, m.all[i]? = some s ∧ RowOk step m s (m.next.getD i []) (m.put.getD i []) 256 ∧ 0 ≤ m.ends.getD i 0 ∧ m.texts[(m.ends.getD i 0).toNat]? = some (fin s)
  bad : m.bad = true ↔ (1200 < m.all.length ∨ 4096 < m.texts.length ∨ ∃ t ∈ m.texts, 4096 < t.length)
variable {step fin first}
theorem CellOk.le {m m' : Mk S} {s : S} {c : UInt8} {nx pt : Int} (h : CellOk step m s c nx pt) (hl : m.Le m') : CellOk step m' s c nx pt := by
  refine ⟨h.n0, hl.getAll h.ns, h.p0, Nat.lt_of_lt_of_le h.pl hl.lenText, ?_⟩
  rw [← h.ps]
  unfold putT
  have h1 := List.getElem?_eq_getElem h.pl
  have h2 := hl.getText h1
  rw [List.getD_eq_getElem?_getD, List.getD_eq_getElem?_getD, h1, h2]
theorem RowOk.le {m m' : Mk S} {s : S} {nx pt : List Int} {k : Nat} (h : RowOk step m s nx pt k) (hl : m.Le m') : RowOk step m' s nx pt k :=
  ⟨h.nl, h.pl, fun c hc => (h.cell c hc).le hl⟩
theorem MkOk.rowsLe {m m' : Mk S} {k : Nat} (h : MkOk step fin first m k) (hl : m.Le m') : ∀ i, i < k → ∃ s, m'.all[i]? = some s ∧ RowOk step m' s (m'.next.getD i []) (m'.put.getD i []) 256 ∧ 0 ≤ m'.ends.getD i 0 ∧ m'.texts[(m'.ends.getD i 0).toNat]? = some (fin s) := fun i hi => by
  obtain ⟨s, h1, h2, h3, h4⟩ := h.rows i hi
  rw [hl.next, hl.put, hl.ends]
  exact ⟨s, hl.getAll h1, h2.le hl, h3, hl.getText h4⟩
theorem MkOk.addS [DecidableEq S] {m : Mk S} {k : Nat} (h : MkOk step fin first m k) (s : S) : MkOk step fin first (m.addS s) k := by
  have hl := m.addS_le s
  have hr := h.rowsLe hl
  by_cases hs : s ∈ m.all
  · have e : m.addS s = m := by unfold Mk.addS; rw [if_pos hs]
    rw [e]; exact h
  · have e : m.addS s = { m with all := m.all ++ [s], bad := m.bad || decide (1200 < m.all.length + 1) } := by unfold Mk.addS; rw [if_neg hs]
    rw [e] at hl hr ⊢
    refine ⟨?_, h.tnd, hl.getAll h.f0, h.t0, h.nl, h.pl, h.el, Nat.le_trans h.kl hl.lenAll, hr, ?_⟩
    · show (m.all ++ [s]).Nodup
      rw [List.nodup_append]
      refine ⟨h.nd, by simp, fun a ha b hb => ?_⟩
      simp at hb; subst hb
      intro e9; subst e9; exact hs ha
    · show (m.bad || decide (1200 < m.all.length + 1)) = true ↔ (1200 < (m.all ++ [s]).length ∨ _)
      rw [Bool.or_eq_true, h.bad, decide_eq_true_eq, List.length_append, List.length_singleton]
      constructor
      · rintro ((h1 | h1) | h1)
        · exact .inl (by omega)
        · exact .inr h1
        · exact .inl h1
      · rintro (h1 | h1)
        · exact .inr h1
        · exact .inl (.inr h1)
theorem MkOk.addT {m : Mk S} {k : Nat} (h : MkOk step fin first m k) (t : Bs) : MkOk step fin first (m.addT t) k := by
  have hl := m.addT_le t
  have hr := h.rowsLe hl
  by_cases hs : t ∈ m.texts
  · have e : m.addT t = m := by unfold Mk.addT; rw [if_pos hs]
    rw [e]; exact h
  · have e : m.addT t = { m with texts := m.texts ++ [t], bad := (m.bad || decide (4096 < m.texts.length + 1)) || decide (4096 < t.length) } := by unfold Mk.addT; rw [if_neg hs]
    rw [e] at hl hr ⊢
    refine ⟨h.nd, ?_, h.f0, Nat.lt_of_lt_of_le h.t0 hl.lenText, h.nl, h.pl, h.el, h.kl, hr, ?_⟩
    · show (m.texts ++ [t]).Nodup
      rw [List.nodup_append]
      refine ⟨h.tnd, by simp, fun a ha b hb => ?_⟩
      simp at hb; subst hb
      intro e9; subst e9; exact hs ha
    · show ((m.bad || decide (4096 < m.texts.length + 1)) || decide (4096 < t.length)) = true ↔ (_ ∨ 4096 < (m.texts ++ [t]).length ∨ ∃ u ∈ m.texts ++ [t], _)
      rw [Bool.or_eq_true, Bool.or_eq_true, h.bad, decide_eq_true_eq, decide_eq_true_eq, List.length_append, List.length_singleton]
      constructor
      · rintro (((h1 | h1 | ⟨u, hu, h1⟩) | h1) | h1)
        · exact .inl h1
        · exact .inr (.inl (by omega))
        · exact .inr (.inr ⟨u, by simp [hu], h1⟩)
        · exact .inr (.inl h1)
        · exact .inr (.inr ⟨t, by simp, h1⟩)
      · rintro (h1 | h1 | ⟨u, hu, h1⟩)
        · exact .inl (.inl (.inl h1))
        · exact .inl (.inr h1)
        · rcases List.mem_append.1 hu with hu | hu
          · exact .inl (.inl (.inr (.inr ⟨u, hu, h1⟩)))
          · simp at hu; subst hu; exact .inr h1
theorem getD_app {l r : List Int} {j : Nat} (h : j < l.length) : (l ++ r).getD j 0 = l.getD j 0 := by
  rw [List.getD_eq_getElem?_getD, List.getElem?_append_left h, ← List.getD_eq_getElem?_getD]
/-- one byte more of a row -/
theorem RowOk.snoc [DecidableEq S] {m : Mk S} {s : S} {nx pt : List Int} {k : Nat} (h : RowOk step m s nx pt k) (hk : k < 256) :
    RowOk step ((m.addS (step s (UInt8.ofNat k)).2).addT (cutB (step s (UInt8.ofNat k)).1 (UInt8.ofNat k))) s
      (nx ++ [((plc (m.addS (step s (UInt8.ofNat k)).2).all (step s (UInt8.ofNat k)).2 : Nat) : Int)])
      (pt ++ [2 * ((plc ((m.addS (step s (UInt8.ofNat k)).2).addT (cutB (step s (UInt8.ofNat k)).1 (UInt8.ofNat k))).texts (cutB (step s (UInt8.ofNat k)).1 (UInt8.ofNat k)) : Nat) : Int) + oddN (step s (UInt8.ofNat k)).1 (UInt8.ofNat k)]) (k + 1) := by
  obtain ⟨c, hc⟩ : ∃ c, c = UInt8.ofNat k := ⟨_, rfl⟩
  rw [← hc]
  obtain ⟨m1, hm1⟩ : ∃ m1, m1 = m.addS (step s c).2 := ⟨_, rfl⟩
  obtain ⟨t, ht⟩ : ∃ t, t = cutB (step s c).1 c := ⟨_, rfl⟩
  rw [← hm1, ← ht]
  have l1 : m.Le m1 := by rw [hm1]; exact m.addS_le _
  have l2 := m1.addT_le t
  have h2 := h.le (l1.trans l2)
  refine ⟨by simp [h.nl], by simp [h.pl], fun j hj => ?_⟩
  by_cases e : j < k
  · rw [getD_app (by rw [h.nl]; exact e), getD_app (by rw [h.pl]; exact e)]
    exact h2.cell j e
  · obtain rfl : j = k := by omega
    rw [← hc]
    have g1 : (nx ++ [((plc m1.all (step s c).2 : Nat) : Int)]).getD j 0 = ((plc m1.all (step s c).2 : Nat) : Int) := by
      rw [List.getD_eq_getElem?_getD, List.getElem?_append_right (by rw [h.nl]; exact Nat.le_refl _), h.nl]; simp
    have g2 : (pt ++ [2 * ((plc (m1.addT t).texts t : Nat) : Int) + oddN (step s c).1 c]).getD j 0 = 2 * ((plc (m1.addT t).texts t : Nat) : Int) + oddN (step s c).1 c := by
      rw [List.getD_eq_getElem?_getD, List.getElem?_append_right (by rw [h.pl]; exact Nat.le_refl _), h.pl]; simp
    rw [g1, g2]
    obtain ⟨x, hx⟩ : ∃ x, x = plc (m1.addT t).texts t := ⟨_, rfl⟩
    have hxl : (m1.addT t).texts[x]? = some t := by rw [hx]; exact plc_get (m1.mem_addT t)
    rw [← hx]
    have hodd : oddN (step s c).1 c = 0 ∨ oddN (step s c).1 c = 1 := by unfold oddN; split <;> simp
    have e2 : (2 * (x : Int) + oddN (step s c).1 c).toNat / 2 = x := by omega
    refine ⟨by omega, ?_, by omega, ?_, ?_⟩
    · rw [Int.toNat_natCast]
      refine l2.getAll ?_
      rw [hm1]
      exact plc_get (m.mem_addS _)
    · rw [e2]; exact (List.getElem?_eq_some_iff.1 hxl).1
    · unfold putT
      rw [e2, List.getD_eq_getElem?_getD, hxl, Option.getD_some, ht]
      have e3 : (2 * (x : Int) + oddN (step s c).1 c).toNat % 2 = 1 ↔ oddB (step s c).1 c = true := by
        unfold oddN
        by_cases h9 : oddB (step s c).1 c = true
        · rw [if_pos h9]; simp [h9]; omega
        · rw [if_neg h9]; simp [h9]; omega
      have e4 := cut_back (step s c).1 c
      by_cases h9 : oddB (step s c).1 c = true
      · rw [if_pos (e3.2 h9)]; rw [if_pos h9] at e4; exact e4
      · rw [if_neg (fun h8 => h9 (e3.1 h8))]; rw [if_neg h9] at e4; exact e4
end
end Go.Proofs.Ythjnkpoalbddkaa
/- A machine that is made state by state: its beginning, a state more, and what it does. Plain. -/
namespace Go.Proofs.Ythjnkpoalbddkaa
section
variable {S : Type} {step : S → UInt8 → Bs × S} {fin : S → Bs} {first : S}
theorem MkOk.start [DecidableEq S] (s : S) : MkOk step fin s (((⟨[], [], [], [], [], false⟩ : Mk S).addS s).addT []) 0 := by
  have e1 : (⟨[], [], [], [], [], false⟩ : Mk S).addS s = ⟨[s], [], [], [], [], false⟩ := by unfold Mk.addS; rw [if_neg (by simp)]; simp
  have e2 : (⟨[s], [], [], [], [], false⟩ : Mk S).addT [] = ⟨[s], [[]], [], [], [], false⟩ := by unfold Mk.addT; rw [if_neg (by simp)]; simp
  rw [e1, e2]
  refine ⟨by simp, by simp, rfl, by simp, rfl, rfl, rfl, by simp, fun i hi => absurd hi (by omega), ?_⟩
  simp
/-- a state is whole: its rows and its end -/
def Mk.rowed (m : Mk S) (nx pt : List Int) : Mk S := { m with next := m.next ++ [nx], put := m.put ++ [pt] }
def Mk.ended (m : Mk S) (e : Int) : Mk S := { m with ends := m.ends ++ [e] }
theorem getD_end {α : Type} {l : List α} {x d : α} {k : Nat} (h : l.length = k) : (l ++ [x]).getD k d = x := by
  subst h; simp
theorem getD_pre {α : Type} {l r : List α} {d : α} {k : Nat} (h : k < l.length) : (l ++ r).getD k d = l.getD k d := by
  rw [List.getD_eq_getElem?_getD, List.getElem?_append_left h, ← List.getD_eq_getElem?_getD]
theorem MkOk.whole {m : Mk S} {k : Nat} (h : MkOk step fin first m k) {s : S} {nx pt : List Int} (hs : m.all[k]? = some s) (hr : RowOk step m s nx pt 256) :
    MkOk step fin first ((((m.rowed nx pt)).addT (fin s)).ended (plc ((m.rowed nx pt).addT (fin s)).texts (fin s) : Nat)) (k + 1) := by
  have hl := m.addT_le (fin s)
  have hT := h.addT (fin s)
  have e1 : ((m.rowed nx pt).addT (fin s)).all = (m.addT (fin s)).all := by unfold Mk.addT Mk.rowed; split <;> rfl
  have e2 : ((m.rowed nx pt).addT (fin s)).texts = (m.addT (fin s)).texts := by unfold Mk.addT Mk.rowed; split <;> rfl
  have e3 : ((m.rowed nx pt).addT (fin s)).bad = (m.addT (fin s)).bad := by unfold Mk.addT Mk.rowed; split <;> rfl
  have e4 : ((m.rowed nx pt).addT (fin s)).next = m.next ++ [nx] := ((m.rowed nx pt).addT_le (fin s)).next
  have e5 : ((m.rowed nx pt).addT (fin s)).put = m.put ++ [pt] := ((m.rowed nx pt).addT_le (fin s)).put
  have e6 : ((m.rowed nx pt).addT (fin s)).ends = m.ends := ((m.rowed nx pt).addT_le (fin s)).ends
  obtain ⟨q, hq⟩ : ∃ q, q = (m.rowed nx pt).addT (fin s) := ⟨_, rfl⟩
  have hmem : fin s ∈ q.texts := by rw [hq]; exact (m.rowed nx pt).mem_addT (fin s)
  rw [← hq] at e1 e2 e3 e4 e5 e6 ⊢
  have hall : (m.addT (fin s)).all = m.all := by unfold Mk.addT; split <;> rfl
  have hcell : ∀ {s' : S} {c : UInt8} {x p : Int}, CellOk step m s' c x p → CellOk step (q.ended (plc q.texts (fin s) : Nat)) s' c x p := fun {s' c x p} hc => by
    have := hc.le hl
    refine ⟨this.n0, ?_, this.p0, ?_, ?_⟩
    · show q.all[_]? = _; rw [e1]; exact this.ns
    · show _ < q.texts.length; rw [e2]; exact this.pl
    · show putT q.texts p c = _; rw [e2]; exact this.ps
  have hrow : ∀ {s' : S} {x p : List Int}, RowOk step m s' x p 256 → RowOk step (q.ended (plc q.texts (fin s) : Nat)) s' x p 256 := fun {s' x p} hc => ⟨hc.nl, hc.pl, fun c hc2 => hcell (hc.cell c hc2)⟩
  refine ⟨?_, ?_, ?_, ?_, ?_, ?_, ?_, ?_, fun i hi => ?_, ?_⟩
  · show q.all.Nodup; rw [e1]; exact hT.nd
  · show q.texts.Nodup; rw [e2]; exact hT.tnd
  · show q.all[0]? = _; rw [e1]; exact hT.f0
  · show 0 < q.texts.length; rw [e2]; exact hT.t0
  · show q.next.length = _; rw [e4]; simp [h.nl]
  · show q.put.length = _; rw [e5]; simp [h.pl]
  · show (q.ends ++ [_]).length = _; rw [e6]; simp [h.el]
  · show k + 1 ≤ q.all.length
    rw [e1, hall]
    have := (List.getElem?_eq_some_iff.1 hs).1
    omega
  · show ∃ s', q.all[i]? = some s' ∧ RowOk step (q.ended (plc q.texts (fin s) : Nat)) s' (q.next.getD i []) (q.put.getD i []) 256 ∧ 0 ≤ (q.ends ++ [((plc q.texts (fin s) : Nat) : Int)]).getD i 0 ∧ q.texts[((q.ends ++ [((plc q.texts (fin s) : Nat) : Int)]).getD i 0).toNat]? = some (fin s')
    rw [e4, e5, e6, e1, hall]
    by_cases e : i < k
    · obtain ⟨s', h1, h2, h3, h4⟩ := h.rows i e
      rw [getD_pre (by rw [h.nl]; exact e), getD_pre (by rw [h.pl]; exact e), getD_pre (by rw [h.el]; exact e)]
      exact ⟨s', h1, hrow h2, h3, by rw [e2]; exact hl.getText h4⟩
    · obtain rfl : i = k := by omega
      rw [getD_end h.nl, getD_end h.pl, getD_end h.el]
      exact ⟨s, hs, hrow hr, by omega, by rw [Int.toNat_natCast]; exact plc_get hmem⟩
  · show q.bad = true ↔ (1200 < q.all.length ∨ 4096 < q.texts.length ∨ ∃ t ∈ q.texts, 4096 < t.length)
    rw [e3, e1, e2]
    exact hT.bad
/-- the machine -/
def Mk.mach (m : Mk S) : Mach := ⟨m.next, m.put, m.ends, m.texts.map fun t => ⟨t.toArray⟩⟩
/-- what steps make of a text: what is put, and the thing behind it -/
def runS (step : S → UInt8 → Bs × S) (first : S) (s : Bs) : Bs × S := s.foldl (fun x c => (x.1 ++ (step x.2 c).1, (step x.2 c).2)) ([], first)
theorem runS_snoc (s : Bs) (c : UInt8) : runS step first (s ++ [c]) = ((runS step first s).1 ++ (step (runS step first s).2 c).1, (step (runS step first s).2 c).2) := by
  unfold runS; rw [List.foldl_append]; rfl
theorem textOf_mach (m : Mk S) (i : Nat) : (textOf m.mach i).data.toList = m.texts.getD i [] := by
  unfold textOf Mk.mach
  simp only [List.getD_eq_getElem?_getD, List.getElem?_map]
  cases m.texts[i]? with
  | none => rfl
  | some t => simp
theorem MkOk.cellAt {m : Mk S} (h : MkOk step fin first m m.all.length) {i : Nat} {s : S} (hi : m.all[i]? = some s) (c : UInt8) : CellOk step m s c ((m.next.getD i []).getD c.toNat 0) ((m.put.getD i []).getD c.toNat 0) := by
  have hl := (List.getElem?_eq_some_iff.1 hi).1
  obtain ⟨s', h1, h2, _, _⟩ := h.rows i hl
  rw [hi] at h1
  injection h1 with h1
  subst h1
  have := h2.cell c.toNat c.toNat_lt
  rwa [UInt8.ofNat_toNat] at this
theorem MkOk.out {m : Mk S} (h : MkOk step fin first m m.all.length) {i : Nat} {s : S} (hi : m.all[i]? = some s) (c : UInt8) : outT m.mach i c = (step s c).1 ∧ m.all[nextS m.mach i c]? = some (step s c).2 := by
  have hc := h.cellAt hi c
  refine ⟨?_, hc.ns⟩
  rw [← hc.ps]
  unfold outT putT
  rw [textOf_mach]
  rfl
theorem MkOk.after {m : Mk S} (h : MkOk step fin first m m.all.length) (s : Bs) : (after m.mach s).1 = (runS step first s).1 ∧ m.all[(after m.mach s).2]? = some (runS step first s).2 := by
  have key : ∀ (n : Nat) (s : Bs), s.length = n → (Go.Proofs.Ythjnkpoalbddkaa.after m.mach s).1 = (runS step first s).1 ∧ m.all[(Go.Proofs.Ythjnkpoalbddkaa.after m.mach s).2]? = some (runS step first s).2 := by
    intro n
    induction n with
    | zero =>
      intro s hs
      obtain rfl := List.length_eq_zero_iff.1 hs
      exact ⟨rfl, h.f0⟩
    | succ n ih =>
      intro s hs
      obtain ⟨t, c, rfl⟩ : ∃ t c, s = t ++ [c] := ⟨s.dropLast, s.getLast (by intro e; subst e; simp at hs), (List.dropLast_concat_getLast _).symm⟩
      have h1 := ih t (by simpa using hs)
      have h2 := h.out h1.2 c
      rw [after_snoc, runS_snoc, h1.1, h2.1]
      exact ⟨rfl, h2.2⟩
  exact key _ s rfl
theorem MkOk.endOf {m : Mk S} (h : MkOk step fin first m m.all.length) {i : Nat} {s : S} (hi : m.all[i]? = some s) : (endText m.mach i).data.toList = fin s := by
  have hl := (List.getElem?_eq_some_iff.1 hi).1
  obtain ⟨s', h1, _, _, h4⟩ := h.rows i hl
  rw [hi] at h1
  injection h1 with h1
  subst h1
  obtain ⟨k, hk⟩ : ∃ k, k = (m.ends.getD i 0).toNat := ⟨_, rfl⟩
  rw [← hk] at h4
  have e := textOf_mach m k
  rw [List.getD_eq_getElem?_getD, h4] at e
  unfold endText
  show (m.mach.texts.getD (m.ends.getD i 0).toNat _).data.toList = _
  rw [← hk]
  exact e
theorem MkOk.total {m : Mk S} (h : MkOk step fin first m m.all.length) (s : Bs) : total m.mach s = (runS step first s).1 ++ fin (runS step first s).2 := by
  have h1 := h.after s
  unfold Go.Proofs.Ythjnkpoalbddkaa.total
  rw [h1.1, h.endOf h1.2]
theorem MkOk.right {m : Mk S} (h : MkOk step fin first m m.all.length) (hb : m.bad = false) : RightM m.mach := by
  have hnb : ¬ (1200 < m.all.length ∨ 4096 < m.texts.length ∨ ∃ t ∈ m.texts, 4096 < t.length) := fun e => by
    have := h.bad.2 e
    rw [hb] at this
    cases this
  have h0 : 0 < m.all.length := (List.getElem?_eq_some_iff.1 h.f0).1
  refine ⟨by show 1 ≤ m.next.length; rw [h.nl]; omega, by show m.next.length ≤ 1200; rw [h.nl]; omega, by show m.put.length = m.next.length; rw [h.nl, h.pl], by show m.ends.length = m.next.length; rw [h.nl, h.el], by show (m.texts.map _).length ≤ 4096; rw [List.length_map]; omega, fun i hi => ?_, fun ⟨j, hj, hl⟩ => ?_⟩
  · have hi2 : i < m.all.length := by have : i < m.next.length := hi; rw [h.nl] at this; exact this
    obtain ⟨s, h1, h2, h3, h4⟩ := h.rows i hi2
    refine ⟨h2.nl, h2.pl, h3, ?_, fun ⟨j, hj, ho⟩ => ?_, fun ⟨j, hj, ho⟩ => ?_⟩
    · show m.ends.getD i 0 < ((m.texts.map _).length : Int)
      rw [List.length_map]
      have := (List.getElem?_eq_some_iff.1 h4).1
      omega
    · have hc := h2.cell j hj
      have h9 := (List.getElem?_eq_some_iff.1 hc.ns).1
      have h8 := hc.n0
      change (m.next.getD i []).getD j 0 < 0 ∨ (m.next.length : Int) ≤ (m.next.getD i []).getD j 0 at ho
      rw [h.nl] at ho
      omega
    · have hc := h2.cell j hj
      have h9 := hc.pl
      have h8 := hc.p0
      change (m.put.getD i []).getD j 0 < 0 ∨ 2 * ((m.texts.map _).length : Int) ≤ (m.put.getD i []).getD j 0 at ho
      rw [List.length_map] at ho
      omega
  · have hj2 : j < m.texts.length := by have : j < (m.texts.map _).length := hj; rwa [List.length_map] at this
    refine hnb (.inr (.inr ⟨m.texts[j], List.getElem_mem hj2, ?_⟩))
    change 4096 < ((m.texts.map fun t => (⟨t.toArray⟩ : ByteArray)).getD j ⟨#[]⟩).size at hl
    rw [List.getD_eq_getElem?_getD, List.getElem?_map, List.getElem?_eq_getElem hj2] at hl
    simpa [ByteArray.size] using hl
end
end Go.Proofs.Ythjnkpoalbddkaa
/- What holds while a maker runs. Plain. -/
namespace Go.Proofs.Ythjnkpoalbddkaa
section
variable {S : Type} (step : S → UInt8 → Bs × S) (fin : S → Bs) (first : S) (Ok : S → Prop) (lg : S → UInt8 → Bool) (lge : S → Bool)
/-- a text that a run may lay down -/
def TxOf (t : Bs) : Prop := t = [] ∨ ∃ s, Ok s ∧ ((∃ c, t = cutB (step s c).1 c) ∨ t = fin s)
structure RunI (m : Mk S) (k c : Nat) (fl : Bool) : Prop where
  ok : MkOk step fin first m k
  mem : ∀ s ∈ m.all, Ok s
  tl : m.texts.length ≤ 1 + 257 * k + c
  tx : ∀ t ∈ m.texts, TxOf step fin Ok t
  done : fl = false → ∀ i s, i < k → m.all[i]? = some s → (∀ c, lg s c = false) ∧ lge s = false
  now : fl = false → ∀ s, m.all[k]? = some s → ∀ j, j < c → lg s (UInt8.ofNat j) = false
variable {step fin first Ok lg lge}
theorem addT_len (m : Mk S) (t : Bs) : (m.addT t).texts.length ≤ m.texts.length + 1 := by
  unfold Mk.addT; split
  · omega
  · simp
theorem addT_mem {m : Mk S} {t u : Bs} (h : u ∈ (m.addT t).texts) : u ∈ m.texts ∨ u = t := by
  unfold Mk.addT at h; split at h
  · exact .inl h
  · simpa using h
theorem addS_mem [DecidableEq S] {m : Mk S} {s u : S} (h : u ∈ (m.addS s).all) : u ∈ m.all ∨ u = s := by
  unfold Mk.addS at h; split at h
  · exact .inl h
  · simpa using h
theorem addS_texts [DecidableEq S] (m : Mk S) (s : S) : (m.addS s).texts = m.texts := by unfold Mk.addS; split <;> rfl
theorem addT_all (m : Mk S) (t : Bs) : (m.addT t).all = m.all := by unfold Mk.addT; split <;> rfl
theorem addS_len [DecidableEq S] (m : Mk S) (s : S) : (m.addS s).all.length ≤ m.all.length + 1 := by
  unfold Mk.addS; split
  · omega
  · simp
theorem RunI.start [DecidableEq S] (h : Ok first) : RunI step fin first Ok lg lge (((⟨[], [], [], [], [], false⟩ : Mk S).addS first).addT []) 0 0 false := by
  have h0 := MkOk.start (step := step) (fin := fin) first
  refine ⟨h0, fun s hs => ?_, ?_, fun t ht => ?_, fun _ i s hi _ => absurd hi (by omega), fun _ s _ j hj => absurd hj (by omega)⟩
  · rw [addT_all] at hs
    rcases addS_mem hs with hs | hs
    · cases hs
    · rw [hs]; exact h
  · have := addT_len ((⟨[], [], [], [], [], false⟩ : Mk S).addS first) []
    rw [addS_texts] at this
    simp at this; omega
  · rcases addT_mem ht with ht | ht
    · rw [addS_texts] at ht; cases ht
    · exact .inl ht
theorem RunI.round [DecidableEq S] {m : Mk S} {k c : Nat} {fl : Bool} (h : RunI step fin first Ok lg lge m k c fl) (hok : ∀ s c, Ok s → Ok (step s c).2) {s : S} (hs : m.all[k]? = some s) :
    RunI step fin first Ok lg lge ((m.addS (step s (UInt8.ofNat c)).2).addT (cutB (step s (UInt8.ofNat c)).1 (UInt8.ofNat c))) k (c + 1) (fl || lg s (UInt8.ofNat c)) := by
  have l1 := m.addS_le (step s (UInt8.ofNat c)).2
  have l2 := (m.addS (step s (UInt8.ofNat c)).2).addT_le (cutB (step s (UInt8.ofNat c)).1 (UInt8.ofNat c))
  have hl := l1.trans l2
  have hsm : Ok s := h.mem s (List.mem_of_getElem? hs)
  have hkl : k < m.all.length := (List.getElem?_eq_some_iff.1 hs).1
  refine ⟨(h.ok.addS _).addT _, fun u hu => ?_, ?_, fun t ht => ?_, fun hf i u hi hu => ?_, fun hf u hu j hj => ?_⟩
  · rw [addT_all] at hu
    rcases addS_mem hu with hu | hu
    · exact h.mem u hu
    · rw [hu]; exact hok _ _ hsm
  · have := addT_len (m.addS (step s (UInt8.ofNat c)).2) (cutB (step s (UInt8.ofNat c)).1 (UInt8.ofNat c))
    rw [addS_texts] at this
    have := h.tl
    omega
  · rcases addT_mem ht with ht | ht
    · rw [addS_texts] at ht; exact h.tx t ht
    · exact .inr ⟨s, hsm, .inl ⟨_, ht⟩⟩
  · rw [Bool.or_eq_false_iff] at hf
    have h1 := List.getElem?_eq_getElem (show i < m.all.length by omega)
    have h2 := hl.getAll h1
    rw [h2] at hu
    injection hu with hu
    subst hu
    exact h.done hf.1 i _ hi h1
  · rw [Bool.or_eq_false_iff] at hf
    rw [hl.getAll hs] at hu
    injection hu with hu
    subst hu
    by_cases e : j < c
    · exact h.now hf.1 _ hs j e
    · obtain rfl : j = c := by omega
      exact hf.2
theorem RunI.whole {m : Mk S} {k : Nat} {fl : Bool} (h : RunI step fin first Ok lg lge m k 256 fl) {s : S} {nx pt : List Int} (hs : m.all[k]? = some s) (hr : RowOk step m s nx pt 256) :
    RunI step fin first Ok lg lge (((m.rowed nx pt).addT (fin s)).ended (plc ((m.rowed nx pt).addT (fin s)).texts (fin s) : Nat)) (k + 1) 0 (fl || lge s) := by
  have hsm : Ok s := h.mem s (List.mem_of_getElem? hs)
  have e1 : ((m.rowed nx pt).addT (fin s)).all = m.all := by rw [addT_all]; rfl
  refine ⟨h.ok.whole hs hr, fun u hu => ?_, ?_, fun t ht => ?_, fun hf i u hi hu => ?_, fun hf u hu j hj => absurd hj (by omega)⟩
  · exact h.mem u (e1 ▸ hu)
  · show ((m.rowed nx pt).addT (fin s)).texts.length ≤ _
    have := addT_len (m.rowed nx pt) (fin s)
    have h9 : (m.rowed nx pt).texts = m.texts := rfl
    rw [h9] at this
    have := h.tl
    omega
  · rcases addT_mem (m := m.rowed nx pt) ht with ht | ht
    · exact h.tx t ht
    · exact .inr ⟨s, hsm, .inr ht⟩
  · rw [Bool.or_eq_false_iff] at hf
    have hu : m.all[i]? = some u := by rw [← e1]; exact hu
    by_cases e : i < k
    · exact h.done hf.1 i _ e hu
    · obtain rfl : i = k := by omega
      rw [hs] at hu
      injection hu with hu
      subst hu
      refine ⟨fun c => ?_, hf.2⟩
      have := h.now hf.1 _ hs c.toNat c.toNat_lt
      simpa using this
/-- the texts are few -/
theorem RunI.few {m : Mk S} {k c : Nat} {fl : Bool} (h : RunI step fin first Ok lg lge m k c fl) (hk : k < m.all.length ∧ c ≤ 256 ∨ c = 0) : m.texts.length ≤ 1 + 257 * m.all.length := by
  have := h.tl
  have := h.ok.kl
  omega
/-- with few states and short texts nothing is too much -/
theorem RunI.fits {m : Mk S} {k c : Nat} {fl : Bool} (h : RunI step fin first Ok lg lge m k c fl) (hk : k < m.all.length ∧ c ≤ 256 ∨ c = 0) (h1 : m.all.length ≤ 15) (h2 : ∀ s, Ok s → (∀ c, (step s c).1.length ≤ 4096) ∧ (fin s).length ≤ 4096) : m.bad = false := by
  have hf := h.few hk
  cases hb : m.bad with
  | false => rfl
  | true =>
    exfalso
    rcases h.ok.bad.1 hb with h9 | h9 | ⟨t, ht, h9⟩
    · omega
    · omega
    · rcases h.tx t ht with rfl | ⟨s, hs, ⟨c, rfl⟩ | rfl⟩
      · simp at h9
      · have := (h2 s hs).1 c
        have := cutB_len (step s c).1 c
        omega
      · have := (h2 s hs).2
        omega
end
end Go.Proofs.Ythjnkpoalbddkaa
/- The machine of rules: what it puts, and how few texts it lays down. Plain. -/
namespace Go.Proofs.Ythjnkpoalbddkaa
/-- what may still become a longer From -/
def OpenW (R : List Rule) (w : Bs) : Prop := w = [] ∨ ∃ r ∈ R, w.length < r.1.length ∧ w <+: r.1
open Classical in
noncomputable def openB (R : List Rule) (w : Bs) : Bool := if OpenW R w then true else false
theorem openB_iff {R : List Rule} {w : Bs} : openB R w = true ↔ OpenW R w := by unfold openB; split <;> simp_all
open Classical in
/-- one cut: the rule that is taken, or a byte -/
noncomputable def one (R : List Rule) (x : Bs × Bs) : Bs × Bs :=
  match x.2 with
  | [] => x
  | c :: t => if h : ∃ r, Best R x.2 r then (x.1 ++ (Classical.choose h).2, x.2.drop (Classical.choose h).1.length) else (x.1 ++ [c], t)
noncomputable def cutN (R : List Rule) : Nat → Bs × Bs → Bs × Bs
  | 0, x => x
  | n + 1, x => cutN R n (one R x)
open Classical in
/-- cuts till what is left is open -/
noncomputable def cuts (R : List Rule) : Nat → Bs × Bs → Bs × Bs
  | 0, x => x
  | n + 1, x => if OpenW R x.2 then x else cuts R n (one R x)
noncomputable def stepB (R : List Rule) (w : Bs) (c : UInt8) : Bs × Bs := cuts R (w.length + 1) ([], w ++ [c])
noncomputable def finB (R : List Rule) (w : Bs) : Bs := (cutN R w.length ([], w)).1
section
variable {R : List Rule}
open Classical in
theorem one_hit (hf : Fit R) {o x : Bs} {r : Rule} (hb : Best R x r) : one R (o, x) = (o ++ r.2, x.drop r.1.length) := by
  unfold one
  cases x with
  | nil => exact (hb.not_nil hf).elim
  | cons c t =>
    have h : ∃ r, Best R (c :: t) r := ⟨r, hb⟩
    have e := (Classical.choose_spec h).eq hf hb
    show (if h : ∃ r, Best R (c :: t) r then (o ++ (Classical.choose h).2, (c :: t).drop (Classical.choose h).1.length) else (o ++ [c], t)) = _
    rw [dif_pos h, e]
open Classical in
theorem one_miss {o t : Bs} {c : UInt8} (hn : None R (c :: t)) : one R (o, c :: t) = (o ++ [c], t) := by
  unfold one
  show (if h : ∃ r, Best R (c :: t) r then (o ++ (Classical.choose h).2, (c :: t).drop (Classical.choose h).1.length) else (o ++ [c], t)) = _
  rw [dif_neg (fun ⟨r, hr⟩ => hr.not_none hn)]
theorem one_nil (o : Bs) : one R (o, []) = (o, []) := rfl
theorem cuts_open {x : Bs × Bs} (h : OpenW R x.2) : ∀ n, cuts R n x = x
  | 0 => rfl
  | n + 1 => by unfold cuts; rw [if_pos h]
theorem cuts_go {x : Bs × Bs} (h : ¬ OpenW R x.2) (n : Nat) : cuts R (n + 1) x = cuts R n (one R x) := by
  conv => lhs; unfold cuts
  rw [if_neg h]
/-- a cut eats -/
theorem one_less (hf : Fit R) {x : Bs × Bs} (h : x.2 ≠ []) : (one R x).2.length < x.2.length := by
  obtain ⟨o, x⟩ := x
  simp only at h ⊢
  rcases best_or_none R x with ⟨r, hr⟩ | hn
  · rw [one_hit hf hr]
    have h0 : 0 < r.1.length := List.length_pos_iff.mpr (hf.some r hr.mem)
    have h1 := hr.here.length_le
    simp only [List.length_drop]
    omega
  · cases x with
    | nil => exact (h rfl).elim
    | cons c t => rw [one_miss hn]; simp
theorem cuts_open_end (hf : Fit R) : ∀ (n : Nat) (x : Bs × Bs), x.2.length ≤ n → OpenW R (cuts R n x).2
  | 0, x, h => by
    have : x.2 = [] := List.eq_nil_of_length_eq_zero (by omega)
    exact .inl this
  | n + 1, x, h => by
    by_cases ho : OpenW R x.2
    · rw [cuts_open ho]; exact ho
    · rw [cuts_go ho]
      have hne : x.2 ≠ [] := fun e => ho (.inl e)
      have := one_less hf hne
      exact cuts_open_end hf n _ (by omega)
theorem stepB_open (hf : Fit R) (w : Bs) (c : UInt8) : OpenW R (stepB R w c).2 := cuts_open_end hf _ _ (by simp)
/-- what one cut of x is, whatever follows, if x is not open -/
theorem best_more {x t : Bs} (hx : ¬ OpenW R x) {r : Rule} (h : Best R x r) : Best R (x ++ t) r := by
  refine ⟨h.mem, h.here.trans (List.prefix_append _ _), fun q hq hp => ?_⟩
  rcases List.prefix_or_prefix_of_prefix hp (List.prefix_append x t) with h2 | h2
  · exact h.most q hq h2
  · by_cases e : x.length < q.1.length
    · exact (hx (.inr ⟨q, hq, e, h2⟩)).elim
    · have h3 : q.1 = x := (List.IsPrefix.eq_of_length h2 (by have := h2.length_le; omega)).symm
      exact h.most q hq (by rw [h3]; exact List.prefix_rfl)
theorem none_more {x t : Bs} (hx : ¬ OpenW R x) (h : None R x) : None R (x ++ t) := fun q hq hp => by
  rcases List.prefix_or_prefix_of_prefix hp (List.prefix_append x t) with h2 | h2
  · exact h q hq h2
  · by_cases e : x.length < q.1.length
    · exact hx (.inr ⟨q, hq, e, h2⟩)
    · have h3 : q.1 = x := (List.IsPrefix.eq_of_length h2 (by have := h2.length_le; omega)).symm
      exact h q hq (by rw [h3]; exact List.prefix_rfl)
theorem cuts_com (hf : Fit R) : ∀ (n : Nat) (x : Bs × Bs) (t o : Bs), Rew R ((cuts R n x).2 ++ t) o → ∃ d, (cuts R n x).1 = x.1 ++ d ∧ Rew R (x.2 ++ t) (d ++ o)
  | 0, x, t, o, h => ⟨[], by simp [cuts], h⟩
  | n + 1, (p, x), t, o, h => by
    by_cases ho : OpenW R x
    · rw [cuts_open ho] at h ⊢
      exact ⟨[], by simp, h⟩
    · rw [cuts_go ho] at h ⊢
      obtain ⟨d, h1, h2⟩ := cuts_com hf n _ t o h
      rcases best_or_none R x with ⟨r, hr⟩ | hn
      · rw [one_hit hf hr] at h1 h2 ⊢
        refine ⟨r.2 ++ d, by rw [h1]; simp, ?_⟩
        have hl := hr.here.length_le
        rw [List.append_assoc]
        refine .hit (best_more ho hr) ?_
        rw [List.drop_append_of_le_length hl]
        exact h2
      · cases x with
        | nil => exact (ho (.inl rfl)).elim
        | cons c y =>
          rw [one_miss hn] at h1 h2 ⊢
          refine ⟨[c] ++ d, by rw [h1]; simp, ?_⟩
          exact .miss (none_more ho hn) h2
/-- all cuts are the rewriting -/
theorem cutN_rew (hf : Fit R) : ∀ (n : Nat) (p x : Bs), x.length ≤ n → ∃ d, (cutN R n (p, x)).1 = p ++ d ∧ (cutN R n (p, x)).2 = [] ∧ Rew R x d
  | 0, p, x, h => by
    obtain rfl := List.eq_nil_of_length_eq_zero (show x.length = 0 by omega)
    exact ⟨[], by simp [cutN], rfl, .nil⟩
  | n + 1, p, x, h => by
    unfold cutN
    rcases best_or_none R x with ⟨r, hr⟩ | hn
    · rw [one_hit hf hr]
      have h0 : 0 < r.1.length := List.length_pos_iff.mpr (hf.some r hr.mem)
      obtain ⟨d, h1, h2, h3⟩ := cutN_rew hf n (p ++ r.2) (x.drop r.1.length) (by rw [List.length_drop]; omega)
      exact ⟨r.2 ++ d, by rw [h1]; simp, h2, .hit hr h3⟩
    · cases x with
      | nil =>
        rw [one_nil]
        exact cutN_rew hf n p [] (by simp)
      | cons c t =>
        rw [one_miss hn]
        simp only [List.length_cons] at h
        obtain ⟨d, h1, h2, h3⟩ := cutN_rew hf n (p ++ [c]) t (by omega)
        exact ⟨[c] ++ d, by rw [h1]; simp, h2, .miss hn h3⟩
theorem finB_rew (hf : Fit R) (w : Bs) : Rew R w (finB R w) := by
  obtain ⟨d, h1, _, h3⟩ := cutN_rew hf w.length [] w (Nat.le_refl _)
  unfold finB
  rw [h1]
  simpa using h3
/-- steps, and the end, make the rewriting -/
theorem runB (hf : Fit R) (s : Bs) : ∀ (t o : Bs), Rew R ((runS (stepB R) [] s).2 ++ t) o → Rew R (s ++ t) ((runS (stepB R) [] s).1 ++ o) := by
  have key : ∀ (n : Nat) (s : Bs), s.length = n → ∀ (t o : Bs), Rew R ((runS (stepB R) [] s).2 ++ t) o → Rew R (s ++ t) ((runS (stepB R) [] s).1 ++ o) := by
    intro n
    induction n with
    | zero =>
      intro s hs t o h
      obtain rfl := List.length_eq_zero_iff.1 hs
      exact h
    | succ n ih =>
      intro s hs t o h
      obtain ⟨s', c, rfl⟩ : ∃ s' c, s = s' ++ [c] := ⟨s.dropLast, s.getLast (by intro e; subst e; simp at hs), (List.dropLast_concat_getLast _).symm⟩
      rw [runS_snoc] at h ⊢
      obtain ⟨d, h1, h2⟩ := cuts_com hf _ _ t o h
      have h3 := ih s' (by simpa using hs) ([c] ++ t) (d ++ o) (by rw [← List.append_assoc]; exact h2)
      have h4 : (stepB R (runS (stepB R) [] s').2 c).1 = d := by rw [show (stepB R (runS (stepB R) [] s').2 c).1 = [] ++ d from h1]; simp
      show Rew R (s' ++ [c] ++ t) ((runS (stepB R) [] s').1 ++ (stepB R (runS (stepB R) [] s').2 c).1 ++ o)
      rw [h4, List.append_assoc, List.append_assoc]
      exact h3
  exact key _ s rfl
theorem runB_total (hf : Fit R) (s : Bs) : Rew R s ((runS (stepB R) [] s).1 ++ finB R (runS (stepB R) [] s).2) := by
  have h := runB hf s [] (finB R (runS (stepB R) [] s).2) (by rw [List.append_nil]; exact finB_rew hf _)
  rwa [List.append_nil] at h
/-! How long texts are. -/
theorem cuts_len (hf : Fit R) (h32 : ∀ r ∈ R, r.2.length ≤ 32) : ∀ (n : Nat) (x : Bs × Bs), (cuts R n x).1.length + 32 * (cuts R n x).2.length ≤ x.1.length + 32 * x.2.length
  | 0, x => Nat.le_refl _
  | n + 1, (p, x) => by
    by_cases ho : OpenW R x
    · rw [cuts_open ho]; exact Nat.le_refl _
    · rw [cuts_go ho]
      have h1 := cuts_len hf h32 n (one R (p, x))
      rcases best_or_none R x with ⟨r, hr⟩ | hn
      · rw [one_hit hf hr] at h1 ⊢
        have h0 : 0 < r.1.length := List.length_pos_iff.mpr (hf.some r hr.mem)
        have hl := hr.here.length_le
        have := h32 r hr.mem
        simp only [List.length_append, List.length_drop] at h1 ⊢
        omega
      · cases x with
        | nil => exact (ho (.inl rfl)).elim
        | cons c y =>
          rw [one_miss hn] at h1 ⊢
          simp only [List.length_append, List.length_cons, List.length_nil] at h1 ⊢
          omega
theorem open_len {w : Bs} (h16 : ∀ r ∈ R, r.1.length ≤ 16) (h : OpenW R w) : w.length ≤ 15 := by
  rcases h with rfl | ⟨r, hr, hl, _⟩
  · simp
  · have := h16 r hr
    omega
theorem stepB_len (hf : Fit R) (h16 : ∀ r ∈ R, r.1.length ≤ 16) (h32 : ∀ r ∈ R, r.2.length ≤ 32) {w : Bs} (h : OpenW R w) (c : UInt8) : (stepB R w c).1.length ≤ 512 := by
  have h1 := cuts_len hf h32 (w.length + 1) ([], w ++ [c])
  have h2 := open_len h16 h
  unfold stepB
  simp only [List.length_append, List.length_cons, List.length_nil] at h1
  omega
theorem finB_len (hf : Fit R) (h16 : ∀ r ∈ R, r.1.length ≤ 16) (h32 : ∀ r ∈ R, r.2.length ≤ 32) {w : Bs} (h : OpenW R w) : (finB R w).length ≤ 480 := by
  have h1 := (finB_rew hf w).grows 32 (by omega) (fun r hr => by
    have := h32 r hr
    have h0 : 0 < r.1.length := List.length_pos_iff.mpr (hf.some r hr)
    omega)
  have h2 := open_len h16 h
  omega
end
end Go.Proofs.Ythjnkpoalbddkaa
