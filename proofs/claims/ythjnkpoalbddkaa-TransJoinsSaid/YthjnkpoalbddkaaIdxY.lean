/- Idx, Mach, RMach of this seat, in one text. -/
import Derived.Test.YthjnkpoalbddkaaChecked
import Derived.Test.YthjnkpoalbddkaaBase
import Derived.Handy
/- slices.ContainsFunc at the closures of trans.Right. -/
namespace Go.Proofs.Ythjnkpoalbddkaa
open Go.RowKit

def NumC (q : IntKind) (xs : List Int) : Nat → Nat → Value := fun k _ => .int q (xs.getD k 0)
def StrC (xs : List ByteArray) : Nat → Nat → Value := fun k _ => .string (xs.getD k ⟨#[]⟩)
/-- is any number out of the range from 0 to N? -/
def AnyOut (xs : List Int) (N : Int) (k : Nat) : Prop := ∃ j, j < k ∧ (xs.getD j 0 < 0 ∨ N ≤ xs.getD j 0)

open Classical in
noncomputable def anyB (xs : List Int) (N : Int) (k : Nat) : Bool := if AnyOut xs N k then true else false
theorem anyB_yes {xs : List Int} {N : Int} {k : Nat} (h : AnyOut xs N k) : anyB xs N k = true := by unfold anyB; rw [if_pos h]
theorem anyB_no {xs : List Int} {N : Int} {k : Nat} (h : ¬ AnyOut xs N k) : anyB xs N k = false := by unfold anyB; rw [if_neg h]
/-- is any text too long? -/
def AnyLong (xs : List ByteArray) (k : Nat) : Prop := ∃ j, j < k ∧ 4096 < (xs.getD j ⟨#[]⟩).size
open Classical in
noncomputable def longB (xs : List ByteArray) (k : Nat) : Bool := if AnyLong xs k then true else false
theorem longB_yes {xs : List ByteArray} {k : Nat} (h : AnyLong xs k) : longB xs k = true := by unfold longB; rw [if_pos h]
theorem longB_no {xs : List ByteArray} {k : Nat} (h : ¬ AnyLong xs k) : longB xs k = false := by unfold longB; rw [if_neg h]

set_option maxHeartbeats 4000000 in
theorem idx44 (A : Option Addr) (n c p : Nat) (xs : List Int) (N : Int) (w : World) (hn : n ≤ 140737488355328) (h : Arr w w.heap.size 1 A n (NumC .i64 xs)) (hp : w.cell? ⟨p, 0, none⟩ = some (.int .i64 N)) :
    Calls Try.prog 43 #[.slice A n c, .func (.func 44) #[] #[.pointer (some ⟨p, 0, none⟩)]] w fun e w' => e = .returned (.bool (anyB xs N n)) ∧ w' = w := by
  have H := Lib.hid h
  clear h
  obtain ⟨bq, hbq⟩ : ∃ bq, bq = anyB xs N n := ⟨_, rfl⟩
  rw [← hbq]
  have HBQ := Lib.hid hbq
  clear hbq
  go_enter Try.func43, Try.ntmps43
  go_wp2
  go_loop [8] (fun i => ∃ k : Nat, k ≤ n ∧ i = .int .i64 k ∧ ¬ AnyOut xs N k) (fun i => n - (intOf i).toNat)
  case atStart => exact ⟨0, by omega, rfl, fun ⟨j, hj, _⟩ => absurd hj (by omega)⟩
  case round =>
    obtain ⟨k, hk, rfl, hno⟩ := hrel
    have HNO := Lib.hid hno
    clear hno
    by_cases hlt : k < n
    · obtain ⟨b, o, rfl, _, hc⟩ := H.out.one hlt
      unfold NumC at hc
      obtain ⟨x, hx⟩ : ∃ x, x = xs.getD k 0 := ⟨_, rfl⟩
      rw [← hx] at hc
      have HX := Lib.hid hx
      clear hx
      by_cases h1 : x < 0
      · have d1 : decide (x < 0) = true := by simpa using h1
        have hb : bq = true := by rw [HBQ.out]; exact anyB_yes ⟨k, by omega, .inl (by rw [← HX.out]; omega)⟩
        subst hb
        go_wp2
        go_returns
        exact ⟨by first | rfl | (simp; done) | (simp; omega), rfl⟩
      · have d1 : decide (x < 0) = false := by simpa using h1
        by_cases h2 : N ≤ x
        · have d2 : decide (N ≤ x) = true := by simpa using h2
          have hb : bq = true := by rw [HBQ.out]; exact anyB_yes ⟨k, by omega, .inr (by rw [← HX.out]; omega)⟩
          subst hb
          go_wp2
          go_returns
          exact ⟨by first | rfl | (simp; done) | (simp; omega), rfl⟩
        · have d2 : decide (N ≤ x) = false := by simpa using h2
          go_wp2
          go_round
          case rel => exact ⟨k + 1, by omega, by go_num, fun ⟨j, hj, h5⟩ => by
                        by_cases e : j = k
                        · rw [e, ← HX.out] at h5; omega
                        · exact HNO.out ⟨j, by omega, h5⟩⟩
          case measure => simp [intOf]; omega
    · obtain rfl : k = n := by omega
      have hb : bq = false := by rw [HBQ.out]; exact anyB_no HNO.out
      subst hb
      go_wp2
      go_returns
      exact ⟨by first | rfl | simp, rfl⟩

set_option maxHeartbeats 4000000 in
theorem idx45 (A : Option Addr) (n c p : Nat) (xs : List Int) (A3 : Option Addr) (n3 c3 : Nat) (w : World) (hn : n ≤ 140737488355328) (h : Arr w w.heap.size 1 A n (NumC .i64 xs)) (hp : w.cell? ⟨p, 3, none⟩ = some (.slice A3 n3 c3)) (hn3 : n3 ≤ 4096) :
    Calls Try.prog 43 #[.slice A n c, .func (.func 45) #[] #[.pointer (some ⟨p, 0, none⟩)]] w fun e w' => e = .returned (.bool (anyB xs (2 * (n3 : Int)) n)) ∧ w' = w := by
  have H := Lib.hid h
  clear h
  obtain ⟨bq, hbq⟩ : ∃ bq, bq = anyB xs (2 * (n3 : Int)) n := ⟨_, rfl⟩
  rw [← hbq]
  have HBQ := Lib.hid hbq
  clear hbq
  have hwr : IntKind.i64.wrap (2 * (n3 : Int)) = 2 * (n3 : Int) := IntWalk.i64_in _ (by omega)
  go_enter Try.func43, Try.ntmps43
  go_wp2
  go_loop [8] (fun i => ∃ k : Nat, k ≤ n ∧ i = .int .i64 k ∧ ¬ AnyOut xs (2 * (n3 : Int)) k) (fun i => n - (intOf i).toNat)
  case atStart => exact ⟨0, by omega, rfl, fun ⟨j, hj, _⟩ => absurd hj (by omega)⟩
  case round =>
    obtain ⟨k, hk, rfl, hno⟩ := hrel
    have HNO := Lib.hid hno
    clear hno
    by_cases hlt : k < n
    · obtain ⟨b, o, rfl, _, hc⟩ := H.out.one hlt
      unfold NumC at hc
      obtain ⟨x, hx⟩ : ∃ x, x = xs.getD k 0 := ⟨_, rfl⟩
      rw [← hx] at hc
      have HX := Lib.hid hx
      clear hx
      by_cases h1 : x < 0
      · have d1 : decide (x < 0) = true := by simpa using h1
        have hb : bq = true := by rw [HBQ.out]; exact anyB_yes ⟨k, by omega, .inl (by rw [← HX.out]; omega)⟩
        subst hb
        go_wp2
        go_returns
        exact ⟨by first | rfl | (simp; done) | (simp; omega), rfl⟩
      · have d1 : decide (x < 0) = false := by simpa using h1
        by_cases h2 : (2 * (n3 : Int)) ≤ x
        · have d2 : decide ((2 * (n3 : Int)) ≤ x) = true := by simpa using h2
          have hb : bq = true := by rw [HBQ.out]; exact anyB_yes ⟨k, by omega, .inr (by rw [← HX.out]; omega)⟩
          subst hb
          go_wp2
          go_returns
          exact ⟨by first | rfl | (simp; done) | (simp; omega), rfl⟩
        · have d2 : decide ((2 * (n3 : Int)) ≤ x) = false := by simpa using h2
          go_wp2
          go_round
          case rel => exact ⟨k + 1, by omega, by go_num, fun ⟨j, hj, h5⟩ => by
                        by_cases e : j = k
                        · rw [e, ← HX.out] at h5; omega
                        · exact HNO.out ⟨j, by omega, h5⟩⟩
          case measure => simp [intOf]; omega
    · obtain rfl : k = n := by omega
      have hb : bq = false := by rw [HBQ.out]; exact anyB_no HNO.out
      subst hb
      go_wp2
      go_returns
      exact ⟨by first | rfl | simp, rfl⟩

set_option maxHeartbeats 4000000 in
theorem idx47 (A : Option Addr) (n c : Nat) (xs : List ByteArray) (w : World) (hn : n ≤ 140737488355328) (h : Arr w w.heap.size 1 A n (StrC xs)) :
    Calls Try.prog 46 #[.slice A n c, .func (.func 47) #[] #[]] w fun e w' => e = .returned (.bool (longB xs n)) ∧ w' = w := by
  have H := Lib.hid h
  clear h
  obtain ⟨bq, hbq⟩ : ∃ bq, bq = longB xs n := ⟨_, rfl⟩
  rw [← hbq]
  have HBQ := Lib.hid hbq
  clear hbq
  go_enter Try.func46, Try.ntmps46
  go_wp2
  go_loop [8] (fun i => ∃ k : Nat, k ≤ n ∧ i = .int .i64 k ∧ ¬ AnyLong xs k) (fun i => n - (intOf i).toNat)
  case atStart => exact ⟨0, by omega, rfl, fun ⟨j, hj, _⟩ => absurd hj (by omega)⟩
  case round =>
    obtain ⟨k, hk, rfl, hno⟩ := hrel
    have HNO := Lib.hid hno
    clear hno
    by_cases hlt : k < n
    · obtain ⟨b, o, rfl, _, hc⟩ := H.out.one hlt
      unfold StrC at hc
      obtain ⟨x, hx⟩ : ∃ x, x = xs.getD k ⟨#[]⟩ := ⟨_, rfl⟩
      rw [← hx] at hc
      have HX := Lib.hid hx
      clear hx
      by_cases h1 : 4096 < x.size
      · have d1 : decide ((4096 : Int) < (x.size : Int)) = true := by simp; omega
        have hb : bq = true := by rw [HBQ.out]; exact longB_yes ⟨k, by omega, by rw [← HX.out]; omega⟩
        subst hb
        go_wp2
        go_returns
        exact ⟨by first | rfl | (simp; done) | (simp; omega), rfl⟩
      · have d1 : decide ((4096 : Int) < (x.size : Int)) = false := by simp; omega
        go_wp2
        go_round
        case rel => exact ⟨k + 1, by omega, by go_num, fun ⟨j, hj, h5⟩ => by
                      by_cases e : j = k
                      · rw [e, ← HX.out] at h5; omega
                      · exact HNO.out ⟨j, by omega, h5⟩⟩
        case measure => simp [intOf]; omega
    · obtain rfl : k = n := by omega
      have hb : bq = false := by rw [HBQ.out]; exact longB_no HNO.out
      subst hb
      go_wp2
      go_returns
      exact ⟨by first | rfl | simp, rfl⟩
end Go.Proofs.Ythjnkpoalbddkaa
/- Machines: what one is, which may be, where one lies in memory. -/
namespace Go.Proofs.Ythjnkpoalbddkaa
open Go.RowKit

structure Mach where
  next : List (List Int)
  put : List (List Int)
  ends : List Int
  texts : List ByteArray

/-- state i may be -/
structure StateOk (m : Mach) (i : Nat) : Prop where
  nlen : (m.next.getD i []).length = 256
  plen : (m.put.getD i []).length = 256
  endlo : 0 ≤ m.ends.getD i 0
  endhi : m.ends.getD i 0 < (m.texts.length : Int)
  nin : ¬ AnyOut (m.next.getD i []) m.next.length 256
  pin : ¬ AnyOut (m.put.getD i []) (2 * (m.texts.length : Int)) 256
structure RightM (m : Mach) : Prop where
  lo : 1 ≤ m.next.length
  hi : m.next.length ≤ 1200
  puts : m.put.length = m.next.length
  ends : m.ends.length = m.next.length
  few : m.texts.length ≤ 4096
  states : ∀ i, i < m.next.length → StateOk m i
  short : ¬ AnyLong m.texts m.texts.length
open Classical in
noncomputable def rightM (m : Mach) : Bool := if RightM m then true else false
theorem rightM_yes {m : Mach} (h : RightM m) : rightM m = true := by unfold rightM; rw [if_pos h]
theorem rightM_no {m : Mach} (h : ¬ RightM m) : rightM m = false := by unfold rightM; rw [if_neg h]

/-- rows of a slice of slices -/
def RowC (RA : Nat → Option Addr) (rc : Nat → Nat) (rows : List (List Int)) : Nat → Nat → Value := fun k _ => .slice (RA k) (rows.getD k []).length (rc k)
structure RowsIn (w : World) (A : Option Addr) (n : Nat) (rows : List (List Int)) (RA : Nat → Option Addr) (rc : Nat → Nat) : Prop where
  len : rows.length = n
  le : n ≤ 140737488355328
  arr : Arr w w.heap.size 1 A n (RowC RA rc rows)
  row : ∀ k, k < n → Arr w w.heap.size 1 (RA k) (rows.getD k []).length (NumC .i64 (rows.getD k []))
  small : ∀ k, k < n → (rows.getD k []).length ≤ 140737488355328
structure MachIn (w : World) (A0 A1 A2 A3 : Option Addr) (n0 n1 n2 n3 : Nat) (m : Mach) (RA : Nat → Option Addr) (rc : Nat → Nat) (PA : Nat → Option Addr) (pc : Nat → Nat) : Prop where
  next : RowsIn w A0 n0 m.next RA rc
  put : RowsIn w A1 n1 m.put PA pc
  elen : m.ends.length = n2
  ele : n2 ≤ 140737488355328
  earr : Arr w w.heap.size 1 A2 n2 (NumC .i64 m.ends)
  tlen : m.texts.length = n3
  tle : n3 ≤ 140737488355328
  tarr : Arr w w.heap.size 1 A3 n3 (StrC m.texts)
theorem RowsIn.keep {w w' : World} {A : Option Addr} {n : Nat} {rows : List (List Int)} {RA : Nat → Option Addr} {rc : Nat → Nat} (h : RowsIn w A n rows RA rc) (hb : Below w.heap.size w w') : RowsIn w' A n rows RA rc :=
  ⟨h.len, h.le, (h.arr.below hb).more hb.size, fun k hk => ((h.row k hk).below hb).more hb.size, h.small⟩
theorem MachIn.keep {w w' : World} {A0 A1 A2 A3 : Option Addr} {n0 n1 n2 n3 : Nat} {m : Mach} {RA : Nat → Option Addr} {rc : Nat → Nat} {PA : Nat → Option Addr} {pc : Nat → Nat}
    (h : MachIn w A0 A1 A2 A3 n0 n1 n2 n3 m RA rc PA pc) (hb : Below w.heap.size w w') : MachIn w' A0 A1 A2 A3 n0 n1 n2 n3 m RA rc PA pc :=
  ⟨h.next.keep hb, h.put.keep hb, h.elen, h.ele, (h.earr.below hb).more hb.size, h.tlen, h.tle, (h.tarr.below hb).more hb.size⟩
theorem MachIn.drewN {w : World} {A0 A1 A2 A3 : Option Addr} {n0 n1 n2 n3 : Nat} {m : Mach} {RA : Nat → Option Addr} {rc : Nat → Nat} {PA : Nat → Option Addr} {pc : Nat → Nat} (h : MachIn w A0 A1 A2 A3 n0 n1 n2 n3 m RA rc PA pc) (q : Nat) : MachIn (w.drewN q) A0 A1 A2 A3 n0 n1 n2 n3 m RA rc PA pc := h.keep (below_drewN (Below.refl _ _) q)
theorem RowsIn.drewN {w : World} {A : Option Addr} {n : Nat} {rows : List (List Int)} {RA : Nat → Option Addr} {rc : Nat → Nat} (h : RowsIn w A n rows RA rc) (q : Nat) : RowsIn (w.drewN q) A n rows RA rc := h.keep (below_drewN (Below.refl _ _) q)

set_option maxRecDepth 100000 in
set_option maxHeartbeats 8000000 in
theorem tright_any (A0 A1 A2 A3 : Option Addr) (n0 n1 n2 n3 c0 c1 c2 c3 : Nat) (m : Mach) (RA : Nat → Option Addr) (rc : Nat → Nat) (PA : Nat → Option Addr) (pc : Nat → Nat) (w : World) (h : MachIn w A0 A1 A2 A3 n0 n1 n2 n3 m RA rc PA pc) :
    Calls Try.prog 22 #[.agg #[.slice A0 n0 c0, .slice A1 n1 c1, .slice A2 n2 c2, .slice A3 n3 c3]] w fun e w' => e = .returned (.bool (rightM m)) ∧ Below w.heap.size w w' := by
  have H := Lib.hid h
  have hl0 := h.next.len
  have hl1 := h.put.len
  have hl2 := h.elen
  have hl3 := h.tlen
  have hle0 := h.next.le
  have hle1 := h.put.le
  have hle2 := h.ele
  have hle3 := h.tle
  clear h
  obtain ⟨bq, hbq⟩ : ∃ bq, bq = rightM m := ⟨_, rfl⟩
  rw [← hbq]
  have HBQ := Lib.hid hbq
  clear hbq
  have hbw : Below w.heap.size w ((w.alloc (.cells #[.slice A0 n0 c0, .slice A1 n1 c1, .slice A2 n2 c2, .slice A3 n3 c3] 42)).alloc (.cells #[.int .i64 (n0 : Int)] 3)) :=
    ((Below.refl _ _).alloc (Nat.le_refl _) _).alloc (by simp) _
  have HBW := Lib.hid hbw
  clear hbw
  have hno : Hid (¬ RightM m → bq = false) := fun h => by rw [HBQ.out]; exact rightM_no h
  go_enter Try.func22, Try.ntmps22
  have hcase : n0 < 1 ∨ (1 ≤ n0 ∧ 1200 < n0) ∨ (1 ≤ n0 ∧ n0 ≤ 1200 ∧ n1 ≠ n0) ∨ (1 ≤ n0 ∧ n0 ≤ 1200 ∧ n1 = n0 ∧ n2 ≠ n0) ∨ (1 ≤ n0 ∧ n0 ≤ 1200 ∧ n1 = n0 ∧ n2 = n0 ∧ 4096 < n3) ∨ (1 ≤ n0 ∧ n0 ≤ 1200 ∧ n1 = n0 ∧ n2 = n0 ∧ n3 ≤ 4096) := by omega
  rcases hcase with h1 | ⟨h1, h2⟩ | ⟨h1, h2, h3⟩ | ⟨h1, h2, h3, h4⟩ | ⟨h1, h2, h3, h4, h5⟩ | ⟨h1, h2, h3, h4, h5⟩
  · have hb : bq = false := hno.out (fun h => by have := h.lo; omega)
    subst hb
    go_wp2_with fail
    go_returns
    exact ⟨by first | rfl | (simp; done) | (simp; omega), HBW.out⟩
  · have hb : bq = false := hno.out (fun h => by have := h.hi; omega)
    subst hb
    go_wp2_with fail
    go_returns
    exact ⟨by first | rfl | (simp; done) | (simp; omega), HBW.out⟩
  · have hb : bq = false := hno.out (fun h => by have := h.puts; omega)
    subst hb
    have e1 : ((n1 : Int) != (n0 : Int)) = true := by simp; omega
    go_wp2_with fail
    go_returns
    exact ⟨by first | rfl | (simp; done) | (simp; omega), HBW.out⟩
  · have hb : bq = false := hno.out (fun h => by have := h.ends; omega)
    subst hb
    subst h3
    have e1 : ((n1 : Int) != (n1 : Int)) = false := by simp
    have e2 : ((n2 : Int) != (n1 : Int)) = true := by simp; omega
    go_wp2_with fail
    go_returns
    exact ⟨by first | rfl | (simp; done) | (simp; omega), HBW.out⟩
  · have hb : bq = false := hno.out (fun h => by have := h.few; omega)
    subst hb
    subst h3
    subst h4
    have e1 : ((n2 : Int) != (n2 : Int)) = false := by simp
    go_wp2_with fail
    go_returns
    exact ⟨by first | rfl | (simp; done) | (simp; omega), HBW.out⟩
  · subst h3
    subst h4
    have e1 : ((n2 : Int) != (n2 : Int)) = false := by simp
    have d1 : decide ((n2 : Int) < 1) = false := by simp; omega
    have d2 : decide ((1200 : Int) < (n2 : Int)) = false := by simp; omega
    have d3 : decide ((4096 : Int) < (n3 : Int)) = false := by simp; omega
    go_wp2_with fail
    have q0 : ((w.alloc (.cells #[.slice A0 n2 c0, .slice A1 n2 c1, .slice A2 n2 c2, .slice A3 n3 c3] 42)).alloc (.cells #[.int .i64 (n2 : Int)] 3)).cell? ⟨w.heap.size, 0, none⟩ = some (.slice A0 n2 c0) := by simp
    have q1 : ((w.alloc (.cells #[.slice A0 n2 c0, .slice A1 n2 c1, .slice A2 n2 c2, .slice A3 n3 c3] 42)).alloc (.cells #[.int .i64 (n2 : Int)] 3)).cell? ⟨w.heap.size, 1, none⟩ = some (.slice A1 n2 c1) := by simp
    have q2 : ((w.alloc (.cells #[.slice A0 n2 c0, .slice A1 n2 c1, .slice A2 n2 c2, .slice A3 n3 c3] 42)).alloc (.cells #[.int .i64 (n2 : Int)] 3)).cell? ⟨w.heap.size, 2, none⟩ = some (.slice A2 n2 c2) := by simp
    have q3 : ((w.alloc (.cells #[.slice A0 n2 c0, .slice A1 n2 c1, .slice A2 n2 c2, .slice A3 n3 c3] 42)).alloc (.cells #[.int .i64 (n2 : Int)] 3)).cell? ⟨w.heap.size, 3, none⟩ = some (.slice A3 n3 c3) := by simp
    have qn : ((w.alloc (.cells #[.slice A0 n2 c0, .slice A1 n2 c1, .slice A2 n2 c2, .slice A3 n3 c3] 42)).alloc (.cells #[.int .i64 (n2 : Int)] 3)).cell? ⟨w.heap.size + 1, 0, none⟩ = some (.int .i64 (n2 : Int)) := by simp
    have HBW2 := Lib.hid HBW.out
    clear HBW
    generalize (w.alloc (.cells #[.slice A0 n2 c0, .slice A1 n2 c1, .slice A2 n2 c2, .slice A3 n3 c3] 42)).alloc (.cells #[.int .i64 (n2 : Int)] 3) = w2 at HBW2 q0 q1 q2 q3 qn ⊢
    have H2 := Lib.hid (H.out.keep HBW2.out)
    clear d1 d2 d3 e1
    go_loopw [38] (fun i wr => ∃ (k mq : Nat), k ≤ n2 ∧ i = .int .i64 k ∧ wr = w2.drewN mq ∧ ∀ j, j < k → StateOk m j) (fun i _ => n2 - (intOf i).toNat)
    case atStart => exact ⟨0, 0, by omega, rfl, rfl, fun j hj => absurd hj (by omega)⟩
    case round =>
      obtain ⟨k, mq, hk, rfl, rfl, hok⟩ := hrel
      have HK := Lib.hid hok
      clear hok
      by_cases hlt : k < n2
      · obtain ⟨b0, o0, rfl, _, hc0⟩ := H2.out.next.arr.one hlt
        obtain ⟨b1, o1, rfl, _, hc1⟩ := H2.out.put.arr.one hlt
        obtain ⟨b2, o2, rfl, _, hc2⟩ := H2.out.earr.one hlt
        unfold RowC at hc0 hc1
        unfold NumC at hc2
        have hsm0 := H2.out.next.small k hlt
        have hsm1 := H2.out.put.small k hlt
        have HI1 := Lib.hid (fun hm => idx44 (RA k) (m.next.getD k []).length (rc k) (w.heap.size + 1) (m.next.getD k []) (n2 : Int) (w2.drewN hm) hsm0 ((H2.out.drewN hm).next.row k hlt) qn)
        have HI2 := Lib.hid (fun hm => idx45 (PA k) (m.put.getD k []).length (pc k) w.heap.size (m.put.getD k []) A3 n3 c3 (w2.drewN hm) hsm1 ((H2.out.drewN hm).put.row k hlt) q3 (by omega))
        obtain ⟨rk, hrk⟩ : ∃ rk, rk = m.next.getD k [] := ⟨_, rfl⟩
        obtain ⟨pk, hpk⟩ : ∃ pk, pk = m.put.getD k [] := ⟨_, rfl⟩
        obtain ⟨ev, hev⟩ : ∃ ev, ev = m.ends.getD k 0 := ⟨_, rfl⟩
        rw [← hrk] at hc0 hsm0 HI1
        rw [← hpk] at hc1 hsm1 HI2
        rw [← hev] at hc2
        obtain ⟨ln, hln⟩ : ∃ ln, ln = rk.length := ⟨_, rfl⟩
        obtain ⟨lp, hlp⟩ : ∃ lp, lp = pk.length := ⟨_, rfl⟩
        rw [← hln] at hc0 hsm0 HI1
        rw [← hlp] at hc1 hsm1 HI2
        have HE := Lib.hid (And.intro hrk (And.intro hpk (And.intro hev (And.intro hln hlp))))
        clear hrk hpk hev hln hlp
        by_cases g1 : ln = 256
        · have f1 : ((ln : Int) != 256) = false := by simp; omega
          by_cases g2 : lp = 256
          · have f2 : ((lp : Int) != 256) = false := by simp; omega
            by_cases g3 : ev < 0
            · have f3 : decide (ev < 0) = true := by simpa using g3
              have hb : bq = false := hno.out (fun h => by have := (h.states k (by omega)).endlo; rw [← HE.out.2.2.1] at this; omega)
              subst hb
              go_wp2_with fail
              go_quiet (fail)
              go_wp2_with fail
              go_returns
              exact ⟨by first | rfl | simp, below_drewN (below_drewN HBW2.out _) _⟩
            · have f3 : decide (ev < 0) = false := by simpa using g3
              by_cases g4 : (n3 : Int) ≤ ev
              · have f4 : decide ((n3 : Int) ≤ ev) = true := by simpa using g4
                have hb : bq = false := hno.out (fun h => by have := (h.states k (by omega)).endhi; rw [← HE.out.2.2.1] at this; omega)
                subst hb
                go_wp2_with fail
                go_quiet (fail)
                go_wp2_with fail
                go_returns
                exact ⟨by first | rfl | simp, below_drewN (below_drewN HBW2.out _) _⟩
              · have f4 : decide ((n3 : Int) ≤ ev) = false := by simpa using g4
                obtain ⟨ba, hba⟩ : ∃ ba, ba = anyB rk (n2 : Int) ln := ⟨_, rfl⟩
                obtain ⟨bb, hbb⟩ : ∃ bb, bb = anyB pk (2 * (n3 : Int)) lp := ⟨_, rfl⟩
                rw [← hba] at HI1
                rw [← hbb] at HI2
                have HBA : Hid (ba = true ↔ AnyOut (m.next.getD k []) m.next.length 256) := by
                  show _ ↔ _
                  rw [← HE.out.1, hl0, ← g1, hba]
                  by_cases h9 : AnyOut rk (n2 : Int) ln
                  · rw [anyB_yes h9]; exact ⟨fun _ => h9, fun _ => rfl⟩
                  · rw [anyB_no h9]; exact ⟨fun h => (by cases h), fun h => absurd h h9⟩
                have HBB : Hid (bb = true ↔ AnyOut (m.put.getD k []) (2 * (m.texts.length : Int)) 256) := by
                  show _ ↔ _
                  rw [← HE.out.2.1, hl3, ← g2, hbb]
                  by_cases h9 : AnyOut pk (2 * (n3 : Int)) lp
                  · rw [anyB_yes h9]; exact ⟨fun _ => h9, fun _ => rfl⟩
                  · rw [anyB_no h9]; exact ⟨fun h => (by cases h), fun h => absurd h h9⟩
                have HG := Lib.hid (And.intro g1 (And.intro g2 (And.intro g3 g4)))
                clear hba hbb g1 g2 g3 g4
                cases ba with
                | true =>
                  have hb : bq = false := hno.out (fun h => (h.states k (by omega)).nin (HBA.out.mp rfl))
                  subst hb
                  go_wp2_with fail
                  go_quiet (fail)
                  go_wp2_with fail
                  refine (HI1.out _).mono ?_
                  rintro e w' ⟨rfl, rfl⟩
                  go_wp2_with fail
                  go_returns
                  exact ⟨by first | rfl | simp, below_drewN HBW2.out _⟩
                | false =>
                  cases bb with
                  | true =>
                    have hb : bq = false := hno.out (fun h => (h.states k (by omega)).pin (HBB.out.mp rfl))
                    subst hb
                    go_wp2_with fail
                    go_quiet (fail)
                    go_wp2_with fail
                    refine (HI1.out _).mono ?_
                    rintro e w' ⟨rfl, rfl⟩
                    go_wp2_with fail
                    refine (HI2.out _).mono ?_
                    rintro e w' ⟨rfl, rfl⟩
                    go_wp2_with fail
                    go_returns
                    exact ⟨by first | rfl | simp, below_drewN HBW2.out _⟩
                  | false =>
                    go_wp2_with fail
                    go_quiet (fail)
                    go_wp2_with fail
                    refine (HI1.out _).mono ?_
                    rintro e w' ⟨rfl, rfl⟩
                    go_wp2_with fail
                    refine (HI2.out _).mono ?_
                    rintro e w' ⟨rfl, rfl⟩
                    go_wp2_with fail
                    go_roundw
                    case rel => exact ⟨k + 1, _, by omega, by go_num, rfl, fun j hj => by
                                  by_cases e : j = k
                                  · rw [e]
                                    exact ⟨by rw [← HE.out.1, ← HE.out.2.2.2.1]; exact HG.out.1, by rw [← HE.out.2.1, ← HE.out.2.2.2.2]; exact HG.out.2.1, by rw [← HE.out.2.2.1]; have := HG.out.2.2.1; omega, by rw [← HE.out.2.2.1, hl3]; have := HG.out.2.2.2; omega,
                                      fun h => (by have := HBA.out.mpr h; cases this), fun h => (by have := HBB.out.mpr h; cases this)⟩
                                  · exact HK.out j (by omega)⟩
                    case measure => simp [intOf]; omega
          · have f2 : ((lp : Int) != 256) = true := by simp; omega
            have hb : bq = false := hno.out (fun h => by have := (h.states k (by omega)).plen; rw [← HE.out.2.1, ← HE.out.2.2.2.2] at this; omega)
            subst hb
            go_wp2_with fail
            go_quiet (fail)
            go_wp2_with fail
            go_returns
            exact ⟨by first | rfl | simp, below_drewN (below_drewN HBW2.out _) _⟩
        · have f1 : ((ln : Int) != 256) = true := by simp; omega
          have hb : bq = false := hno.out (fun h => by have := (h.states k (by omega)).nlen; rw [← HE.out.1, ← HE.out.2.2.2.1] at this; omega)
          subst hb
          go_wp2_with fail
          go_quiet (fail)
          go_wp2_with fail
          go_returns
          exact ⟨by first | rfl | simp, below_drewN (below_drewN HBW2.out _) _⟩
      · obtain rfl : k = n2 := by omega
        have HI3 := Lib.hid (idx47 A3 n3 c3 m.texts (w2.drewN mq) hle3 (H2.out.drewN mq).tarr)
        have hq : bq = !(longB m.texts n3) := by
          rw [HBQ.out]
          by_cases h9 : AnyLong m.texts n3
          · rw [longB_yes h9, rightM_no (fun h => h.short (by rw [hl3]; exact h9))]; rfl
          · rw [longB_no h9, rightM_yes ⟨by omega, by omega, by omega, by omega, by omega, fun i hi => HK.out i (by omega), by rw [hl3]; exact h9⟩]; rfl
        obtain ⟨lb, hlb⟩ : ∃ lb, lb = longB m.texts n3 := ⟨_, rfl⟩
        rw [← hlb] at HI3 hq
        clear hlb
        subst hq
        go_wp2_with fail
        refine HI3.out.mono ?_
        rintro e w' ⟨rfl, rfl⟩
        go_wp2_with fail
        go_returns
        exact ⟨by first | rfl | simp, below_drewN HBW2.out _⟩
end Go.Proofs.Ythjnkpoalbddkaa
/- Which machine may be: the reference's Right. -/
namespace Go.Proofs.Ythjnkpoalbddkaa
open Go.RowKit

/-- no number of the first so many is out of the range -/
theorem anyOut_step {xs : List Int} {N : Int} {k : Nat} (h : ¬ AnyOut xs N k) (h2 : ¬ (xs.getD k 0 < 0 ∨ N ≤ xs.getD k 0)) : ¬ AnyOut xs N (k + 1) := fun ⟨j, hj, h5⟩ => by
  by_cases e : j = k
  · rw [e] at h5; exact h2 h5
  · exact h ⟨j, by omega, h5⟩

set_option maxRecDepth 100000 in
set_option maxHeartbeats 8000000 in
theorem rtright_any (A0 A1 A2 A3 : Option Addr) (n0 n1 n2 n3 c0 c1 c2 c3 : Nat) (m : Mach) (RA : Nat → Option Addr) (rc : Nat → Nat) (PA : Nat → Option Addr) (pc : Nat → Nat) (w : World) (h : MachIn w A0 A1 A2 A3 n0 n1 n2 n3 m RA rc PA pc) :
    Calls Try.prog 23 #[.agg #[.slice A0 n0 c0, .slice A1 n1 c1, .slice A2 n2 c2, .slice A3 n3 c3]] w fun e w' => e = .returned (.bool (rightM m)) ∧ Below w.heap.size w w' := by
  have H := Lib.hid h
  have hl0 := h.next.len
  have hl1 := h.put.len
  have hl2 := h.elen
  have hl3 := h.tlen
  have hle0 := h.next.le
  have hle1 := h.put.le
  have hle2 := h.ele
  have hle3 := h.tle
  clear h
  obtain ⟨bq, hbq⟩ : ∃ bq, bq = rightM m := ⟨_, rfl⟩
  rw [← hbq]
  have HBQ := Lib.hid hbq
  clear hbq
  have hbw : Below w.heap.size w (w.alloc (.cells #[.slice A0 n0 c0, .slice A1 n1 c1, .slice A2 n2 c2, .slice A3 n3 c3] 42)) := (Below.refl _ _).alloc (Nat.le_refl _) _
  have HBW := Lib.hid hbw
  clear hbw
  have hno : Hid (¬ RightM m → bq = false) := fun h => by rw [HBQ.out]; exact rightM_no h
  go_enter Try.func23, Try.ntmps23
  have hcase : n0 < 1 ∨ (1 ≤ n0 ∧ 1200 < n0) ∨ (1 ≤ n0 ∧ n0 ≤ 1200 ∧ n1 ≠ n0) ∨ (1 ≤ n0 ∧ n0 ≤ 1200 ∧ n1 = n0 ∧ n2 ≠ n0) ∨ (1 ≤ n0 ∧ n0 ≤ 1200 ∧ n1 = n0 ∧ n2 = n0 ∧ 4096 < n3) ∨ (1 ≤ n0 ∧ n0 ≤ 1200 ∧ n1 = n0 ∧ n2 = n0 ∧ n3 ≤ 4096) := by omega
  rcases hcase with h1 | ⟨h1, h2⟩ | ⟨h1, h2, h3⟩ | ⟨h1, h2, h3, h4⟩ | ⟨h1, h2, h3, h4, h5⟩ | ⟨h1, h2, h3, h4, h5⟩
  · have hb : bq = false := hno.out (fun h => by have := h.lo; omega)
    subst hb
    go_wp2_with fail
    go_returns
    exact ⟨by first | rfl | (simp; done) | (simp; omega), HBW.out⟩
  · have hb : bq = false := hno.out (fun h => by have := h.hi; omega)
    subst hb
    go_wp2_with fail
    go_returns
    exact ⟨by first | rfl | (simp; done) | (simp; omega), HBW.out⟩
  · have hb : bq = false := hno.out (fun h => by have := h.puts; omega)
    subst hb
    have e1 : ((n1 : Int) != (n0 : Int)) = true := by simp; omega
    go_wp2_with fail
    go_returns
    exact ⟨by first | rfl | (simp; done) | (simp; omega), HBW.out⟩
  · have hb : bq = false := hno.out (fun h => by have := h.ends; omega)
    subst hb
    subst h3
    have e1 : ((n1 : Int) != (n1 : Int)) = false := by simp
    have e2 : ((n2 : Int) != (n1 : Int)) = true := by simp; omega
    go_wp2_with fail
    go_returns
    exact ⟨by first | rfl | (simp; done) | (simp; omega), HBW.out⟩
  · have hb : bq = false := hno.out (fun h => by have := h.few; omega)
    subst hb
    subst h3
    subst h4
    have e1 : ((n2 : Int) != (n2 : Int)) = false := by simp
    go_wp2_with fail
    go_returns
    exact ⟨by first | rfl | (simp; done) | (simp; omega), HBW.out⟩
  · subst h3
    subst h4
    have e1 : ((n2 : Int) != (n2 : Int)) = false := by simp
    have d1 : decide ((n2 : Int) < 1) = false := by simp; omega
    have d2 : decide ((1200 : Int) < (n2 : Int)) = false := by simp; omega
    have d3 : decide ((4096 : Int) < (n3 : Int)) = false := by simp; omega
    go_wp2_with fail
    have q0 : (w.alloc (.cells #[.slice A0 n2 c0, .slice A1 n2 c1, .slice A2 n2 c2, .slice A3 n3 c3] 42)).cell? ⟨w.heap.size, 0, none⟩ = some (.slice A0 n2 c0) := by simp
    have q1 : (w.alloc (.cells #[.slice A0 n2 c0, .slice A1 n2 c1, .slice A2 n2 c2, .slice A3 n3 c3] 42)).cell? ⟨w.heap.size, 1, none⟩ = some (.slice A1 n2 c1) := by simp
    have q2 : (w.alloc (.cells #[.slice A0 n2 c0, .slice A1 n2 c1, .slice A2 n2 c2, .slice A3 n3 c3] 42)).cell? ⟨w.heap.size, 2, none⟩ = some (.slice A2 n2 c2) := by simp
    have q3 : (w.alloc (.cells #[.slice A0 n2 c0, .slice A1 n2 c1, .slice A2 n2 c2, .slice A3 n3 c3] 42)).cell? ⟨w.heap.size, 3, none⟩ = some (.slice A3 n3 c3) := by simp
    have HBW2 := Lib.hid HBW.out
    clear HBW
    generalize w.alloc (.cells #[.slice A0 n2 c0, .slice A1 n2 c1, .slice A2 n2 c2, .slice A3 n3 c3] 42) = w2 at HBW2 q0 q1 q2 q3 ⊢
    have H2 := Lib.hid (H.out.keep HBW2.out)
    clear d1 d2 d3 e1
    go_loopw [40] (fun i wr => ∃ k : Nat, k ≤ n3 ∧ i = .int .i64 k ∧ wr = w2 ∧ ¬ AnyLong m.texts k) (fun i _ => n3 - (intOf i).toNat)
    case atStart => exact ⟨0, by omega, rfl, rfl, fun ⟨j, hj, _⟩ => absurd hj (by omega)⟩
    case round =>
      obtain ⟨k, hk, rfl, hwr, hnl⟩ := hrel
      obtain rfl : w2 = wr := hwr.symm
      have HNL := Lib.hid hnl
      clear hnl
      by_cases hlt : k < n3
      · obtain ⟨b, o, rfl, _, hc⟩ := H2.out.tarr.one hlt
        unfold StrC at hc
        obtain ⟨t, ht⟩ : ∃ t, t = m.texts.getD k ⟨#[]⟩ := ⟨_, rfl⟩
        rw [← ht] at hc
        have HT := Lib.hid ht
        clear ht
        by_cases g1 : 4096 < t.size
        · have hb : bq = false := hno.out (fun h => h.short ⟨k, by omega, by rw [← HT.out]; exact g1⟩)
          subst hb
          go_wp2_with fail
          go_returns
          exact ⟨by first | rfl | simp, HBW2.out⟩
        · have f1 : decide ((4096 : Int) < (t.size : Int)) = false := by simp; omega
          go_wp2_with fail
          go_roundw
          case rel => exact ⟨k + 1, by omega, by go_num, by first | rfl | trivial, fun ⟨j, hj, h5⟩ => by
                        by_cases e : j = k
                        · rw [e, ← HT.out] at h5; omega
                        · exact HNL.out ⟨j, by omega, h5⟩⟩
          case measure => simp [intOf]; omega
      · obtain rfl : k = n3 := by omega
        go_wp2_with fail
        go_loopw [6] (fun i wr => ∃ (j mq : Nat), j ≤ n2 ∧ i = .int .i64 j ∧ wr = w2.drewN mq ∧ ∀ a, a < j → StateOk m a) (fun i _ => n2 - (intOf i).toNat)
        case atStart => exact ⟨0, 0, by omega, rfl, rfl, fun j hj => absurd hj (by omega)⟩
        case round =>
          obtain ⟨j, mq, hj, rfl, rfl, hok⟩ := hrel
          have HK := Lib.hid hok
          clear hok
          by_cases hlt2 : j < n2
          · obtain ⟨b0, o0, rfl, _, hc0⟩ := H2.out.next.arr.one hlt2
            obtain ⟨b1, o1, rfl, _, hc1⟩ := H2.out.put.arr.one hlt2
            obtain ⟨b2, o2, rfl, _, hc2⟩ := H2.out.earr.one hlt2
            unfold RowC at hc0 hc1
            unfold NumC at hc2
            have HR0 := Lib.hid (H2.out.next.row j hlt2)
            have HR1 := Lib.hid (H2.out.put.row j hlt2)
            obtain ⟨rk, hrk⟩ : ∃ rk, rk = m.next.getD j [] := ⟨_, rfl⟩
            obtain ⟨pk, hpk⟩ : ∃ pk, pk = m.put.getD j [] := ⟨_, rfl⟩
            obtain ⟨ev, hev⟩ : ∃ ev, ev = m.ends.getD j 0 := ⟨_, rfl⟩
            rw [← hrk] at hc0 HR0
            rw [← hpk] at hc1 HR1
            rw [← hev] at hc2
            obtain ⟨ln, hln⟩ : ∃ ln, ln = rk.length := ⟨_, rfl⟩
            obtain ⟨lp, hlp⟩ : ∃ lp, lp = pk.length := ⟨_, rfl⟩
            rw [← hln] at hc0 HR0
            rw [← hlp] at hc1 HR1
            have HE := Lib.hid (And.intro hrk (And.intro hpk (And.intro hev (And.intro hln hlp))))
            clear hrk hpk hev hln hlp
            by_cases g1 : ln = 256
            · have f1 : ((ln : Int) != 256) = false := by simp; omega
              by_cases g2 : lp = 256
              · have f2 : ((lp : Int) != 256) = false := by simp; omega
                by_cases g3 : ev < 0
                · have f3 : decide (ev < 0) = true := by simpa using g3
                  have hb : bq = false := hno.out (fun h => by have := (h.states j (by omega)).endlo; rw [← HE.out.2.2.1] at this; omega)
                  subst hb
                  go_wp2_with fail
                  go_quiet (fail)
                  go_wp2_with fail
                  go_returns
                  exact ⟨by first | rfl | simp, below_drewN (below_drewN HBW2.out _) _⟩
                · have f3 : decide (ev < 0) = false := by simpa using g3
                  by_cases g4 : (k : Int) ≤ ev
                  · have f4 : decide ((k : Int) ≤ ev) = true := by simpa using g4
                    have hb : bq = false := hno.out (fun h => by have := (h.states j (by omega)).endhi; rw [← HE.out.2.2.1] at this; omega)
                    subst hb
                    go_wp2_with fail
                    go_quiet (fail)
                    go_wp2_with fail
                    go_returns
                    exact ⟨by first | rfl | simp, below_drewN (below_drewN HBW2.out _) _⟩
                  · have f4 : decide ((k : Int) ≤ ev) = false := by simpa using g4
                    have HG := Lib.hid (And.intro g1 (And.intro g2 (And.intro g3 g4)))
                    obtain ⟨br, orr, hRA, _, hcr⟩ := HR0.out.one (k := 0) (by omega)
                    obtain ⟨bp, op, hPA, _, hcp⟩ := HR1.out.one (k := 0) (by omega)
                    have HCR : Hid (∀ b, b < 256 → w2.cell? ⟨br, orr + b, none⟩ = some (.int .i64 (rk.getD b 0))) := fun b hb => by
                      obtain ⟨b', o', e', _, h'⟩ := HR0.out.one (k := b) (by omega)
                      rw [hRA] at e'
                      simp only [Option.some.injEq, Addr.mk.injEq, and_true] at e'
                      obtain ⟨rfl, rfl⟩ := e'
                      exact h'
                    have HCP : Hid (∀ b, b < 256 → w2.cell? ⟨bp, op + b, none⟩ = some (.int .i64 (pk.getD b 0))) := fun b hb => by
                      obtain ⟨b', o', e', _, h'⟩ := HR1.out.one (k := b) (by omega)
                      rw [hPA] at e'
                      simp only [Option.some.injEq, Addr.mk.injEq, and_true] at e'
                      obtain ⟨rfl, rfl⟩ := e'
                      exact h'
                    rw [hRA] at hc0
                    rw [hPA] at hc1
                    have hln : (256 : Int) ≤ (ln : Int) := by omega
                    have hlp : (256 : Int) ≤ (lp : Int) := by omega
                    have hwr3 : IntKind.i64.wrap (2 * (k : Int)) = 2 * (k : Int) := IntWalk.i64_in _ (by omega)
                    clear hcr hcp hRA hPA g1 g2 g3 g4 HR0 HR1
                    go_wp2_with fail
                    go_quiet (fail)
                    go_wp2_with fail
                    clear f1 f2 f3 f4
                    go_loopw [7] (fun i wr => ∃ (b mq : Nat), b ≤ 256 ∧ i = .int .i64 b ∧ wr = w2.drewN mq ∧ ¬ AnyOut rk (n2 : Int) b ∧ ¬ AnyOut pk (2 * (k : Int)) b) (fun i _ => 256 - (intOf i).toNat)
                    case atStart => exact ⟨0, mq + nq, by omega, rfl, by rw [World.drewN_drewN], fun ⟨a, ha, _⟩ => absurd ha (by omega), fun ⟨a, ha, _⟩ => absurd ha (by omega)⟩
                    case round =>
                      obtain ⟨b, mr, hb, rfl, rfl, hn1, hn2⟩ := hrel
                      have HN := Lib.hid (And.intro hn1 hn2)
                      clear hn1 hn2
                      by_cases hlt3 : b < 256
                      · have hcr := HCR.out b hlt3
                        have hcp := HCP.out b hlt3
                        obtain ⟨x, hx⟩ : ∃ x, x = rk.getD b 0 := ⟨_, rfl⟩
                        obtain ⟨z, hz⟩ : ∃ z, z = pk.getD b 0 := ⟨_, rfl⟩
                        rw [← hx] at hcr
                        rw [← hz] at hcp
                        have HX := Lib.hid (And.intro hx hz)
                        clear hx hz
                        have i1 : (b : Int) < (ln : Int) := by omega
                        have i2 : (b : Int) < (lp : Int) := by omega
                        have hf1 : Hid (x < 0 ∨ (n2 : Int) ≤ x → bq = false) := fun h9 => hno.out (fun h => (h.states j (by omega)).nin ⟨b, by omega, by rw [← HE.out.1, ← HX.out.1, hl0]; exact h9⟩)
                        have hf2 : Hid (z < 0 ∨ 2 * (k : Int) ≤ z → bq = false) := fun h9 => hno.out (fun h => (h.states j (by omega)).pin ⟨b, by omega, by rw [← HE.out.2.1, ← HX.out.2, hl3]; exact h9⟩)
                        by_cases k1 : x < 0
                        · have t1 : decide (x < 0) = true := by simpa using k1
                          have hb9 := hf1.out (.inl k1)
                          subst hb9
                          go_wp2_with fail
                          go_quiet (fail)
                          go_wp2_with fail
                          go_returns
                          exact ⟨by first | rfl | simp, below_drewN (below_drewN HBW2.out _) _⟩
                        · have t1 : decide (x < 0) = false := by simpa using k1
                          by_cases k2 : (n2 : Int) ≤ x
                          · have t2 : decide ((n2 : Int) ≤ x) = true := by simpa using k2
                            have hb9 := hf1.out (.inr k2)
                            subst hb9
                            go_wp2_with fail
                            go_quiet (fail)
                            go_wp2_with fail
                            go_returns
                            exact ⟨by first | rfl | simp, below_drewN (below_drewN HBW2.out _) _⟩
                          · have t2 : decide ((n2 : Int) ≤ x) = false := by simpa using k2
                            by_cases k3 : z < 0
                            · have t3 : decide (z < 0) = true := by simpa using k3
                              have hb9 := hf2.out (.inl k3)
                              subst hb9
                              go_wp2_with fail
                              go_quiet (fail)
                              go_wp2_with fail
                              go_returns
                              exact ⟨by first | rfl | simp, below_drewN (below_drewN HBW2.out _) _⟩
                            · have t3 : decide (z < 0) = false := by simpa using k3
                              by_cases k4 : 2 * (k : Int) ≤ z
                              · have t4 : decide (2 * (k : Int) ≤ z) = true := by simpa using k4
                                have hb9 := hf2.out (.inr k4)
                                subst hb9
                                go_wp2_with fail
                                go_quiet (fail)
                                go_wp2_with fail
                                go_returns
                                exact ⟨by first | rfl | simp, below_drewN (below_drewN HBW2.out _) _⟩
                              · have t4 : decide (2 * (k : Int) ≤ z) = false := by simpa using k4
                                have HKK := Lib.hid (And.intro k1 (And.intro k2 (And.intro k3 k4)))
                                clear k1 k2 k3 k4
                                go_wp2_with fail
                                go_quiet (fail)
                                go_wp2_with fail
                                go_roundw
                                case rel => exact ⟨b + 1, _, by omega, by go_num, rfl, anyOut_step HN.out.1 (by rw [← HX.out.1]; exact fun h => by have h1 := HKK.out.1; have h2 := HKK.out.2.1; omega), anyOut_step HN.out.2 (by rw [← HX.out.2]; exact fun h => by have h1 := HKK.out.2.2.1; have h2 := HKK.out.2.2.2; omega)⟩
                                case measure => simp [intOf]; omega
                      · obtain rfl : b = 256 := by omega
                        go_wp2_with fail
                        go_roundw
                        case rel => exact ⟨j + 1, _, by omega, by go_num, rfl, fun a ha => by
                                      by_cases e : a = j
                                      · rw [e]
                                        exact ⟨by rw [← HE.out.1, ← HE.out.2.2.2.1]; exact HG.out.1, by rw [← HE.out.2.1, ← HE.out.2.2.2.2]; exact HG.out.2.1, by rw [← HE.out.2.2.1]; have := HG.out.2.2.1; omega, by rw [← HE.out.2.2.1, hl3]; have := HG.out.2.2.2; omega,
                                          by rw [← HE.out.1, hl0]; exact HN.out.1, by rw [← HE.out.2.1, hl3]; exact HN.out.2⟩
                                      · exact HK.out a (by omega)⟩
                        case measure => simp [intOf]; omega
              · have f2 : ((lp : Int) != 256) = true := by simp; omega
                have hb : bq = false := hno.out (fun h => by have := (h.states j (by omega)).plen; rw [← HE.out.2.1, ← HE.out.2.2.2.2] at this; omega)
                subst hb
                go_wp2_with fail
                go_quiet (fail)
                go_wp2_with fail
                go_returns
                exact ⟨by first | rfl | simp, below_drewN (below_drewN HBW2.out _) _⟩
            · have f1 : ((ln : Int) != 256) = true := by simp; omega
              have hb : bq = false := hno.out (fun h => by have := (h.states j (by omega)).nlen; rw [← HE.out.1, ← HE.out.2.2.2.1] at this; omega)
              subst hb
              go_wp2_with fail
              go_quiet (fail)
              go_wp2_with fail
              go_returns
              exact ⟨by first | rfl | simp, below_drewN (below_drewN HBW2.out _) _⟩
          · obtain rfl : j = n2 := by omega
            have hb : bq = true := by
              rw [HBQ.out]
              exact rightM_yes ⟨by omega, by omega, by omega, by omega, by omega, fun i hi => HK.out i (by omega), by rw [hl3]; exact HNL.out⟩
            subst hb
            go_wp2_with fail
            go_returns
            exact ⟨rfl, below_drewN HBW2.out _⟩
end Go.Proofs.Ythjnkpoalbddkaa
