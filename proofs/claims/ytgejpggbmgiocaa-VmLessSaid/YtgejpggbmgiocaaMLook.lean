/- Merge's memory, and the look for a pair. -/
import Derived.Test.YtgejpggbmgiocaaQPut
import Derived.Test.YtgejpggbmgiocaaHIn
namespace Go.Proofs.Ytgejpggbmgiocaa
open Go.RowKit
def ndF (v : Nd) : Nat → Value
  | 0 => .int .i64 v.id
  | 1 => .int .i64 v.next
  | _ => .int .i64 v.last
abbrev nflat (nd : List Nd) : List Value := flat 3 ndF nd0 nd
/-- what a hash tells of two signs: a rank and a sign -/
def hget (S K V : List Int) (a b : Int) : Option (Int × Int) :=
  if (hashGet mix S K V (a * 4294967296 + b)).2 = true then some ((hashGet mix S K V (a * 4294967296 + b)).1 / 4294967296, (hashGet mix S K V (a * 4294967296 + b)).1 % 4294967296) else none
/-- Merge's memory: the hash in its box B, the list's box bl, its nodes gl, the queue's box bq -/
structure MM (w0 : World) (A0 A1 A2 : Option Addr) (n0 n1 n2 c0 c1 c2 : Nat) (S K V : List Int) (B bl gl bq n : Nat) (W : World) (nd : List Nd) (a : Value) (q : List Pr) : Prop where
  bel : Below B w0 W
  hin : HashIn w0 A0 A1 A2 n0 n1 n2 S K V
  hB : w0.heap.size = B
  hv : Under 18446744073709551616 V
  hb : Blk W B 25 [.slice A0 n0 c0, .slice A1 n1 c1, .slice A2 n2 c2]
  lb : Blk W bl 45 [.slice (some ⟨gl, 0, none⟩) n n]
  nb : Blk W gl 47 (nflat nd)
  qb : QB bq W W a q
  len : nd.length = n
  ob : B < bq
  obl : bl < bq
  ogl : gl < bq
  ogB : B ≤ gl
  obB : B ≤ bl
  ne : gl ≠ bl
  neB : gl ≠ B
theorem QB.again {g0 : Nat} {w0 w : World} {a : Value} {q : List Pr} (h : QB g0 w0 w a q) : QB g0 w w a q := ⟨Below.refl _ _, h.box, h.own⟩
section
variable {w0 : World} {A0 A1 A2 : Option Addr} {n0 n1 n2 c0 c1 c2 : Nat} {S K V : List Int} {B bl gl bq n : Nat} {W W' : World} {nd : List Nd} {a a' : Value} {q q' : List Pr}
theorem MM.go (h : MM w0 A0 A1 A2 n0 n1 n2 c0 c1 c2 S K V B bl gl bq n W nd a q) (hb : Below W.heap.size W W') : MM w0 A0 A1 A2 n0 n1 n2 c0 c1 c2 S K V B bl gl bq n W' nd a q :=
  ⟨h.bel.trans (hb.mono (Nat.le_of_lt h.hb.lt)), h.hin, h.hB, h.hv, h.hb.below hb h.hb.lt, h.lb.below hb h.lb.lt, h.nb.below hb h.nb.lt, (h.qb.go hb).again, h.len, h.ob, h.obl, h.ogl, h.ogB, h.obB, h.ne, h.neB⟩
theorem MM.drew (h : MM w0 A0 A1 A2 n0 n1 n2 c0 c1 c2 S K V B bl gl bq n W nd a q) : MM w0 A0 A1 A2 n0 n1 n2 c0 c1 c2 S K V B bl gl bq n W.drew nd a q := h.go (Below.refl _ _).drew
theorem MM.drewN (h : MM w0 A0 A1 A2 n0 n1 n2 c0 c1 c2 S K V B bl gl bq n W nd a q) (m : Nat) : MM w0 A0 A1 A2 n0 n1 n2 c0 c1 c2 S K V B bl gl bq n (W.drewN m) nd a q := h.go (below_drewN (Below.refl _ _) m)
theorem MM.cell (h : MM w0 A0 A1 A2 n0 n1 n2 c0 c1 c2 S K V B bl gl bq n W nd a q) {i j : Nat} (hi : i < n) (hj : j < 3) : W.cell? ⟨gl, i * 3 + j, none⟩ = some (ndF (ndAt nd i) j) := by
  rw [h.nb.cell]
  exact flat_get (by rw [h.len]; exact hi) hj
theorem MM.box (h : MM w0 A0 A1 A2 n0 n1 n2 c0 c1 c2 S K V B bl gl bq n W nd a q) : W.cell? ⟨bl, 0, none⟩ = some (.slice (some ⟨gl, 0, none⟩) n n) := h.lb.cell 0
theorem MM.hash (h : MM w0 A0 A1 A2 n0 n1 n2 c0 c1 c2 S K V B bl gl bq n W nd a q) : HashIn W A0 A1 A2 n0 n1 n2 S K V := h.hin.keep (by rw [h.hB]; exact h.bel)
theorem MM.put (h : MM w0 A0 A1 A2 n0 n1 n2 c0 c1 c2 S K V B bl gl bq n W nd a q) (hq : QB bq W W' a' q') : MM w0 A0 A1 A2 n0 n1 n2 c0 c1 c2 S K V B bl gl bq n W' nd a' q' :=
  ⟨h.bel.trans (hq.below.mono (Nat.le_of_lt h.ob)), h.hin, h.hB, h.hv, h.hb.below hq.below h.ob, h.lb.below hq.below h.obl, h.nb.below hq.below h.ogl, hq.again, h.len, h.ob, h.obl, h.ogl, h.ogB, h.obB, h.ne, h.neB⟩
end
theorem hashGet_bd {S K V : List Int} (hv : Under 18446744073709551616 V) (key : Int) : 0 ≤ (hashGet mix S K V key).1 ∧ (hashGet mix S K V key).1 < 18446744073709551616 := by
  unfold hashGet
  split
  · exact ⟨by simp, by simp⟩
  · split
    · exact ⟨by simp, by simp⟩
    · exact hv _
theorem hget_bd {S K V : List Int} (hv : Under 18446744073709551616 V) {a b r x : Int} (h : hget S K V a b = some (r, x)) : 0 ≤ r ∧ r < 4294967296 ∧ 0 ≤ x ∧ x < 4294967296 := by
  have hb := hashGet_bd (S := S) (K := K) hv (a * 4294967296 + b)
  unfold hget at h
  split at h
  · cases h; omega
  · cases h
theorem wraps_u64 (n : Int) (h0 : 0 ≤ n) (h1 : n < 2 ^ 64) : IntKind.u64.wrap n = n := wrap_u64_in n h0 (by simpa using h1)
theorem or_key (a b : Int) (ha : 0 ≤ a) (ha2 : a < 65536) (hb : 0 ≤ b) (hb2 : b < 65536) : bits BinOp.or IntKind.u64 (a * 4294967296) b = a * 4294967296 + b :=
  bits_join .u64 64 (by decide) wraps_u64 32 _ b (by omega) (by omega) (by omega) hb (by omega) (by omega)
theorem and_low (v : Int) (h0 : 0 ≤ v) (h1 : v < 18446744073709551616) : bits BinOp.and IntKind.u64 v 4294967295 = v % 4294967296 :=
  bits_mask .u64 64 (by decide) wraps_u64 32 (by decide) v h0 (by simpa using h1)
theorem lookP_val (get : Int → Int → Option (Int × Int)) (nd : List Nd) (k nx : Nat) (h : (ndAt nd k).next = (nx : Int)) : lookP get nd (k : Int) = (get (ndAt nd k).id (ndAt nd nx).id).map fun v => ⟨v.1, k, (ndAt nd k).id, (ndAt nd nx).id, v.2⟩ := by
  unfold lookP
  rw [Int.toNat_natCast, if_neg (by rw [h]; omega)]
  simp only [h, Int.toNat_natCast]
set_option maxRecDepth 100000 in
set_option maxHeartbeats 4000000 in
theorem look_any (w0 : World) (A0 A1 A2 : Option Addr) (n0 n1 n2 c0 c1 c2 : Nat) (S K V : List Int) (B bl gl bq n : Nat) (W : World) (nd : List Nd) (a : Value) (q : List Pr) (h : MM w0 A0 A1 A2 n0 n1 n2 c0 c1 c2 S K V B bl gl bq n W nd a q)
    (k : Nat) (hk : k < n) (hn : n ≤ 262144) (nx : Nat) (hnx : (ndAt nd k).next = (nx : Int)) (hnn : nx < n) (hq : q.length < 999999) (hs : ∀ p ∈ q, SmallP p) (hh : HeapP q)
    (ha : 0 ≤ (ndAt nd k).id ∧ (ndAt nd k).id < 65536) (hb : 0 ≤ (ndAt nd nx).id ∧ (ndAt nd nx).id < 65536) :
    Calls Try.prog 14 #[.int .i64 k, .pointer (some ⟨bl, 0, none⟩), .pointer (some ⟨B, 0, none⟩), .pointer (some ⟨bq, 0, none⟩)] W fun e w' => e = .returned (.tuple #[]) ∧ ∃ a' q', MM w0 A0 A1 A2 n0 n1 n2 c0 c1 c2 S K V B bl gl bq n w' nd a' q' ∧ HeapP q' ∧ q'.Perm (q ++ (lookP (hget S K V) nd (k : Int)).toList) := by
  have H := Lib.hid h
  have q0 := h.box
  have c00 := h.cell hk (j := 0) (by omega)
  have c01 := h.cell hk (j := 1) (by omega)
  have c10 := h.cell hnn (j := 0) (by omega)
  have h0 := h.hb.cell 0
  have h1 := h.hb.cell 1
  have h2 := h.hb.cell 2
  obtain ⟨x, hx⟩ : ∃ x, x = (ndAt nd k).id := ⟨_, rfl⟩
  obtain ⟨y, hy⟩ : ∃ y, y = (ndAt nd nx).id := ⟨_, rfl⟩
  unfold ndF at c00 c01 c10
  simp only [← hx, ← hy, hnx, Nat.add_zero] at c00 c01 c10 ha hb
  simp only [List.getElem?_cons_zero, List.getElem?_cons_succ] at h0 h1 h2
  have i1 : (k : Int) < (n : Int) := by omega
  have i2 : (nx : Int) < (n : Int) := by omega
  have hlk := lookP_val (hget S K V) nd k nx hnx
  rw [← hx, ← hy] at hlk
  have hok := or_key x y ha.1 ha.2 hb.1 hb.2
  obtain ⟨r, hr⟩ : ∃ r, r = hashGet mix S K V (x * 4294967296 + y) := ⟨_, rfl⟩
  have hbd := hashGet_bd (S := S) (K := K) h.hv (x * 4294967296 + y)
  have HG := Lib.hid (fun W (h : HashIn W A0 A1 A2 n0 n1 n2 S K V) => h.get c0 c1 c2 (x * 4294967296 + y))
  have hgv : hget S K V x y = if r.2 = true then some (r.1 / 4294967296, r.1 % 4294967296) else none := by unfold hget; rw [← hr]
  rw [hgv] at hlk
  rw [← hr] at hbd HG
  have HLK := Lib.hid hlk
  have HX := Lib.hid (And.intro hx (And.intro hy (And.intro hnx (And.intro hr hgv))))
  clear h hx hy hr hgv hlk hnx
  obtain ⟨v, is⟩ := r
  simp only at hbd
  go_enter Try.func14, Try.ntmps14
  go_wp2_with fail
  go_quiet (fail)
  have H2 := Lib.hid (H.out.drewN nq)
  generalize W.drewN nq = w2 at H2 ⊢
  clear q0 c00 c01 c10 h0 h1 h2
  have h0 := H2.out.hb.cell 0
  have h1 := H2.out.hb.cell 1
  have h2 := H2.out.hb.cell 2
  simp only [List.getElem?_cons_zero, List.getElem?_cons_succ] at h0 h1 h2
  go_wp2_with fail
  refine (HG.out _ H2.out.hash).mono ?_
  rintro e w3 ⟨rfl, hb3⟩
  have H3 := Lib.hid (H2.out.go hb3)
  clear hb3 h0 h1 h2
  cases is with
  | false =>
    go_wp2_with fail
    go_returns
    refine ⟨by first | rfl | simp, a, q, H3.out, hh, ?_⟩
    rw [HLK.out]
    simp
  | true =>
    have hal := and_low v hbd.1 hbd.2
    go_wp2_with fail
    refine (put_any bq w3 w3 a q ⟨v / 4294967296, k, x, y, v % 4294967296⟩ (by omega) hs ⟨by show 0 ≤ v / 4294967296; omega, by show v / 4294967296 < 4294967296; omega, by show (0 : Int) ≤ (k : Int); omega, by show (k : Int) < 4294967296; omega⟩ hh H3.out.qb).mono ?_
    rintro e w4 ⟨rfl, a', q', hq4, hh4, hp4⟩
    have H4 := Lib.hid (H3.out.put hq4)
    have HP4 := Lib.hid (And.intro hh4 hp4)
    clear hq4 hh4 hp4
    go_wp2_with fail
    go_returns
    refine ⟨by first | rfl | simp, a', q', H4.out, HP4.out.1, ?_⟩
    rw [HLK.out]
    exact HP4.out.2
set_option maxRecDepth 100000 in
set_option maxHeartbeats 4000000 in
theorem look_neg (bl B bq : Nat) (W : World) :
    Calls Try.prog 14 #[.int .i64 (-1), .pointer (some ⟨bl, 0, none⟩), .pointer (some ⟨B, 0, none⟩), .pointer (some ⟨bq, 0, none⟩)] W fun e w' => e = .returned (.tuple #[]) ∧ w' = W := by
  go_enter Try.func14, Try.ntmps14
  go_wp2_with fail
  go_returns
  exact ⟨by first | rfl | simp, rfl⟩
set_option maxRecDepth 100000 in
set_option maxHeartbeats 4000000 in
theorem look_end (bl B bq gl n k : Nat) (W : World) (hk : k < n) (q0 : W.cell? ⟨bl, 0, none⟩ = some (.slice (some ⟨gl, 0, none⟩) n n)) (c1 : W.cell? ⟨gl, k * 3 + 1, none⟩ = some (.int .i64 (-1))) :
    Calls Try.prog 14 #[.int .i64 k, .pointer (some ⟨bl, 0, none⟩), .pointer (some ⟨B, 0, none⟩), .pointer (some ⟨bq, 0, none⟩)] W fun e w' => e = .returned (.tuple #[]) ∧ w' = W := by
  have i1 : (k : Int) < (n : Int) := by omega
  go_enter Try.func14, Try.ntmps14
  go_wp2_with fail
  go_returns
  exact ⟨by first | rfl | simp, rfl⟩
theorem look_all (w0 : World) (A0 A1 A2 : Option Addr) (n0 n1 n2 c0 c1 c2 : Nat) (S K V : List Int) (B bl gl bq n : Nat) (W : World) (nd : List Nd) (a : Value) (q : List Pr) (h : MM w0 A0 A1 A2 n0 n1 n2 c0 c1 c2 S K V B bl gl bq n W nd a q)
    (hn : n ≤ 262144) (c : List Nat) (hc : Chain nd c) (hi : ∀ i, i < nd.length → (ndAt nd i).id < 65536) (i : Int) (hij : i = -1 ∨ ∃ j, j < c.length ∧ i = (c.getD j 0 : Nat)) (hq : q.length < 999999) (hs : ∀ p ∈ q, SmallP p) (hh : HeapP q) :
    Calls Try.prog 14 #[.int .i64 i, .pointer (some ⟨bl, 0, none⟩), .pointer (some ⟨B, 0, none⟩), .pointer (some ⟨bq, 0, none⟩)] W fun e w' => e = .returned (.tuple #[]) ∧ ∃ a' q', MM w0 A0 A1 A2 n0 n1 n2 c0 c1 c2 S K V B bl gl bq n w' nd a' q' ∧ HeapP q' ∧ q'.Perm (q ++ (lookP (hget S K V) nd i).toList) := by
  rcases hij with rfl | ⟨j, hj, rfl⟩
  · refine (look_neg bl B bq W).mono ?_
    rintro e w' ⟨rfl, rfl⟩
    exact ⟨rfl, a, q, h, hh, by unfold lookP; rw [if_pos (by omega)]; simp⟩
  · have hlt := hc.lt j hj
    rw [h.len] at hlt
    by_cases hj1 : j + 1 < c.length
    · have hn1 := hc.next j hj1
      have hlt1 := hc.lt (j + 1) hj1
      rw [h.len] at hlt1
      exact look_any w0 A0 A1 A2 n0 n1 n2 c0 c1 c2 S K V B bl gl bq n W nd a q h _ hlt hn _ hn1 hlt1 hq hs hh ⟨hc.id j hj, hi _ (by rw [h.len]; exact hlt)⟩ ⟨hc.id (j + 1) hj1, hi _ (by rw [h.len]; exact hlt1)⟩
    · have hn1 := hc.nextEnd j (by omega)
      have hcell := h.cell hlt (j := 1) (by omega)
      unfold ndF at hcell
      simp only [hn1] at hcell
      refine (look_end bl B bq gl n _ W hlt h.box hcell).mono ?_
      rintro e w' ⟨rfl, rfl⟩
      exact ⟨rfl, a, q, h, hh, by unfold lookP; rw [Int.toNat_natCast, if_pos (by rw [hn1]; omega)]; simp⟩
end Go.Proofs.Ytgejpggbmgiocaa
