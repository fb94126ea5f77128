/- The world of a law that holds an automaton and what is built of it. -/
import Derived.Test.YtfjhcoeehjephaaBuAMe
import Derived.Test.YtfjhcoeehjephaaAgMe
import Derived.Test.YtfjhcoeehjephaaSmallMe
import Derived.Test.YtfjhcoeehjephaaDLongMe
import Derived.Deep.RegionHeld3
namespace Go.Proofs.Ytfjhcoeehjephaa
open Go.RowKit
attribute [local go_sem ↓] Go.wp_at_zero Go.wp_at_succ
attribute [local go_sem ↓] load_dfa store_dfa

open Classical in
/-- what an automaton takes from any place on -/
noncomputable def endsX (E : List Ed) (S : Nat) (a z : Int) (s : ByteArray) (x : Int) : List Int := if 0 ≤ x ∧ x ≤ (s.size : Int) then endsN E S a z s x.toNat else []
theorem endsX_len (E : List Ed) (S : Nat) (a z : Int) (s : ByteArray) (x : Int) : (endsX E S a z s x).length ≤ s.size + 1 := by
  unfold endsX
  split
  · unfold endsN
    have := outsTo_len (onB E S a z s x.toNat) x.toNat (s.size + 1 - x.toNat)
    omega
  · simp
theorem nends_all (A : Option Addr) (n c S : Nat) (a z : Int) (E : List Ed) (s : ByteArray) (x : Int) (w : World) (h : NfaIn w A n ⟨(S : Int), a, z, E⟩) (hr : RightN ⟨(S : Int), a, z, E⟩)
    (hu : ∀ e ∈ E, U64w e.s0 ∧ U64w e.s1 ∧ U64w e.s2 ∧ U64w e.s3) (hs : s.size ≤ 1000000) :
    Calls Try.prog 24 #[.agg #[.int .i64 (S : Int), .int .i64 a, .int .i64 z, .slice A n c], .string s, .int .i64 x] w fun e w' => ∃ A9 c9, e = .returned (.slice A9 (endsX E S a z s x).length c9) ∧ Arr w' w'.heap.size 1 A9 (endsX E S a z s x).length (NumC .i64 (endsX E S a z s x)) ∧ Below w.heap.size w w' := by
  by_cases hx : 0 ≤ x ∧ x ≤ (s.size : Int)
  · obtain ⟨p, rfl⟩ := Int.eq_ofNat_of_zero_le hx.1
    have he : endsX E S a z s (p : Int) = endsN E S a z s p := by unfold endsX; rw [if_pos hx]; rfl
    rw [he]
    exact ends_ok A n c S a z E s p w h hr hu (by omega) hs
  · have he : endsX E S a z s x = [] := by unfold endsX; rw [if_neg hx]
    rw [he]
    refine (ends_no A n c S a z E s x w h (fun h9 => hx h9.2)).mono ?_
    rintro e w' ⟨rfl, hb⟩
    exact ⟨none, 0, rfl, fun h9 => absurd h9 (by simp), hb⟩
theorem endsR_built {E : List Ed} {S : Nat} {a z : Int} {many : Nat} {ls : Nat → Nat} {all : List (List Nat)} {D : Dfa} (hr : RightN ⟨(S : Int), a, z, E⟩) (hc : ClsOk D.cls many (setsOf E)) (hl : LeastOk D.cls ls 0) (h : Mid E S a z many ls all.length all D.next D.acc) (s : ByteArray) (x : Int) :
    D8.endsR D s x = endsX E S a z s x := by
  unfold endsX
  by_cases hx : 0 ≤ x ∧ x ≤ (s.size : Int)
  · obtain ⟨p, rfl⟩ := Int.eq_ofNat_of_zero_le hx.1
    rw [if_pos hx, D8.endsR_yes (built_right hc h) (by omega)]
    exact built_endsN (okE_of hr) ⟨hr.alo, hr.ahi⟩ hr.zlo hc hl h s p (by omega)
  · rw [if_neg hx, D8.endsR_no (fun h9 => hx h9.2)]

/-- the law's world: the automata's boxes -/
structure LA (W : World) (g S : Nat) (a z : Int) (E : List Ed) (A2 : Option Addr) (m c2 : Nat) (gd : Nat) (ds : Array Value) (B1 B2 : Option Addr) (d1 d2 : Nat) (D : Dfa) (RA : Nat → Option Addr) (rc : Nat → Nat) (w : World) : Prop where
  bel : Below W.heap.size W w
  res : Blk w g 24 [.int .i64 S, .int .i64 a, .int .i64 z, .slice A2 m c2]
  nfa : NfaIn w A2 m ⟨S, a, z, E⟩
  dbox : Blk w gd 30 ds.toList
  dfa : DfaIn w ds B1 B2 D.next.length D.acc.length d1 d2 D RA rc
section
variable {W w w' : World} {g S m c2 gd d1 d2 : Nat} {a z : Int} {E : List Ed} {A2 B1 B2 : Option Addr} {ds : Array Value} {D : Dfa} {RA : Nat → Option Addr} {rc : Nat → Nat}
theorem LA.go (h : LA W g S a z E A2 m c2 gd ds B1 B2 d1 d2 D RA rc w) (hb : Below w.heap.size w w') : LA W g S a z E A2 m c2 gd ds B1 B2 d1 d2 D RA rc w' :=
  ⟨h.bel.trans (hb.mono h.bel.size), h.res.below hb h.res.lt, h.nfa.keep hb, h.dbox.below hb h.dbox.lt, h.dfa.keep hb⟩
theorem LA.drew (h : LA W g S a z E A2 m c2 gd ds B1 B2 d1 d2 D RA rc w) : LA W g S a z E A2 m c2 gd ds B1 B2 d1 d2 D RA rc w.drew := h.go (Below.refl _ _).drew
theorem LA.ncells (h : LA W g S a z E A2 m c2 gd ds B1 B2 d1 d2 D RA rc w) : w.cell? ⟨g, 0, none⟩ = some (.int .i64 S) ∧ w.cell? ⟨g, 1, none⟩ = some (.int .i64 a) ∧ w.cell? ⟨g, 2, none⟩ = some (.int .i64 z) ∧ w.cell? ⟨g, 3, none⟩ = some (.slice A2 m c2) :=
  ⟨h.res.cell 0, h.res.cell 1, h.res.cell 2, h.res.cell 3⟩
theorem LA.load (h : LA W g S a z E A2 m c2 gd ds B1 B2 d1 d2 D RA rc w) : (loadD (.pointer (some ⟨gd, 0, none⟩))).run Try.prog w = .ok (.agg ds) w := by
  have := load30 h.dbox (by rw [Array.length_toList]; exact h.dfa.cells.size)
  rw [Array.toArray_toList] at this
  exact this
theorem new30 (w : World) : Blk (w.alloc (.cells zs30 30)) w.heap.size 30 (dV (fun _ => 0) (.slice none 0 0) (.slice none 0 0)) := Blk.new _ _ _
theorem cells_one {n1 n2 c1 c2 : Nat} {cls : Nat → Nat} (h : Cells ds B1 B2 n1 n2 c1 c2 cls) : ds.all (·.oneCell') = true := by
  rw [Array.all_eq_true]
  intro i hi
  have hs := h.size
  have hlt : i < ds.size := hi
  rcases (by omega : i < 256 ∨ i = 256 ∨ i = 257) with h9 | rfl | rfl
  · have := h.cl i h9
    rw [Array.getElem?_eq_getElem hlt] at this
    injection this with this
    rw [this]; rfl
  · have := h.nx
    rw [Array.getElem?_eq_getElem hlt] at this
    injection this with this
    rw [this]; rfl
  · have := h.ac
    rw [Array.getElem?_eq_getElem hlt] at this
    injection this with this
    rw [this]; rfl
theorem store_new {w4 : World} (hd : DfaIn w4 ds B1 B2 D.next.length D.acc.length d1 d2 D RA rc) : (storeD (.pointer (some ⟨w4.heap.size, 0, none⟩)) (.agg ds)).run Try.prog (w4.alloc (.cells zs30 30)) = .ok () ((w4.alloc (.cells zs30 30)).setRow w4.heap.size ds) := by
  have := store30 (new30 w4) (dV_len _ _ _) ds.toList (by rw [Array.length_toList]; exact hd.cells.size) (by rw [Array.toArray_toList]; exact cells_one hd.cells)
  rw [Array.toArray_toList] at this
  exact this
theorem LA.start {w2 w4 : World} (hb0 : Below W.heap.size W w2) (hb : Below (w2.alloc (.cells #[.int .i64 S, .int .i64 a, .int .i64 z, .slice A2 m c2] 24)).heap.size (w2.alloc (.cells #[.int .i64 S, .int .i64 a, .int .i64 z, .slice A2 m c2] 24)) w4) (hn : NfaIn w2 A2 m ⟨S, a, z, E⟩) (hd : DfaIn w4 ds B1 B2 D.next.length D.acc.length d1 d2 D RA rc) :
    LA W w2.heap.size S a z E A2 m c2 w4.heap.size ds B1 B2 d1 d2 D RA rc ((w4.alloc (.cells zs30 30)).setRow w4.heap.size ds) := by
  have hb1 := hb0.alloc hb0.size (.cells #[.int .i64 S, .int .i64 a, .int .i64 z, .slice A2 m c2] 24)
  have hx := Blk.new w2 24 [.int .i64 S, .int .i64 a, .int .i64 z, .slice A2 m c2]
  have hw := Below.refl w2.heap.size w2
  have hb4 : Below w2.heap.size w2 w4 := (hw.alloc (Nat.le_refl _) _).trans (hb.mono (by simp))
  have h5 : Below w4.heap.size w4 ((w4.alloc (.cells zs30 30)).setRow w4.heap.size ds) := below_setRow ((Below.refl w4.heap.size w4).alloc (Nat.le_refl _) _) (Nat.le_refl _) _
  exact ⟨(hb0.trans (hb4.mono hb0.size)).trans (h5.mono (hb0.trans (hb4.mono hb0.size)).size), (hx.below hb hx.lt).below h5 (hx.below hb hx.lt).lt, (hn.keep hb4).keep h5, (new30 w4).row ds, hd.keep h5⟩
end
theorem cell_keep {w w' : World} {a : Addr} {v : Value} (h : w.cell? a = some v) (hb : Below w.heap.size w w') : w'.cell? a = some v := (hb.cell (World.block_lt_of_cell? w a h)).trans h
theorem last_facts (k : Nat) (hk : k ≤ 1000) (h0 : k ≠ 0) : ∃ q : Nat, k = q + 1 ∧ (k : Int) - 1 = (q : Int) ∧ IntKind.i64.wrap ((k : Int) - 1) = (q : Int) ∧ wrap64 ((k : Int) - 1) = (q : Int) ∧ IntKind.i64.wrap (q : Int) = (q : Int) ∧ wrap64 (q : Int) = (q : Int) ∧ (q : Int) < (k : Int) ∧ (0 : Int) ≤ (q : Int) := by
  obtain ⟨q, rfl⟩ : ∃ q, k = q + 1 := ⟨k - 1, by omega⟩
  have e : ((q + 1 : Nat) : Int) - 1 = (q : Int) := by omega
  have w1 : IntKind.i64.wrap (q : Int) = (q : Int) := IntWalk.i64_in _ (by omega)
  have w2 : wrap64 (q : Int) = (q : Int) := IntWalk.wrap64_in _ (by omega)
  exact ⟨q, rfl, e, by rw [e]; exact w1, by rw [e]; exact w2, w1, w2, by omega, by omega⟩
end Go.Proofs.Ytfjhcoeehjephaa
