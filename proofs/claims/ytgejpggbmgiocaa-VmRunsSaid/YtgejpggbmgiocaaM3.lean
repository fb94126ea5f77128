/- HIn, Com, Open1, Ints, Open2 of this seat, in one text. -/
import Derived.Test.YtgejpggbmgiocaaM2
import Derived.Test.YtgejpggbmgiocaaChecked
import Derived.Test.YtgejpggbmgiocaaM1
import Derived.Maps.AppendAt
import Derived.RangeFuncWrites
import Derived.Handy
import Derived.Test.YtgejpggbmgiocaaRows
import Derived.Lib.SmallJoins
import Derived.Deep.Strs
/- A hash that came in, and the contracts of the functions over it, in any world in which it lies. -/
namespace Go.Proofs.Ytgejpggbmgiocaa
open Go.RowKit

structure HashIn (w : World) (A0 A1 A2 : Option Addr) (n0 n1 n2 : Nat) (S K V : List Int) : Prop where
  hS : S.length = n0
  hK : K.length = n1
  hV : V.length = n2
  hn0 : n0 ≤ 140737488355328
  hn1 : n1 ≤ 140737488355328
  hn2 : n2 ≤ 140737488355328
  hu : Under 4294967296 S
  h0 : Arr w w.heap.size 1 A0 n0 (NumC .u32 S)
  h1 : Arr w w.heap.size 1 A1 n1 (NumC .u64 K)
  h2 : Arr w w.heap.size 1 A2 n2 (NumC .u64 V)

section
variable {w w' : World} {A0 A1 A2 : Option Addr} {n0 n1 n2 : Nat} {S K V : List Int}
theorem HashIn.keep (h : HashIn w A0 A1 A2 n0 n1 n2 S K V) (hb : Below w.heap.size w w') : HashIn w' A0 A1 A2 n0 n1 n2 S K V :=
  ⟨h.hS, h.hK, h.hV, h.hn0, h.hn1, h.hn2, h.hu, (h.h0.below hb).more hb.size, (h.h1.below hb).more hb.size, (h.h2.below hb).more hb.size⟩
theorem HashIn.get (h : HashIn w A0 A1 A2 n0 n1 n2 S K V) (c0 c1 c2 : Nat) (key : Int) : Calls Try.prog 15 #[.agg #[.slice A0 n0 c0, .slice A1 n1 c1, .slice A2 n2 c2], .int .u64 key] w fun e w' => e = .returned (.tuple #[.int .u64 (hashGet mix S K V key).1, .bool (hashGet mix S K V key).2]) ∧ Below w.heap.size w w' :=
  get_any A0 A1 A2 n0 n1 n2 c0 c1 c2 S K V key w h.hS h.hK h.hV h.hn0 h.hn1 h.hn2 h.hu h.h0 h.h1 h.h2
theorem HashIn.rget (h : HashIn w A0 A1 A2 n0 n1 n2 S K V) (c0 c1 c2 : Nat) (key : Int) : Calls Try.prog 18 #[.agg #[.slice A0 n0 c0, .slice A1 n1 c1, .slice A2 n2 c2], .int .u64 key] w fun e w' => e = .returned (.tuple #[.int .u64 (hashGet mix S K V key).1, .bool (hashGet mix S K V key).2]) ∧ Below w.heap.size w w' :=
  rget_any A0 A1 A2 n0 n1 n2 c0 c1 c2 S K V key w h.hS h.hK h.hV h.hn0 h.hn1 h.hn2 h.hu h.h0 h.h1 h.h2
end

/-- a box of three slices, laid behind W: it stands in w, and all older memory is as it was -/
structure Boxed (W : World) (v0 v1 v2 : Value) (w : World) : Prop where
  below : Below W.heap.size W w
  lt : W.heap.size < w.heap.size
  q0 : w.cell? ⟨W.heap.size, 0, none⟩ = some v0
  q1 : w.cell? ⟨W.heap.size, 1, none⟩ = some v1
  q2 : w.cell? ⟨W.heap.size, 2, none⟩ = some v2
theorem Boxed.new (W : World) (v0 v1 v2 : Value) (t : TypeId) : Boxed W v0 v1 v2 (W.alloc (.cells #[v0, v1, v2] t)) :=
  ⟨(Below.refl _ _).alloc (Nat.le_refl _) _, by simp, kept_new (Below.refl _ _) 0, kept_new (Below.refl _ _) 1, kept_new (Below.refl _ _) 2⟩
theorem Boxed.keep {W : World} {v0 v1 v2 : Value} {w w' : World} (h : Boxed W v0 v1 v2 w) (hb : Below w.heap.size w w') : Boxed W v0 v1 v2 w' :=
  ⟨h.below.trans (hb.mono (Nat.le_of_lt h.lt)), Nat.lt_of_lt_of_le h.lt hb.size, (hb.cell (p := ⟨W.heap.size, 0, none⟩) h.lt).trans h.q0, (hb.cell (p := ⟨W.heap.size, 1, none⟩) h.lt).trans h.q1, (hb.cell (p := ⟨W.heap.size, 2, none⟩) h.lt).trans h.q2⟩

end Go.Proofs.Ytgejpggbmgiocaa
/- Words and lemmas on blocks, rows and marks, over any program of the seat. -/
namespace Go.Proofs.Ytgejpggbmgiocaa
open Go.RowKit

/-- a block that is known whole -/
def Blk (w : World) (g : Nat) (t : TypeId) (cur : List Value) : Prop := w.heap[g]? = some (.cells cur.toArray t (0, 0))
section
variable {w w' : World} {g : Nat} {t : TypeId} {cur : List Value}
theorem Blk.lt (h : Blk w g t cur) : g < w.heap.size := (Array.getElem?_eq_some_iff.1 h).1
theorem Blk.cell (h : Blk w g t cur) (k : Nat) : w.cell? ⟨g, k, none⟩ = cur[k]? := by
  have := cell_of_row w g k cur.toArray t (0, 0) h
  rw [this]; simp
theorem Blk.frozen (h : Blk w g t cur) (k : Nat) : w.frozen? ⟨g, k, none⟩ = false := by simp [World.frozen?, show w.heap[g]? = _ from h]
theorem Blk.new (w : World) (t : TypeId) (cur : List Value) : Blk (w.alloc (.cells cur.toArray t)) w.heap.size t cur := heap_alloc_new w _
theorem Blk.same (h : Blk w g t cur) (hs : w'.heap[g]? = w.heap[g]?) : Blk w' g t cur := hs.trans h
theorem Blk.below {B : Nat} (h : Blk w g t cur) (hb : Below B w w') (hg : g < B) : Blk w' g t cur := (hb.block g hg).trans h
theorem Blk.alloc (h : Blk w g t cur) (o : Obj) : Blk (w.alloc o) g t cur := (Below.heap_alloc w o g h.lt).trans h
theorem Blk.drewN (h : Blk w g t cur) (m : Nat) : Blk (w.drewN m) g t cur := h
theorem Blk.set (h : Blk w g t cur) (k : Nat) (v : Value) : Blk (w.setCell ⟨g, k, none⟩ v) g t (cur.set k v) := by
  obtain ⟨hlt, hk⟩ := Array.getElem?_eq_some_iff.1 h
  show (w.heap.modify g _)[g]? = _
  rw [Array.getElem?_eq_getElem (by rw [Array.size_modify]; exact hlt), Array.getElem_modify_self, hk]
  simp
end

theorem made_one (v : Value) (n : Nat) : madeCells #[v] n = Array.replicate n v := by
  have h : ∀ k, (#[v] : Array Value)[k % 1]! = v := fun k => by rw [Nat.mod_one]; rfl
  unfold madeCells
  apply Array.ext
  · simp
  · intro i h1 h2
    rw [Array.getElem_map]
    exact (h _).trans (by simp)
theorem make_one (t e : TypeId) (v : Value) (bytes : Nat) (ht : Try.prog.underlying t = some (.slice e)) (hi : (Try.prog.info? e).map (fun i => (i.zero, i.size, i.bytes)) = some (some v, 1, bytes)) (hv : v.cells = #[v]) (S : Nat) (hS : S ≤ 1000000) (hb : bytes ≤ 64) (W : World) :
    (Instr.makeSlice t (.int .i64 (S : Int)) (.int .i64 (S : Int))).run Try.prog W = .ok (.slice (some ⟨W.heap.size, 0, none⟩) S S) (W.alloc (.cells (Array.replicate S v) e)) := by
  obtain ⟨i, hi, hz, h1, h2⟩ := info_parts hi
  have hm : (i.bytes : Int) * (S : Int) ≤ 64000000 := by
    have : i.bytes * S ≤ 64 * 1000000 := Nat.mul_le_mul (by omega) hS
    rw [← Int.natCast_mul]
    omega
  rw [run_makeSlice W t e i v ht hi hz .i64 .i64 (S : Int) (S : Int) (by omega) (Int.le_refl _) (by rw [h1, Int.toNat_natCast]; omega) (by omega) (by omega)]
  rw [h1, hv, Nat.mul_one, made_one, Int.toNat_natCast]

theorem own_move {w w' : World} {base n size : Nat} {e : TypeId} {v : Value} {xs : List Value} (h : w.ownsRow base e size v n xs) (hs : ∀ b o, v.ownBlock = some b → w.heap[b]? = some o → o.isCells = true → w'.heap[b]? = some o) : w'.ownsRow base e size v n xs := by
  refine ⟨h.1, ?_⟩
  rcases h.2 with h2 | ⟨g, cap, cur, hv, hb, hg, r⟩
  · exact .inl h2
  · exact .inr ⟨g, cap, cur, hv, hb, hs g _ (by rw [hv]; rfl) hg rfl, r⟩
theorem grownBy_none (w : World) : w.grownBy w none := ⟨rfl, rfl, rfl, Nat.le_refl _, fun _ _ _ => rfl⟩
theorem grownBy_drewN (w : World) (n : Nat) : w.grownBy (w.drewN n) none := ⟨rfl, rfl, rfl, Nat.le_refl _, fun _ _ _ => rfl⟩
theorem grownBy_setCell (w : World) (g k : Nat) (v : Value) : w.grownBy (w.setCell ⟨g, k, none⟩ v) (some g) := ⟨rfl, rfl, rfl, by show w.heap.size ≤ (w.heap.modify g _).size; simp, fun k _ hk => Below.heap_setCell _ _ _ k (fun e => hk (by rw [e]))⟩
def numsV (q : IntKind) (l : List Int) : List Value := l.map (.int q)
theorem numsV_snoc (q : IntKind) (l : List Int) (x : Int) : numsV q (l ++ [x]) = numsV q l ++ [.int q x] := by simp [numsV]
theorem add_plain' (b o j : Nat) : (⟨b, o, none⟩ : Addr).add j = ⟨b, o + j, none⟩ := by unfold Addr.add; split <;> simp_all
theorem own_pop {W : World} {base c n : Nat} {e : TypeId} {A : Option Addr} {xs : List Value} {x : Value} (h : W.ownsRow base e 1 (.slice A (n + 1) c) (n + 1) (xs ++ [x])) (hl : xs.length = n) : W.ownsRow base e 1 (.slice A n c) n xs := by
  rcases h.2 with ⟨_, h'⟩ | ⟨g', cap', cur, h', hb, hg, hnc, hcm, hcs, htake⟩
  · omega
  · simp only [Value.slice.injEq] at h'
    obtain ⟨rfl, _, rfl⟩ := h'
    refine ⟨by omega, .inr ⟨g', c, cur, rfl, hb, hg, by omega, hcm, hcs, ?_⟩⟩
    have h9 := congrArg (List.take n) htake
    rw [List.take_take, List.take_left' hl] at h9
    rw [← h9]
    congr 1
    omega
theorem own_cap {W : World} {base c n size : Nat} {e : TypeId} {A : Option Addr} {xs : List Value} (h : W.ownsRow base e size (.slice A n c) n xs) : n ≤ c := by
  rcases h.2 with ⟨h9, h8⟩ | ⟨g, cap, cur, h9, _, _, h8, _⟩
  · omega
  · simp only [Value.slice.injEq] at h9
    obtain ⟨_, _, rfl⟩ := h9
    exact h8
theorem own_sl {w : World} {base size n : Nat} {e : TypeId} {v : Value} {xs : List Value} (h : w.ownsRow base e size v n xs) : ∃ A c, v = .slice A n c := by
  rcases h.2 with ⟨rfl, rfl⟩ | ⟨g, cap, cur, hv, _⟩
  · exact ⟨_, _, rfl⟩
  · exact ⟨_, _, hv⟩
theorem own_ints {w : World} {base n c : Nat} {e : TypeId} {A : Option Addr} {q : IntKind} {xs : List Int} (h : w.ownsRow base e 1 (.slice A n c) n (numsV q xs)) : Arr w w.heap.size 1 A n (fun k _ => .int q (xs.getD k 0)) := fun hn => by
  obtain ⟨b, o, e, hlt, hc⟩ := Arr.of_own h hn
  have hl : xs.length = n := by have := h.1; simpa [numsV] using this
  refine ⟨b, o, e, hlt, fun k j hk hj => ?_⟩
  rw [hc k j hk hj]
  simp [numsV, show k < xs.length by omega]
theorem cell_al {W : World} {a : Addr} {v : Value} (h : W.cell? a = some v) (o : Obj) : (W.alloc o).cell? a = some v := (World.cell?_alloc_lt _ _ _ (World.block_lt_of_cell? W a h)).trans h

def falses (l : List Bool) : Nat := l.countP (fun b => !b)
theorem falses_set {l : List Bool} {j : Nat} (hj : j < l.length) (h : l.getD j false = false) : falses (l.set j true) + 1 = falses l := by
  unfold falses
  rw [List.countP_set hj]
  have e : l[j] = false := by simpa [hj] using h
  have : 0 < l.countP (fun b => !b) := List.countP_pos_iff.2 ⟨l[j], List.getElem_mem hj, by simp [e]⟩
  simp [e]
  omega
theorem getD_set {seen : List Bool} {j k : Nat} (hk : k < seen.length) : (seen.set j true).getD k false = if k = j then true else seen.getD k false := by
  by_cases e9 : k = j
  · subst e9; simp [hk]
  · rw [if_neg e9]; simp [List.getD_eq_getElem?_getD, Ne.symm e9]
theorem bools_cell {W : World} {g : Nat} {t : TypeId} {seen : List Bool} (h : Blk W g t (seen.map Value.bool)) {j : Nat} (hj : j < seen.length) : W.cell? ⟨g, j, none⟩ = some (.bool (seen.getD j false)) := by
  rw [h.cell]; simp [hj]
/-- marks that are 0 or 1 -/
def bitsV (l : List Bool) : List Value := l.map (fun b => .int .i64 (if b then 1 else 0))
theorem bitsV_get {l : List Bool} {j : Nat} (hj : j < l.length) : (bitsV l)[j]? = some (.int .i64 (if l.getD j false = true then 1 else 0)) := by
  simp [bitsV, hj]
theorem bitsV_set (l : List Bool) (j : Nat) : bitsV (l.set j true) = (bitsV l).set j (.int .i64 1) := by
  simp [bitsV, List.map_set]
theorem own_one (w : World) (x : Value) (e : TypeId) (base : Nat) (hb : base ≤ w.heap.size) : (w.alloc (.cells #[x] e)).ownsRow base e 1 (.slice (some ⟨w.heap.size, 0, none⟩) 1 1) 1 [x] :=
  ⟨rfl, .inr ⟨w.heap.size, 1, #[x], rfl, hb, heap_alloc_new w _, Nat.le_refl _, by simp [maxLen], rfl, by simp⟩⟩
/-- how much is left of a search: marks and stack -/
def srM (gs : Nat) (v : Value) (W : World) : Nat :=
  2 * (match W.heap[gs]? with | some (.cells cs _ _) => cs.toList.countP (fun v => match v with | .bool b => !b | _ => false) | _ => 0) + (match v with | .slice _ n _ => n | _ => 0)
theorem srM_eq {gs n c : Nat} {t : TypeId} {A : Option Addr} {W : World} {seen : List Bool} (h : Blk W gs t (seen.map Value.bool)) : srM gs (.slice A n c) W = 2 * falses seen + n := by
  unfold srM falses
  rw [show W.heap[gs]? = _ from h]
  simp only [List.countP_map]
  rfl
end Go.Proofs.Ytgejpggbmgiocaa
/- Facts on the program that each law's row wants. -/
namespace Go.Proofs.Ytgejpggbmgiocaa
open Go.RowKit Go.ChangeShapes Go.WideShapes Go.ChangeAt Go.Deep Go.Joins

theorem Try.own : ownKnob Try.prog.godebug = none := by kernel_rfl
theorem Try.laidOut : laidOutB Try.prog = true := by kernel_rfl
end Go.Proofs.Ytgejpggbmgiocaa
/- Lists of numbers held against each other; a text's bytes as numbers. -/
namespace Go.Proofs.Ytgejpggbmgiocaa
open Go.RowKit

theorem info3 : (Try.prog.info? 3).map (fun i => (i.zero, i.size, i.bytes)) = some (some (.int .i64 0), 1, 8) := by kernel_rfl
/-- a slice of ints -/
def IntC (xs : List Int) (k _j : Nat) : Value := .int .i64 (xs.getD k 0)
theorem ints_any (A1 A2 : Option Addr) (n1 n2 c1 c2 B : Nat) (xs ys : List Int) (w : World) (hx : xs.length = n1) (hy : ys.length = n2) (hn : n1 ≤ 9223372036854775807) (hn2 : n2 ≤ 9223372036854775807)
    (h1 : Arr w B 1 A1 n1 (IntC xs)) (h2 : Arr w B 1 A2 n2 (IntC ys)) :
    Calls Try.prog 9 #[.slice A1 n1 c1, .slice A2 n2 c2] w fun e w' => e = .returned (.bool (decide (xs = ys))) ∧ ∃ m, w' = w.drewN m := by
  have H1 := Lib.hid h1
  have H2 := Lib.hid h2
  clear h1 h2
  by_cases hnn : n1 = n2
  · obtain rfl : n2 = n1 := hnn.symm
    go_enter Try.func9, Try.ntmps9
    go_wp2
    go_loopw [13] (fun i wr => ∃ k m : Nat, k ≤ n2 ∧ i = .int .i64 k ∧ (∀ j, j < k → xs.getD j 0 = ys.getD j 0) ∧ wr = w.drewN m) (fun i _ => n2 - (intOf i).toNat)
    case atStart => exact ⟨0, 0, Nat.zero_le _, rfl, fun j hj => absurd hj (by omega), rfl⟩
    case round =>
      obtain ⟨k, m, hk, rfl, heq, rfl⟩ := hrel
      have HQ := Lib.hid heq
      clear heq
      by_cases hlt : k < n2
      · obtain ⟨b1, o1, rfl, _, hc1⟩ := H1.out.one hlt
        obtain ⟨b2, o2, rfl, _, hc2⟩ := H2.out.one hlt
        unfold IntC at hc1 hc2
        obtain ⟨x, hxk⟩ : ∃ x, x = xs.getD k 0 := ⟨_, rfl⟩
        obtain ⟨y, hyk⟩ : ∃ y, y = ys.getD k 0 := ⟨_, rfl⟩
        rw [← hxk] at hc1
        rw [← hyk] at hc2
        have HX := Lib.hid hxk
        have HY := Lib.hid hyk
        clear hxk hyk
        go_wp2
        go_quiet (fail)
        go_wp2
        · have hb := (by assumption : (x != y) = true)
          go_ret
          have hne : ¬ xs = ys := by
            intro h
            have := HX.out; have := HY.out
            subst h; simp_all
          exact ⟨by simp [hne], _, World.drewN_drewN _ _ _⟩
        · have hb := (by assumption : (x != y) = false)
          go_roundw
          case rel => exact ⟨k + 1, _, by omega, by go_num, fun j hj => by
                        by_cases h : j < k
                        · exact HQ.out j h
                        · obtain rfl : j = k := by omega
                          rw [← HX.out, ← HY.out]; simpa using hb, rfl⟩
          case measure => simp [intOf]; omega
      · go_wp2
        go_ret
        have he : xs = ys := by
          apply List.ext_getElem (by omega)
          intro j h1 h2
          simpa [h1, h2] using HQ.out j (by omega)
        exact ⟨by simp [he], _, rfl⟩
  · have hb : ((n1 : Int) != (n2 : Int)) = true := by rw [bne_iff_ne]; omega
    have hne : ¬ xs = ys := by rintro rfl; omega
    go_enter Try.func9, Try.ntmps9
    go_wp2
    go_ret
    exact ⟨by simp [hne], 0, rfl⟩

/-- a text's bytes, as ids -/
def bytesI (s : ByteArray) : List Int := s.data.toList.map fun b => (b.toNat : Int)
theorem length_bytesI (s : ByteArray) : (bytesI s).length = s.size := by unfold bytesI; rw [List.length_map]; rfl
theorem index_bytes (s : ByteArray) (k : Nat) (h : k < s.size) : 0 ≤ (bytesI s).getD k 0 ∧ (bytesI s).getD k 0 < 256 ∧ ∀ W, (Instr.index 9 (.string s) (.int .i64 (k : Int))).run Try.prog W = .ok (.int .u8 ((bytesI s).getD k 0)) W := by
  have h' : k < s.data.size := h
  have e : (bytesI s).getD k 0 = ((s[k]'h).toNat : Int) := by
    unfold bytesI
    rw [List.getD, List.getElem?_map, Array.getElem?_toList, Array.getElem?_eq_getElem h']
    rfl
  have := (s[k]'h).toNat_lt
  refine ⟨by omega, by omega, fun W => ?_⟩
  rw [run_index_string W 9 s .i64 k Try.underlying9, dif_pos ⟨by omega, by omega⟩, e]
  rfl

theorem getD_take (l : List Int) (k : Nat) (h : k < l.length) : l.take (k + 1) = l.take k ++ [l.getD k 0] := by
  rw [List.take_succ_eq_append_getElem h]
  simp [h]
theorem bytes_any (s : ByteArray) (w : World) (hs : s.size ≤ 1048576) :
    Calls Try.prog 12 #[.string s] w fun e w' => ∃ v, e = .returned v ∧ w'.ownsRow w.heap.size 3 1 v s.size (numsV .i64 (bytesI s)) ∧ Below w.heap.size w w' := by
  obtain ⟨i3, hi3, hz3, hsz3, hbt3⟩ := info_parts info3
  go_enter Try.func12, Try.ntmps12
  go_wp2_with fail
  go_loopw [3, 4] (fun v i wr => ∃ k : Nat, k ≤ s.size ∧ i = .int .i64 k ∧ wr.ownsRow w.heap.size 3 1 v k (numsV .i64 ((bytesI s).take k)) ∧ Below w.heap.size w wr) (fun _ i _ => s.size - (intOf i).toNat)
  case atStart => exact ⟨0, by omega, rfl, World.ownsRow_made w #[] 0 (Nat.le_refl _) (by simp [maxLen]) rfl, (Below.refl _ _).alloc (Nat.le_refl _) _⟩
  case round =>
    obtain ⟨k, hk, rfl, hown, hbel⟩ := hrel
    have hsz := hbel.size
    by_cases hlt : k < s.size
    · obtain ⟨hx0, hx1, hidx⟩ := index_bytes s k hlt
      obtain ⟨x, hx⟩ : ∃ x, x = (bytesI s).getD k 0 := ⟨_, rfl⟩
      rw [← hx] at hidx hx0 hx1
      have HX := Lib.hid hx
      clear hx
      go_wp2_with (first
        | (at_builtin; refine wpList_app1 w _ rfl (.tmp 12) (.tmp 17) 26 rfl w.heap.size 3 i3 _ 8 Try.underlying26 hi3 hz3 hsz3 hbt3 rfl _ k (numsV .i64 ((bytesI s).take k)) rfl (hown.alloc _) (hbel.alloc hsz _) (.int .i64 x) _ rfl (by go_simp) rfl (by omega) (by unfold maxLen; omega) (by have := hsz; simp; omega) ?_; intro v1 w1 hown1 hb1 hg1))
      go_roundw
      case rel => exact ⟨k + 1, by omega, by go_num, by rw [getD_take _ _ (by rw [length_bytesI]; exact hlt), numsV_snoc, ← HX.out]; exact hown1, hb1⟩
      case measure => simp [intOf]; omega
    · have hown0 : wr.ownsRow w.heap.size 3 1 u3 s.size (numsV .i64 (bytesI s)) := by
        have hkn : k = s.size := by omega
        rw [List.take_of_length_le (by rw [length_bytesI]; omega), hkn] at hown
        exact hown
      clear hown
      go_wp2_with fail
      go_ret
      exact ⟨_, rfl, hown0, hbel⟩

end Go.Proofs.Ytgejpggbmgiocaa
/- An argument that is a hash, opened to plain lists. -/
namespace Go.Proofs.Ytgejpggbmgiocaa
open Go.RowKit Go.ChangeShapes Go.WideShapes Go.ChangeAt Go.Deep Go.Joins

theorem cells51 : Try.prog.cellsOf 51 = 1 := by kernel_rfl
theorem cells84 : Try.prog.cellsOf 84 = 1 := by kernel_rfl
theorem cells25 : Try.prog.cellsOf 25 = 3 := by kernel_rfl
theorem bytes51 : Try.prog.bytesOf 51 = 8 := by kernel_rfl
theorem bytes84 : Try.prog.bytesOf 84 = 4 := by kernel_rfl
theorem under25 : ∃ f0 f1 f2 : Field, Try.prog.underlying 25 = some (.struct #[f0, f1, f2]) ∧ f0.type = 22 ∧ f1.type = 23 ∧ f2.type = 23 ∧ oneCellFields Try.prog #[f0, f1, f2] = true :=
  ⟨_, _, _, Try.underlying25, rfl, rfl, rfl, by kernel_rfl⟩

theorem num_arr {w : World} {q : IntKind} {A : Option Addr} {n : Nat} {xs : List Int} (h : SlR w (fun _ cs a => cs = [.int q a] ∧ (Lit.int q a).wf = true) 1 A n xs) : Arr w w.heap.size 1 A n (NumC q xs) :=
  h.arr (by omega) _ (fun k hk cs hr _ j hj => by
    obtain ⟨rfl, _⟩ := hr
    obtain rfl : j = 0 := by omega
    simp [NumC, hk])
theorem num_under {w : World} {q : IntKind} {A : Option Addr} {n : Nat} {xs : List Int} (h : SlR w (fun _ cs a => cs = [.int q a] ∧ (Lit.int q a).wf = true) 1 A n xs) (b : Int) (hb : 0 < b) (hq : ∀ a, (Lit.int q a).wf = true → 0 ≤ a ∧ a < b) : Under b xs := by
  intro i
  by_cases hi : i < xs.length
  · obtain ⟨_, _, _, hx⟩ := h.2 (by rw [← h.1]; omega)
    obtain ⟨cs, _, _, _, hwf⟩ := hx i hi
    simpa [hi] using hq _ hwf
  · simp [List.getD, List.getElem?_eq_none (by omega : xs.length ≤ i)]; omega
theorem wf_u32 (a : Int) (h : (Lit.int .u32 a).wf = true) : 0 ≤ a ∧ a < 4294967296 := by
  have h1 : IntKind.u32.min = 0 := rfl
  have h2 : IntKind.u32.max = 4294967295 := rfl
  simp only [Lit.wf, Bool.and_eq_true, decide_eq_true_eq, h1, h2] at h
  omega

theorem wf_u64 (a : Int) (h : (Lit.int .u64 a).wf = true) : 0 ≤ a ∧ a < 18446744073709551616 := by
  have h1 : IntKind.u64.min = 0 := rfl
  have h2 : IntKind.u64.max = 18446744073709551615 := rfl
  simp only [Lit.wf, Bool.and_eq_true, decide_eq_true_eq, h1, h2] at h
  omega
theorem cells3 : Try.prog.cellsOf 3 = 1 := by kernel_rfl
theorem bytes3 : Try.prog.bytesOf 3 = 8 := by kernel_rfl
theorem open_ints {H : Type} {enc : TypeId × Value → H} {W : World} {base : Nat} {spare : Nat → Bool} {held : Bool} {r : Reach} {b0 : Nat} {v : Value} {d : DataW H} {p : List MemPlace}
    (hv : Value.okWide Try.prog W r b0 26 v) (h : DataW.Trod enc Try.prog W base spare held 26 v d p) (hw : Wt Try.prog 26 d) :
    ∃ A n c l, v = .slice A n c ∧ l.length = n ∧ n ≤ 140737488355328 ∧ n ≤ c ∧ Arr W W.heap.size 1 A n (IntC l) := by
  obtain ⟨a0, len, cap, rfl⟩ := okWide_slice Try.underlying26 hv
  obtain ⟨fuel, hf⟩ := h
  obtain ⟨A, n, c, xs, hcs, hsl, hnc, _, hr⟩ := open_sl (R := fun _ cs a => cs = [.int .i64 a] ∧ (Lit.int .i64 a).wf = true) Try.underlying26 cells3 (by omega) (open_num Try.underlying3) hf hw
  rw [bytes3] at hr
  simp only [reachBytes] at hr
  refine ⟨A, n, c, xs, by simpa [Value.cells] using hcs, hsl.1, by omega, hnc, hsl.arr (by omega) _ (fun k hk cs hr _ j hj => ?_)⟩
  obtain ⟨rfl, _⟩ := hr
  obtain rfl : j = 0 := by omega
  simp [IntC, hk]
theorem open_hash {H : Type} {enc : TypeId × Value → H} {W : World} {base : Nat} {spare : Nat → Bool} {held : Bool} {r : Reach} {b0 : Nat} {v : Value} {d : DataW H} {p : List MemPlace}
    (hv : Value.okWide Try.prog W r b0 25 v) (h : DataW.Trod enc Try.prog W base spare held 25 v d p) (hw : Wt Try.prog 25 d) :
    ∃ A0 n0 c0 A1 n1 c1 A2 n2 c2 S K V, v = .agg #[.slice A0 n0 c0, .slice A1 n1 c1, .slice A2 n2 c2] ∧ HashIn W A0 A1 A2 n0 n1 n2 S K V ∧ Under 18446744073709551616 V := by
  obtain ⟨f0, f1, f2, hu, ht0, ht1, ht2, hone⟩ := under25
  obtain ⟨v0, v1, v2, y0, y1, y2, n, rfl, rfl, _, h0, h1, h2⟩ := open_agg3 hu hone cells25 hv h
  have w0 := hw.struct hu (j := 0) (f := f0) (d := y0.1) rfl rfl
  have w1 := hw.struct hu (j := 1) (f := f1) (d := y1.1) rfl rfl
  have w2 := hw.struct hu (j := 2) (f := f2) (d := y2.1) rfl rfl
  rw [ht0] at h0 w0
  rw [ht1] at h1 w1
  rw [ht2] at h2 w2
  obtain ⟨A0, n0, c0, S, e0, s0, _, _, r0⟩ := open_sl (R := fun _ cs a => cs = [.int .u32 a] ∧ (Lit.int .u32 a).wf = true) Try.underlying22 cells84 (by omega) (open_num Try.underlying84) h0 w0
  obtain ⟨A1, n1, c1, K, e1, s1, _, _, r1⟩ := open_sl (R := fun _ cs a => cs = [.int .u64 a] ∧ (Lit.int .u64 a).wf = true) Try.underlying23 cells51 (by omega) (open_num Try.underlying51) h1 w1
  obtain ⟨A2, n2, c2, V, e2, s2, _, _, r2⟩ := open_sl (R := fun _ cs a => cs = [.int .u64 a] ∧ (Lit.int .u64 a).wf = true) Try.underlying23 cells51 (by omega) (open_num Try.underlying51) h2 w2
  simp only [List.cons.injEq, and_true] at e0 e1 e2
  subst e0 e1 e2
  rw [bytes84] at r0
  rw [bytes51] at r1 r2
  simp only [reachBytes] at r0 r1 r2
  exact ⟨A0, n0, c0, A1, n1, c1, A2, n2, c2, S, K, V, rfl, ⟨s0.1, s1.1, s2.1, by omega, by omega, by omega, num_under s0 _ (by omega) wf_u32, num_arr s0, num_arr s1, num_arr s2⟩, num_under s2 _ (by omega) wf_u64⟩
end Go.Proofs.Ytgejpggbmgiocaa
