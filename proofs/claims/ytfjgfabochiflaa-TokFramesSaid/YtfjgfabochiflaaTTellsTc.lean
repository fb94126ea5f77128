/- TTells, TGrow, TRGrow of this seat, in one text. -/
import Derived.Test.YtfjgfabochiflaaTRRightTc
import Derived.Test.YtfjgfabochiflaaHMergeQTc
import Derived.Maps.StringElems
import Derived.Laws.Strings2
import Derived.Laws.IdiomStrings
/- Rules in a map from From to To, and as plain lists. -/
namespace Go.Proofs.Ytfjgfabochiflaa.T12
open Go.RowKit Go.Maps Go.WideMaps

def rulesOf (l : List SR) : List Rule := l.map fun r => (r.1.data.toList, r.2.data.toList)
def toF (l : List SR) : Nat → Bs → Option ByteArray
  | 0 => fun _ => none
  | k + 1 => fun x => if x = (l.getD k noRule).1.data.toList then some (l.getD k noRule).2 else toF l k x
theorem toF_some {l : List SR} {x : Bs} {u : ByteArray} : ∀ {k : Nat}, toF l k x = some u → ∃ j, j < k ∧ (l.getD j noRule).1.data.toList = x ∧ (l.getD j noRule).2 = u
  | 0, h => by cases h
  | k + 1, h => by
    unfold toF at h
    split at h
    · rename_i hx
      exact ⟨k, by omega, hx.symm, by injection h⟩
    · obtain ⟨j, hj, h1, h2⟩ := toF_some h
      exact ⟨j, by omega, h1, h2⟩
theorem toF_none {l : List SR} {x : Bs} : ∀ {k : Nat}, toF l k x = none → ∀ j, j < k → (l.getD j noRule).1.data.toList ≠ x
  | 0, _, j, hj => absurd hj (by omega)
  | k + 1, h, j, hj => by
    unfold toF at h
    split at h
    · cases h
    · rename_i hx
      by_cases e : j = k
      · subst e; exact fun h' => hx h'.symm
      · exact toF_none h j (by omega)

def Tells {H : Type} (D : DataW H) (F : Bs → Option ByteArray) : Prop :=
  IsMap D ∧ ∀ x, Maps.has D (litS x) = (F x).isSome ∧ ∀ z, D.atKey (litS x) z = match F x with | some u => .lit (.string u.data.toList) | none => z
theorem litS_key (x : Bs) : WideAt.IsKeyLit (litS x) := trivial
theorem litS_inj {x y : Bs} (h : litS x = litS y) : x = y := by injection h
theorem tells_empty {H : Type} : Tells (.map [] : DataW H) (fun _ => none) := ⟨isMap_empty, fun _ => ⟨rfl, fun _ => rfl⟩⟩
theorem tells_put {H : Type} {D : DataW H} {F : Bs → Option ByteArray} (h : Tells D F) (x : Bs) (u : ByteArray) :
    Tells (D.put (litS x) (.lit (.string u.data.toList))) (fun y => if y = x then some u else F y) := by
  refine ⟨h.1.put _ _, fun y => ?_⟩
  dsimp only
  by_cases e : y = x
  · subst e
    rw [if_pos rfl]
    exact ⟨has_put_same h.1 (litS_key _) _, fun z => atKey_put_same h.1 (litS_key _) _ _⟩
  · have hne : litS y ≠ litS x := fun hk => e (litS_inj hk)
    rw [if_neg e]
    refine ⟨?_, fun z => ?_⟩
    · rw [has_put_other hne]; exact (h.2 y).1
    · rw [atKey_put_other hne]; exact (h.2 y).2 z
theorem zero9 (w : World) : (zeroValue 9).run Try.prog w = .ok (.string ⟨#[]⟩) w := by kernel_rfl
def orNone : Option ByteArray → ByteArray | some u => u | none => ⟨#[]⟩
theorem tells_lookup {w : World} {g n : Nat} {D : DataW Unit} {F : Bs → Option ByteArray} (hown : w.ownsMap Try.prog 9 (plainElem Try.prog 9) g n D) (hR : Tells D F) (s : ByteArray) (hs : s.size ≤ maxLen) :
    (Instr.lookup 112 (.map (some g)) (.string s) true).run Try.prog w = .ok (.tuple #[.string (orNone (F s.data.toList)), .bool (F s.data.toList).isSome]) w := by
  obtain ⟨v, ps, hrun, hv⟩ := hown.look_ok (string_keyed Try.underlying9) Try.underlying112 (zero9 w) (plainElem_string Try.underlying9 (by decide)) (keyOf_string_mk Try.underlying9 hs)
  obtain ⟨c, rfl, hc, _⟩ := plainElem_string_inv Try.underlying9 hv
  simp only [Prod.mk.injEq] at hc
  obtain ⟨hh, hat⟩ := hR.2 s.data.toList
  rw [hrun, show Maps.has D (.string s.data.toList) = (F s.data.toList).isSome from hh]
  have h1 := hc.1
  rw [show D.atKey (.string s.data.toList) = D.atKey (litS s.data.toList) from rfl, hat] at h1
  cases hF : F s.data.toList with
  | none =>
    rw [hF] at h1
    have : c = ⟨#[]⟩ := str_ext (by simpa using h1.symm)
    rw [this]; rfl
  | some u =>
    rw [hF] at h1
    have : c = u := str_ext (by simpa using h1.symm)
    rw [this]; rfl

/-- all rules may be -/
def AllOk (l : List SR) : Prop := l.length ≤ 64 ∧ ∀ k, k < l.length → OkR l k
theorem allOk_of {l : List SR} (h : rightE l = 0) : AllOk l := by
  unfold rightE at h
  split at h
  · cases h
  · split at h
    · rename_i h1 h2; exact ⟨by omega, h2⟩
    · cases h
theorem mem_rulesOf {l : List SR} {r : Rule} : r ∈ rulesOf l ↔ ∃ k, k < l.length ∧ r = ((l.getD k noRule).1.data.toList, (l.getD k noRule).2.data.toList) := by
  unfold rulesOf
  rw [List.mem_map]
  constructor
  · rintro ⟨q, hq, rfl⟩
    obtain ⟨k, hk, rfl⟩ := List.getElem_of_mem hq
    exact ⟨k, hk, by simp [hk]⟩
  · rintro ⟨k, hk, rfl⟩
    exact ⟨l.getD k noRule, by simp [hk], rfl⟩
theorem size_data (s : ByteArray) : s.data.toList.length = s.size := by rw [Array.length_toList]; rfl
theorem AllOk.fit {l : List SR} (h : AllOk l) : Fit (rulesOf l) where
  some r hr := by
    obtain ⟨k, hk, rfl⟩ := mem_rulesOf.mp hr
    have := (h.2 k hk).some
    intro e
    have h2 : (l.getD k noRule).1.size = 0 := by rw [← size_data]; exact congrArg List.length e
    omega
  once r hr q hq e := by
    obtain ⟨k, hk, rfl⟩ := mem_rulesOf.mp hr
    obtain ⟨j, hj, rfl⟩ := mem_rulesOf.mp hq
    have e' := str_ext e
    have : k = j := by
      rcases Nat.lt_trichotomy k j with h1 | h1 | h1
      · exact absurd e' ((h.2 j hj).once k h1)
      · exact h1
      · exact absurd e'.symm ((h.2 k hk).once j h1)
    rw [this]
theorem AllOk.best {l : List SR} (h : AllOk l) {rest : Bs} {m : Nat} (hm : m ≤ rest.length) (hmost : ∀ r ∈ rulesOf l, r.1 <+: rest → r.1.length ≤ m) {u : ByteArray} (hu : toF l l.length (rest.take m) = some u) :
    ∃ r, Best (rulesOf l) rest r ∧ r.1.length = m ∧ r.2 = u.data.toList ∧ u.size ≤ 32 := by
  obtain ⟨j, hj, h1, rfl⟩ := toF_some hu
  have hl : (l.getD j noRule).1.data.toList.length = m := by rw [h1]; simp; omega
  exact ⟨_, ⟨mem_rulesOf.mpr ⟨j, hj, rfl⟩, by show (l.getD j noRule).1.data.toList <+: rest; rw [h1]; exact List.take_prefix _ _, fun q hq hp => by show _ ≤ (l.getD j noRule).1.data.toList.length; rw [hl]; exact hmost q hq hp⟩, hl, rfl, (h.2 j hj).few2⟩
theorem most_less {l : List SR} {rest : Bs} {m : Nat} (hmost : ∀ r ∈ rulesOf l, r.1 <+: rest → r.1.length ≤ m) (hu : toF l l.length (rest.take m) = none) : ∀ r ∈ rulesOf l, r.1 <+: rest → r.1.length ≤ m - 1 := fun r hr hp => by
  have h1 := hmost r hr hp
  by_cases e : r.1.length = m
  · exfalso
    obtain ⟨k, hk, rfl⟩ := mem_rulesOf.mp hr
    refine toF_none hu k hk ?_
    have h3 := List.prefix_iff_eq_take.mp hp
    rw [e] at h3
    exact h3
  · omega
theorem none_of {l : List SR} (h : AllOk l) {rest : Bs} (hmost : ∀ r ∈ rulesOf l, r.1 <+: rest → r.1.length ≤ 0) : None (rulesOf l) rest := fun r hr hp => by
  have h1 := hmost r hr hp
  exact h.fit.some r hr (List.eq_nil_of_length_eq_zero (by omega))
theorem piece_list (s : ByteArray) (a m : Nat) : (s.extract a (a + m)).data.toList = (s.data.toList.drop a).take m := by
  simp [ByteArray.data_extract, List.take_drop]
theorem piece_size (s : ByteArray) (a m : Nat) (h : a + m ≤ s.size) : (s.extract a (a + m)).size = m := by
  rw [← size_data, piece_list, List.length_take, List.length_drop, size_data]; omega
theorem slice_piece (s : ByteArray) (a m : Nat) (h : a + m ≤ s.size) (W : World) : (Instr.slice 9 (.string s) (some (.int .i64 (a : Int))) (some (.int .i64 ((a : Int) + (m : Int)))) none).run Try.prog W = .ok (.string (s.extract a (a + m))) W := by
  rw [run_slice_string W 9 s .i64 .i64 _ _ Try.underlying9 (by omega) (by omega) (by omega)]
  congr 3
theorem index_byte (s : ByteArray) (k : Nat) (h : k < s.size) : ∃ (c : UInt8) (t : Bs), s.data.toList.drop k = c :: t ∧ s.data.toList.drop (k + 1) = t ∧ ∀ W, (Instr.index 9 (.string s) (.int .i64 (k : Int))).run Try.prog W = .ok (.int .u8 (c.toNat : Int)) W := by
  have h' : k < s.data.toList.length := by rw [size_data]; exact h
  refine ⟨s[k], s.data.toList.drop (k + 1), ?_, rfl, fun W => ?_⟩
  · rw [List.drop_eq_getElem_cons h']; congr 1
  · rw [run_index_string W 9 s .i64 _ Try.underlying9, dif_pos ⟨by omega, by omega⟩]
    simp
end Go.Proofs.Ytfjgfabochiflaa.T12
/- Apply where it refuses; how much a text may grow, program and reference. -/
namespace Go.Proofs.Ytfjgfabochiflaa.T12
open Go.RowKit Go.Maps Go.WideMaps

theorem rightE_cases (l : List SR) : rightE l = 0 ∨ rightE l = 2 ∨ rightE l = 110 := by
  unfold rightE
  split
  · simp
  · split <;> simp

set_option maxRecDepth 100000 in
set_option maxHeartbeats 4000000 in
theorem apply_no (A : Option Addr) (n c : Nat) (l : List SR) (s : ByteArray) (w : World) (hl : l.length = n) (hn : n ≤ 140737488355328) (h : Arr w w.heap.size 2 A n (RuleC l)) (hz : ∀ k, k < n → (l.getD k noRule).1.size ≤ maxLen)
    (hbad : rightE l ≠ 0) :
    Calls Try.prog 29 #[.slice A n c, .string s] w fun e w' => e = .returned (.tuple #[.string ⟨#[]⟩, .int .i64 (rightE l)]) ∧ Below w.heap.size w w' := by
  have HR := Lib.hid (right_any A n c l w hl hn h hz)
  obtain ⟨x, hx⟩ : ∃ x, x = rightE l := ⟨_, rfl⟩
  rw [← hx] at HR hbad ⊢
  clear h hz hx
  have hne : (x != 0) = true := by simpa using hbad
  go_enter Try.func29, Try.ntmps29
  go_wp2_with fail
  refine HR.out.mono ?_
  rintro e w1 ⟨rfl, hb1⟩
  have HB1 := Lib.hid hb1
  clear hb1
  go_wp2_with fail
  go_ret2
  exact ⟨rfl, HB1.out⟩
set_option maxRecDepth 100000 in
set_option maxHeartbeats 4000000 in
theorem apply_long (A : Option Addr) (n c : Nat) (l : List SR) (s : ByteArray) (w : World) (hl : l.length = n) (hn : n ≤ 140737488355328) (h : Arr w w.heap.size 2 A n (RuleC l)) (hz : ∀ k, k < n → (l.getD k noRule).1.size ≤ maxLen)
    (hok : rightE l = 0) (hs : 262144 < s.size) :
    Calls Try.prog 29 #[.slice A n c, .string s] w fun e w' => e = .returned (.tuple #[.string ⟨#[]⟩, .int .i64 2]) ∧ Below w.heap.size w w' := by
  have HR := Lib.hid (right_any A n c l w hl hn h hz)
  rw [hok] at HR
  clear h hz hok
  have d0 : decide ((262144 : Int) < (s.size : Int)) = true := by simp; omega
  go_enter Try.func29, Try.ntmps29
  go_wp2_with fail
  refine HR.out.mono ?_
  rintro e w1 ⟨rfl, hb1⟩
  have HB1 := Lib.hid hb1
  clear hb1
  go_wp2_with fail
  go_ret2
  exact ⟨rfl, HB1.out⟩

/-- how many bytes one byte may become -/
def growN (l : List SR) : Nat → Nat
  | 0 => 1
  | k + 1 => max (growN l k) (((l.getD k noRule).2.size + (l.getD k noRule).1.size - 1) / (l.getD k noRule).1.size)
theorem growN_pos (l : List SR) : ∀ k, 1 ≤ growN l k
  | 0 => Nat.le_refl _
  | k + 1 => by have := growN_pos l k; unfold growN; omega
theorem ceil_le {t f : Nat} (hf : 0 < f) : t ≤ ((t + f - 1) / f) * f := by
  have h1 := Nat.div_add_mod (t + f - 1) f
  have h2 := Nat.mod_lt (t + f - 1) hf
  rw [Nat.mul_comm] at h1
  omega
theorem ceil_min {t f n : Nat} (hf : 0 < f) (h : t ≤ n * f) : (t + f - 1) / f ≤ n := by
  have : (t + f - 1) / f < n + 1 := by
    rw [Nat.div_lt_iff_lt_mul hf, Nat.add_mul]
    omega
  omega
theorem ceil_small {t f : Nat} (hf : 0 < f) (ht : t ≤ 32) : (t + f - 1) / f ≤ 32 := ceil_min hf (by
  have : 32 * 1 ≤ 32 * f := Nat.mul_le_mul_left 32 hf
  omega)
theorem growN_le {l : List SR} (h : AllOk l) : ∀ k, k ≤ l.length → growN l k ≤ 32
  | 0, _ => by simp [growN]
  | k + 1, hk => by
    have h1 := growN_le h k (by omega)
    have h2 := h.2 k (by omega)
    have h3 := ceil_small (t := (l.getD k noRule).2.size) (f := (l.getD k noRule).1.size) h2.some h2.few2
    unfold growN
    omega
theorem growN_rule {l : List SR} (h : AllOk l) : ∀ k, k ≤ l.length → ∀ j, j < k → (l.getD j noRule).2.size ≤ growN l k * (l.getD j noRule).1.size
  | 0, _, j, hj => absurd hj (by omega)
  | k + 1, hk, j, hj => by
    have hle : growN l k ≤ growN l (k + 1) := Nat.le_max_left _ _
    by_cases e : j = k
    · subst e
      have h1 := ceil_le (t := (l.getD j noRule).2.size) (h.2 j (by omega)).some
      have h2 : ((l.getD j noRule).2.size + (l.getD j noRule).1.size - 1) / (l.getD j noRule).1.size ≤ growN l (j + 1) := Nat.le_max_right _ _
      exact Nat.le_trans h1 (Nat.mul_le_mul_right _ h2)
    · exact Nat.le_trans (growN_rule h k (by omega) j (by omega)) (Nat.mul_le_mul_right _ hle)
theorem rules_grow {l : List SR} (h : AllOk l) : ∀ r ∈ rulesOf l, r.2.length ≤ growN l l.length * r.1.length := fun r hr => by
  obtain ⟨k, hk, rfl⟩ := mem_rulesOf.mp hr
  simp only [size_data]
  exact growN_rule h l.length (Nat.le_refl _) k hk

set_option maxRecDepth 100000 in
set_option maxHeartbeats 4000000 in
theorem grow_no (A : Option Addr) (n c : Nat) (l : List SR) (w : World) (hl : l.length = n) (hn : n ≤ 140737488355328) (h : Arr w w.heap.size 2 A n (RuleC l)) (hz : ∀ k, k < n → (l.getD k noRule).1.size ≤ maxLen) (hbad : rightE l ≠ 0) :
    Calls Try.prog 64 #[.slice A n c] w fun e w' => e = .returned (.tuple #[.int .i64 0, .int .i64 (rightE l)]) ∧ Below w.heap.size w w' := by
  have HR := Lib.hid (right_any A n c l w hl hn h hz)
  obtain ⟨x, hx⟩ : ∃ x, x = rightE l := ⟨_, rfl⟩
  rw [← hx] at HR hbad ⊢
  clear h hz hx
  have hne : (x != 0) = true := by simpa using hbad
  go_enter Try.func64, Try.ntmps64
  go_wp2_with fail
  refine HR.out.mono ?_
  rintro e w1 ⟨rfl, hb1⟩
  have HB1 := Lib.hid hb1
  clear hb1
  go_wp2_with fail
  go_ret2
  exact ⟨rfl, HB1.out⟩

theorem quo_nat (a b : Nat) : ((a : Int)).tdiv (b : Int) = ((a / b : Nat) : Int) := by
  rw [Int.tdiv_eq_ediv_of_nonneg (by omega)]
  rfl
set_option maxRecDepth 100000 in
set_option maxHeartbeats 4000000 in
theorem grow_ok (A : Option Addr) (n c : Nat) (l : List SR) (w : World) (hl : l.length = n) (h : Arr w w.heap.size 2 A n (RuleC l)) (hz : ∀ k, k < n → (l.getD k noRule).1.size ≤ maxLen) (hok : AllOk l) :
    Calls Try.prog 64 #[.slice A n c] w fun e w' => e = .returned (.tuple #[.int .i64 (growN l n), .int .i64 0]) ∧ Below w.heap.size w w' := by
  have H := Lib.hid h
  have hn := hok.1
  have HR := Lib.hid (right_any A n c l w hl (by omega) h hz)
  have HOK := Lib.hid hok
  have hr0 : rightE l = 0 := rightE_ok (by omega) hok.2
  rw [hr0] at HR
  clear h hz hok hr0
  go_enter Try.func64, Try.ntmps64
  go_wp2_with fail
  refine HR.out.mono ?_
  rintro e w1 ⟨rfl, hb1⟩
  have HB1 := Lib.hid hb1
  have hs1 := hb1.size
  clear hb1 HR
  go_wp2_with fail
  go_loopw [5, 15] (fun m i wr => ∃ k : Nat, k ≤ n ∧ i = .int .i64 k ∧ m = .int .i64 (growN l k) ∧ Below w.heap.size w wr) (fun _ i _ => n - (intOf i).toNat)
  case atStart => exact ⟨0, by omega, rfl, rfl, HB1.out⟩
  case round =>
    obtain ⟨k, hk, rfl, rfl, hb⟩ := hrel
    have HB := Lib.hid hb
    have hbs := hb.size
    clear hb
    obtain ⟨w2, rfl⟩ : ∃ w2 : World, w2 = wr := ⟨_, rfl⟩
    have hgs : growN l (k + 1) = max (growN l k) (((l.getD k noRule).2.size + (l.getD k noRule).1.size - 1) / (l.getD k noRule).1.size) := rfl
    have hg32 := growN_le HOK.out k (by omega)
    obtain ⟨g, hg⟩ : ∃ g, g = growN l k := ⟨_, rfl⟩
    rw [← hg] at hgs hg32 ⊢
    have HG := Lib.hid hg
    clear hg
    by_cases hlt : k < n
    · obtain ⟨b, o, rfl, hbl, hc0, hc1⟩ := (H.out.below HB.out).two hlt
      simp only [RuleC, if_true, if_neg (show ¬ (1 : Nat) = 0 by omega)] at hc0 hc1
      have hf16 := (HOK.out.2 k (by omega)).few
      have hf1 := (HOK.out.2 k (by omega)).some
      have ht32 := (HOK.out.2 k (by omega)).few2
      obtain ⟨f, hf⟩ : ∃ f, f = (l.getD k noRule).1 := ⟨_, rfl⟩
      obtain ⟨t, ht⟩ : ∃ t, t = (l.getD k noRule).2 := ⟨_, rfl⟩
      rw [← hf] at hc0 hf16 hf1 hgs
      rw [← ht] at hc1 ht32 hgs
      clear hf ht
      have hq := quo_nat (t.size + f.size - 1) f.size
      have hcast : (((t.size + f.size - 1 : Nat)) : Int) = (t.size : Int) + (f.size : Int) - 1 := by omega
      rw [hcast] at hq
      have hc32 := ceil_small (t := t.size) (f := f.size) hf1 ht32
      obtain ⟨q, hqq⟩ : ∃ q, q = (t.size + f.size - 1) / f.size := ⟨_, rfl⟩
      rw [← hqq] at hq hgs hc32
      have HGS := Lib.hid hgs
      clear hgs hqq hcast
      have hfz : ((f.size : Int) == 0) = false := beq_eq_false_iff_ne.mpr (by omega)
      have hmx2 : (if g < q then (q : Int) else (g : Int)) = ((max g q : Nat) : Int) := by split <;> omega
      have HMX2 := Lib.hid hmx2
      clear hmx2
      go_wp2_with fail
      go_roundw
      case rel => exact ⟨k + 1, by omega, by go_num, by rw [HGS.out, ← HMX2.out], HB.out.alloc hbs _⟩
      case measure => simp [intOf]; omega
    · obtain rfl : k = n := by omega
      go_wp2_with fail
      go_ret2
      rw [HG.out]
      exact ⟨rfl, HB.out⟩
end Go.Proofs.Ytfjgfabochiflaa.T12
/- The reference: how much a text may grow; does a text go on with another one? -/
namespace Go.Proofs.Ytfjgfabochiflaa.T12
open Go.RowKit

theorem ceil_iff {t f n : Nat} (hf : 0 < f) : n * f < t ↔ n < (t + f - 1) / f := by
  constructor
  · intro h
    apply Classical.byContradiction
    intro h2
    have h3 := ceil_le (t := t) hf
    have h4 : (t + f - 1) / f * f ≤ n * f := Nat.mul_le_mul_right _ (by omega)
    omega
  · intro h
    apply Classical.byContradiction
    intro h2
    have := ceil_min (n := n) hf (by omega : t ≤ n * f)
    omega

set_option maxRecDepth 100000 in
set_option maxHeartbeats 4000000 in
theorem rgrow_ok (A : Option Addr) (n c : Nat) (l : List SR) (w : World) (hl : l.length = n) (h : Arr w w.heap.size 2 A n (RuleC l)) (hok : AllOk l) :
    Calls Try.prog 37 #[.slice A n c] w fun e w' => e = .returned (.int .i64 (growN l n)) ∧ Below w.heap.size w w' := by
  have H := Lib.hid h
  have hn := hok.1
  have HOK := Lib.hid hok
  clear h hok
  go_enter Try.func37, Try.ntmps37
  go_wp2_with fail
  go_loopw [3, 9] (fun m i wr => ∃ k : Nat, k ≤ n ∧ i = .int .i64 k ∧ m = .int .i64 (growN l k) ∧ Below w.heap.size w wr) (fun _ i _ => n - (intOf i).toNat)
  case atStart => exact ⟨0, by omega, rfl, rfl, Below.refl _ _⟩
  case round =>
    obtain ⟨k, hk, rfl, rfl, hb⟩ := hrel
    have HB := Lib.hid hb
    have hbs := hb.size
    clear hb
    obtain ⟨w2, rfl⟩ : ∃ w2 : World, w2 = wr := ⟨_, rfl⟩
    have hgs : growN l (k + 1) = max (growN l k) (((l.getD k noRule).2.size + (l.getD k noRule).1.size - 1) / (l.getD k noRule).1.size) := rfl
    have hg32 := growN_le HOK.out k (by omega)
    obtain ⟨g, hg⟩ : ∃ g, g = growN l k := ⟨_, rfl⟩
    rw [← hg] at hgs hg32 ⊢
    have HG := Lib.hid hg
    clear hg
    by_cases hlt : k < n
    · obtain ⟨b, o, rfl, hbl, hc0, hc1⟩ := (H.out.below HB.out).two hlt
      simp only [RuleC, if_true, if_neg (show ¬ (1 : Nat) = 0 by omega)] at hc0 hc1
      have hf16 := (HOK.out.2 k (by omega)).few
      have hf1 := (HOK.out.2 k (by omega)).some
      have ht32 := (HOK.out.2 k (by omega)).few2
      obtain ⟨f, hf⟩ : ∃ f, f = (l.getD k noRule).1 := ⟨_, rfl⟩
      obtain ⟨t, ht⟩ : ∃ t, t = (l.getD k noRule).2 := ⟨_, rfl⟩
      rw [← hf] at hc0 hf16 hf1 hgs
      rw [← ht] at hc1 ht32 hgs
      clear hf ht
      have hc32 := ceil_small (t := t.size) (f := f.size) hf1 ht32
      have HCI := Lib.hid (fun n => ceil_iff (t := t.size) (f := f.size) (n := n) hf1)
      obtain ⟨q, hqq⟩ : ∃ q, q = (t.size + f.size - 1) / f.size := ⟨_, rfl⟩
      rw [← hqq] at hgs hc32 HCI
      have HGS := Lib.hid hgs
      clear hgs hqq
      go_wp2_with fail
      have HB3 := Lib.hid (HB.out.alloc hbs (.cells #[.string f, .string t] 114))
      have r0 : (w2.alloc (.cells #[.string f, .string t] 114)).cell? ⟨w2.heap.size, 0, none⟩ = some (.string f) := by simp
      have r1 : (w2.alloc (.cells #[.string f, .string t] 114)).cell? ⟨w2.heap.size, 1, none⟩ = some (.string t) := by simp
      generalize w2.alloc (.cells #[.string f, .string t] 114) = w3 at HB3 r0 r1 ⊢
      go_loopw [6] (fun x wr => ∃ j : Nat, j ≤ q ∧ x = .int .i64 j ∧ wr = w3) (fun x _ => q - (intOf x).toNat)
      case atStart => exact ⟨0, by omega, rfl, rfl⟩
      case round =>
        obtain ⟨j, hj, rfl, rfl⟩ := hrel
        have hci := HCI.out j
        have hjf : j * f.size ≤ 32 * 16 := Nat.mul_le_mul (by omega) hf16
        have hcast : (j : Int) * (f.size : Int) = ((j * f.size : Nat) : Int) := by simp
        have hwr : IntKind.i64.wrap ((j : Int) * (f.size : Int)) = (j : Int) * (f.size : Int) := IntWalk.i64_in _ (by omega)
        by_cases hlt2 : j < q
        · have hd : decide ((j : Int) * (f.size : Int) < (t.size : Int)) = true := by rw [hcast]; simp only [decide_eq_true_eq]; have := hci.mpr hlt2; omega
          have hd2 : (j : Int) * (f.size : Int) < (t.size : Int) := by simpa using hd
          clear hci hcast
          go_wp2_with fail
          go_roundw
          case rel => exact ⟨j + 1, by omega, by go_num, by first | rfl | trivial⟩
          case measure => simp [intOf]; omega
        · obtain rfl : j = q := by omega
          have hd : decide ((j : Int) * (f.size : Int) < (t.size : Int)) = false := by
            rw [hcast]; simp only [decide_eq_false_iff_not]
            intro h; have := hci.mp (by omega); omega
          have hd2 : ¬ (j : Int) * (f.size : Int) < (t.size : Int) := by simpa using hd
          have HB4 := Lib.hid HB3.out
          clear hci hcast
          by_cases hgq : g < j
          · have e1 : decide ((g : Int) < (j : Int)) = true := by simp; omega
            go_wp2_with fail
            go_roundw
            case rel => exact ⟨k + 1, by omega, by go_num, by rw [HGS.out, Nat.max_eq_right (by omega)], HB4.out⟩
            case measure => simp [intOf]; omega
          · have e1 : decide ((g : Int) < (j : Int)) = false := by simp; omega
            go_wp2_with fail
            go_roundw
            case rel => exact ⟨k + 1, by omega, by go_num, by rw [HGS.out, Nat.max_eq_left (by omega)], HB4.out⟩
            case measure => simp [intOf]; omega
    · obtain rfl : k = n := by omega
      go_wp2_with fail
      go_returns
      rw [HG.out]
      exact ⟨rfl, HB.out⟩

end Go.Proofs.Ytfjgfabochiflaa.T12
