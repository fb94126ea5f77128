/- MMiKey, MMiRef0 of this seat, in one text. -/
import Derived.Test.YtfjhcoeehjephaaMComMe
import Derived.Test.YtfjhcoeehjephaaMMiAutMe
import Derived.Test.YtfjhcoeehjephaaDfaMe
import Derived.Maps.OwnOps
import Derived.Maps.OwnSet
import Derived.DeepKeys4
import Derived.ChangeKeys
/- Maps from things to their places in a list; sets of numbers; mini.count. -/
namespace Go.Proofs.Ytfjhcoeehjephaa.M9
open Go.RowKit Go.Maps Go.WideMaps
/-- how things are spelled as keys -/
structure KeyS (S : Type) where
  lit : S → Lit
  ok : S → Prop
  inj : ∀ a b, ok a → ok b → lit a = lit b → a = b
  isLit : ∀ s, WideAt.IsKeyLit (lit s)
section
variable {H S : Type} [DecidableEq S]
/-- the place of a thing -/
def plc (all : List S) (s : S) : Nat := all.idxOf s
theorem plc_get {l : List S} {s : S} (h : s ∈ l) : l[plc l s]? = some s := by
  unfold plc
  rw [List.getElem?_eq_getElem (List.idxOf_lt_length_of_mem h)]
  simp
theorem plc_old {l : List S} {x : S} (r : List S) (h : x ∈ l) : plc (l ++ r) x = plc l x := by
  unfold plc; rw [List.idxOf_append, if_pos h]
theorem plc_new {l : List S} {x : S} (h : x ∉ l) : plc (l ++ [x]) x = l.length := by
  unfold plc; rw [List.idxOf_append, if_neg h]; simp
def placeI (all : List S) (s : S) : Int := if s ∈ all then (plc all s : Int) else 0
def IdxD (K : KeyS S) (D : DataW H) (all : List S) : Prop :=
  IsMap D ∧ ∀ s, K.ok s → Maps.has D (K.lit s) = decide (s ∈ all) ∧ ∀ z, D.atKey (K.lit s) z = if s ∈ all then .lit (.int .i64 (plc all s : Nat)) else z
theorem idx_empty (K : KeyS S) : IdxD K (.map [] : DataW H) ([] : List S) :=
  ⟨isMap_empty, fun s _ => ⟨by simp; rfl, fun z => by simp; rfl⟩⟩
theorem idx_snoc {K : KeyS S} {D : DataW H} {all : List S} (h : IdxD K D all) (s : S) (hs : K.ok s) (hn : s ∉ all) : IdxD K (D.put (K.lit s) (.lit (.int .i64 (all.length : Nat)))) (all ++ [s]) := by
  refine ⟨h.1.put _ _, fun x hx => ?_⟩
  by_cases e : x = s
  · subst e
    refine ⟨by rw [has_put_same h.1 (K.isLit _)]; simp, fun z => ?_⟩
    rw [atKey_put_same h.1 (K.isLit _), if_pos (by simp), plc_new hn]
  · have hne : K.lit x ≠ K.lit s := fun hk => e (K.inj _ _ hx hs hk)
    refine ⟨by rw [has_put_other hne, (h.2 x hx).1]; simp [e], fun z => ?_⟩
    rw [atKey_put_other hne, (h.2 x hx).2 z]
    by_cases hm : x ∈ all
    · rw [if_pos hm, if_pos (by simp [hm]), plc_old _ hm]
    · rw [if_neg hm, if_neg (by simp [hm, e])]
end
theorem zero3m (w : World) : (zeroValue 3).run Try.prog w = .ok (.int .i64 0) w := by kernel_rfl
theorem idx_lookup {S : Type} [DecidableEq S] {K : KeyS S} {w : World} {g n : Nat} {D : DataW Unit} {all : List S} {mt kt : TypeId} (hkd : Keyed Try.prog kt) (hmt : Try.prog.underlying mt = some (.map kt 3)) (hown : w.ownsMap Try.prog kt (plainElem Try.prog 3) g n D) (hR : IdxD K D all) (s : S) (hs : K.ok s)
    {v : Value} (hv : keyOf Try.prog kt v = some (K.lit s)) :
    (Instr.lookup mt (.map (some g)) v true).run Try.prog w = .ok (.tuple #[.int .i64 (placeI all s), .bool (decide (s ∈ all))]) w := by
  obtain ⟨v', ps, hrun, hv'⟩ := hown.look_ok hkd hmt (zero3m w) (plainElem_int Try.underlying3 (by decide)) hv
  obtain ⟨c, rfl, hc, _⟩ := plainElem_int_inv Try.underlying3 hv'
  simp only [Prod.mk.injEq] at hc
  obtain ⟨hh, hat⟩ := hR.2 s hs
  rw [hrun, hh]
  rw [hat] at hc
  unfold placeI
  by_cases hm : s ∈ all
  · rw [if_pos hm] at hc ⊢
    have : c = (plc all s : Nat) := by have := hc.1; simpa using this.symm
    rw [this]
  · rw [if_neg hm] at hc ⊢
    have : c = 0 := by have := hc.1; simpa using this.symm
    rw [this]
/-! Pairs of numbers. -/
theorem Try.laidOut' : laidOutB Try.prog = true := by kernel_rfl
set_option maxRecDepth 100000 in
theorem key71 : Try.prog.keyTypeAt 2 135 = true := by kernel_rfl
set_option maxRecDepth 100000 in
theorem row71 : (135 : TypeId) < Try.prog.types.size := of_decide_eq_true (by kernel_rfl)
set_option maxRecDepth 100000 in
theorem wide71 : (match Try.prog.underlying 135 with | some (.array _ _) | some (.struct _) => true | _ => false) = true := by rw [Try.underlying135]
set_option maxRecDepth 100000 in
theorem keyed71 : Keyed Try.prog 135 := Keyed.of_law (deep_law_laid Try.laidOut' (m := 2) (by omega) row71 key71 wide71)
set_option maxRecDepth 100000 in
theorem cells71 : Try.prog.cellsOf 135 = 2 := by kernel_rfl
theorem cells3m : Try.prog.cellsOf 3 = 1 := by kernel_rfl
set_option maxRecDepth 100000 in
theorem keyType71 : Try.prog.keyType 135 = true := by kernel_rfl
def keyM (a b : Int) : Lit := .string (keyBytes [.int .i64 a, .int .i64 b])
def I64 (a : Int) : Prop := (Lit.int .i64 a).wf = true
theorem i64_of (a : Int) (h0 : 0 ≤ a) (h1 : a < 9223372036854775807) : I64 a := by
  unfold I64
  exact WalkArith.wf_i64 (by omega)
set_option maxRecDepth 100000 in
theorem keyLits71 (n : Nat) (a b : Int) (ha : I64 a) (hb : I64 b) : Try.prog.keyLits (n + 2) 135 [.int .i64 a, .int .i64 b] = some [.int .i64 a, .int .i64 b] := by
  unfold I64 at ha hb
  simp only [Program.keyLits, Try.underlying135, cells71]
  simp [Try.underlying3, cells3m, ha, hb, List.mapM_cons]
set_option maxRecDepth 100000 in
theorem keyOf71 (a b : Int) (ha : I64 a) (hb : I64 b) : keyOf Try.prog 135 (.agg #[.int .i64 a, .int .i64 b]) = some (keyM a b) := by
  have hf : (Value.agg #[.int .i64 a, .int .i64 b]).formed Try.prog 135 = true := by simp [Value.formed, Try.underlying135, cells71]
  have hsz : ∃ n, Try.prog.types.size + 1 = n + 2 := ⟨Try.prog.types.size - 1, by have h : 135 < Try.prog.types.size := row71; omega⟩
  obtain ⟨n, hn⟩ := hsz
  simp only [keyOf, Try.underlying135, keyType71, hf, Bool.and_self, if_true, Value.cells, hn]
  rw [keyLits71 n a b ha hb]
  rfl
theorem keyM_inj {a b c d : Int} (ha : I64 a) (hb : I64 b) (hc : I64 c) (hd : I64 d) (h : keyM a b = keyM c d) : a = c ∧ b = d := by
  have e : keyBytes [.int .i64 a, .int .i64 b] = keyBytes [.int .i64 c, .int .i64 d] := by injection h
  have hsz := keyLits_inj (keyLits71 0 a b ha hb) (keyLits71 0 c d hc hd) e
  simpa using hsz
def pairK : KeyS (Int × Int) := ⟨fun p => keyM p.1 p.2, fun p => I64 p.1 ∧ I64 p.2, fun _ _ ha hb h => Prod.ext (keyM_inj ha.1 ha.2 hb.1 hb.2 h).1 (keyM_inj ha.1 ha.2 hb.1 hb.2 h).2, fun _ => trivial⟩
/-! Texts. -/
abbrev Bs := List UInt8
def textK : KeyS Bs := ⟨fun t => .string t, fun t => t.length ≤ 9223372036854775807, fun _ _ _ _ h => by injection h, fun _ => trivial⟩
theorem keyOf_text (t : Bs) (h : t.length ≤ 9223372036854775807) : keyOf Try.prog 9 (.string ⟨t.toArray⟩) = some (textK.lit t) := by
  rw [keyOf_string_mk Try.underlying9 (by show t.toArray.size ≤ maxLen; simp [maxLen]; exact h)]
  rfl
theorem keyOf_int3 (a : Int) (h : I64 a) : keyOf Try.prog 3 (.int .i64 a) = some (.int .i64 a) := keyOf_int_mk Try.underlying3 h
def intK : KeyS Int := ⟨fun a => .int .i64 a, fun a => I64 a, fun _ _ _ _ h => by injection h, fun _ => trivial⟩
/-- how many keys there are -/
theorem size_snoc {H S : Type} [DecidableEq S] {K : KeyS S} {D : DataW H} {all : List S} (h : IdxD K D all) (ht : Tidy D) (hz : Maps.size D = all.length) (s : S) (hs : K.ok s) (hn : s ∉ all) (d : DataW H) : Maps.size (D.put (K.lit s) d) = (all ++ [s]).length := by
  rw [size_put ht, (h.2 s hs).1, hz]
  simp [hn]
theorem i64_sm {a : Int} (h0 : -1 ≤ a) (h1 : a ≤ 1000000) : I64 a := by
  unfold I64
  exact WalkArith.wf_i64 (by omega)
theorem lit_int (x : Int) : WideAt.IsKeyLit (Lit.int .i64 x) := intK.isLit x
/-- a set of numbers -/
def SetD {H : Type} (D : DataW H) (a : List Int) : Prop := Tidy D ∧ (∀ x, I64 x → Maps.has D (.int .i64 x) = decide (x ∈ a)) ∧ Maps.size D = a.length
theorem set_empty {H : Type} : SetD (.map [] : DataW H) [] := ⟨tidy_empty, fun x _ => by simp; rfl, rfl⟩
theorem set_put {H : Type} {D : DataW H} {a : List Int} (h : SetD D a) (x : Int) (hx : I64 x) (h0 : 0 ≤ x) (u : DataW H) : SetD (D.put (.int .i64 x) u) (distS a x) := by
  have hm : IsMap D := h.1.isMap
  refine ⟨h.1.put (lit_int x) u, fun y hy => ?_, ?_⟩
  · by_cases e : y = x
    · subst e
      rw [has_put_same hm (lit_int y)]
      symm
      rw [decide_eq_true_eq, distS_mem]
      exact .inr ⟨rfl, h0⟩
    · have hne : Lit.int .i64 y ≠ Lit.int .i64 x := fun h9 => e (by injection h9)
      rw [has_put_other hne, h.2.1 y hy]
      refine decide_eq_decide.2 ?_
      rw [distS_mem]
      simp [e]
  · rw [size_put h.1, h.2.1 x hx, h.2.2]
    unfold distS
    by_cases e : x ∈ a
    · simp [e]
    · have : ¬ x < 0 := by omega
      simp [e, this]
theorem distS_neg {a : List Int} {x : Int} (h : x < 0) : distS a x = a := by unfold distS; rw [if_pos (.inl h)]
theorem take_snoc {l : List Int} {k : Nat} (h : k < l.length) : l.take (k + 1) = l.take k ++ [l.getD k 0] := by
  rw [List.take_succ_eq_append_getElem h]; simp [h]
theorem zero68 (w : World) : (zeroValue 108).run Try.prog w = .ok (.agg #[]) w := by kernel_rfl
/-- numbers that stand in some memory and are small -/
def Sm (l : List Int) : Prop := ∀ k, -1 ≤ l.getD k 0 ∧ l.getD k 0 ≤ 1000000
set_option maxRecDepth 100000 in
set_option maxHeartbeats 4000000 in
theorem count_any (A : Option Addr) (n c : Nat) (l : List Int) (w : World) (hl : l.length = n) (hn : n ≤ 1000000) (hs : Sm l) (h : Arr w w.heap.size 1 A n (NumC .i64 l)) :
    Calls Try.prog 76 #[.slice A n c] w fun e w' => e = .returned (.int .i64 ((distL l).length : Nat)) ∧ Below w.heap.size w w' := by
  have hmm := @run_makeMap Try.prog
  have H := Lib.hid h
  have HL := Lib.hid hl
  have HS := Lib.hid hs
  clear h hl hs
  obtain ⟨rv, hrv⟩ : ∃ rv : Nat, rv = (distL l).length := ⟨_, rfl⟩
  rw [← hrv]
  have HR := Lib.hid hrv
  clear hrv
  go_enter Try.func76, Try.ntmps76
  go_wp2_with fail
  have hown0 := World.ownsMap_made w Try.prog 3 (unitElem (H := Unit))
  have HO := Lib.hid hown0
  clear hown0
  go_loopw [9] (fun i wr => ∃ (k : Nat) (D : DataW Unit), k ≤ n ∧ i = .int .i64 k ∧ Below w.heap.size w wr ∧ wr.ownsMap Try.prog 3 unitElem w.heap.size k D ∧ SetD D (distL (l.take k))) (fun i _ => n - (intOf i).toNat)
  case atStart => exact ⟨0, _, by omega, rfl, (Below.refl _ _).alloc (Nat.le_refl _) _, HO.out, set_empty⟩
  case round =>
    obtain ⟨k, D, hk, rfl, hb, hm, hd⟩ := hrel
    have HD := Lib.hid hd
    clear hd
    by_cases hlt : k < n
    · obtain ⟨b, o, rfl, hbl, hc⟩ := H.out.one hlt
      have hc := (hb.cell (p := ⟨b, o + k, none⟩) hbl).trans hc
      unfold NumC at hc
      have hsx := HS.out k
      have hts := take_snoc (l := l) (k := k) (by rw [HL.out]; exact hlt)
      obtain ⟨x, hx⟩ : ∃ x, x = l.getD k 0 := ⟨_, rfl⟩
      rw [← hx] at hc hsx hts
      have HT := Lib.hid hts
      have hkey := keyOf_int3 x (i64_sm hsx.1 hsx.2)
      clear hx hts
      by_cases h1 : 0 ≤ x
      · have d1 : decide (0 ≤ x) = true := by simpa using h1
        have H1 := Lib.hid h1
        clear h1
        go_wp2_with (first | (at_mapUpdate; refine wpList_mapUpdate_own _ rfl _ _ _ 132 rfl 3 108 (int_keyed Try.underlying3) Try.underlying132 (unitElem (H := Unit)) w.heap.size k D rfl hm (by unfold maxLen; omega) _ _ _ rfl rfl hkey _ [] unitElem_mk ?_; intro w1 hown1 hgrow1))
        go_roundw
        case rel => exact ⟨k + 1, _, by omega, by go_num, hb.grown hgrow1 hb.size (fun j hj => by cases hj; exact Nat.le_refl _), hown1, by rw [HT.out, distL_snoc]; exact set_put HD.out x (i64_sm hsx.1 hsx.2) H1.out _⟩
        case measure => simp [intOf]; omega
      · have d1 : decide (0 ≤ x) = false := by simpa using h1
        have H1 := Lib.hid h1
        clear h1
        go_wp2_with fail
        go_roundw
        case rel => exact ⟨k + 1, D, by omega, by go_num, hb, hm.mono (by omega), by rw [HT.out, distL_snoc, distS_neg (by have := H1.out; omega)]; exact HD.out⟩
        case measure => simp [intOf]; omega
    · obtain rfl : k = n := by omega
      have hz : Maps.size D = rv := by
        rw [HD.out.2.2, HR.out, List.take_of_length_le (by rw [HL.out]; omega)]
      go_wp2_with (first | (at_len; refine wpList_len_own _ rfl _ 132 rfl 3 108 Try.underlying132 _ w.heap.size k D rfl hm ?_))
      try rw [hz]
      go_returns
      exact ⟨by first | rfl | simp, hb⟩
end Go.Proofs.Ytfjhcoeehjephaa.M9
/- Parting by columns: plain. -/
namespace Go.Proofs.Ytfjhcoeehjephaa.M9
/-- where state i goes by column c, told by parts -/
def toP (part : List Int) (rows : List (List Int)) (i c : Nat) : Int := if 0 ≤ (rows.getD i []).getD c 0 then part.getD ((rows.getD i []).getD c 0).toNat 0 else -1
def keyP (now part : List Int) (rows : List (List Int)) (c i : Nat) : Int × Int := (now.getD i 0, toP part rows i c)
def colK (now part : List Int) (rows : List (List Int)) (c : Nat) : Nat → List (Int × Int)
  | 0 => []
  | i + 1 => if now.getD i 0 < 0 ∨ keyP now part rows c i ∈ colK now part rows c i then colK now part rows c i else colK now part rows c i ++ [keyP now part rows c i]
def colN (now part : List Int) (rows : List (List Int)) (c : Nat) : Nat → List Int
  | 0 => []
  | i + 1 => colN now part rows c i ++ [if now.getD i 0 < 0 then now.getD i 0 else (plc (colK now part rows c i) (keyP now part rows c i) : Nat)]
theorem plc_len {S : Type} [DecidableEq S] {l : List S} {x : S} (h : x ∉ l) : plc l x = l.length := by unfold plc; exact List.idxOf_eq_length h
theorem plc_lt {S : Type} [DecidableEq S] {l : List S} {x : S} (h : x ∈ l) : plc l x < l.length := by unfold plc; exact List.idxOf_lt_length_of_mem h
section
variable {now part : List Int} {rows : List (List Int)} {c : Nat}
theorem colN_len : ∀ i, (colN now part rows c i).length = i
  | 0 => rfl
  | i + 1 => by unfold colN; rw [List.length_append, colN_len i]; rfl
theorem colK_succ (i : Nat) : colK now part rows c (i + 1) = if now.getD i 0 < 0 ∨ keyP now part rows c i ∈ colK now part rows c i then colK now part rows c i else colK now part rows c i ++ [keyP now part rows c i] := rfl
theorem colK_len : ∀ i, (colK now part rows c i).length ≤ i
  | 0 => Nat.le_refl _
  | i + 1 => by
    rw [colK_succ]
    have := colK_len i
    split
    · omega
    · rw [List.length_append]; simp; omega
theorem colK_mono {x : Int × Int} : ∀ {i k : Nat}, i ≤ k → x ∈ colK now part rows c i → x ∈ colK now part rows c k ∧ plc (colK now part rows c k) x = plc (colK now part rows c i) x := fun {i k} h hx => by
  induction h with
  | refl => exact ⟨hx, rfl⟩
  | @step k h ih =>
    rw [colK_succ]
    split
    · exact ih
    · refine ⟨List.mem_append_left _ ih.1, ?_⟩
      rw [plc_old _ ih.1, ih.2]
theorem colN_lt : ∀ {i k : Nat}, i < k → (colN now part rows c k).getD i 0 = (colN now part rows c (i + 1)).getD i 0 := fun {i k} h => by
  induction h with
  | refl => rfl
  | @step k h ih =>
    rw [← ih]
    show (colN now part rows c k ++ [_]).getD i 0 = _
    rw [getD_app1 (by rw [colN_len]; exact h)]
theorem colN_one (i : Nat) : (colN now part rows c (i + 1)).getD i 0 = if now.getD i 0 < 0 then now.getD i 0 else (plc (colK now part rows c i) (keyP now part rows c i) : Nat) := by
  have h : ((colN now part rows c i) ++ [if now.getD i 0 < 0 then now.getD i 0 else ((plc (colK now part rows c i) (keyP now part rows c i) : Nat) : Int)]).getD (colN now part rows c i).length 0 = _ := getD_app2
  rw [colN_len] at h
  exact h
theorem colN_at {i k : Nat} (h : i < k) (h0 : 0 ≤ now.getD i 0) : keyP now part rows c i ∈ colK now part rows c k ∧ (colN now part rows c k).getD i 0 = (plc (colK now part rows c k) (keyP now part rows c i) : Nat) := by
  rw [colN_lt h, colN_one, if_neg (by omega)]
  by_cases hm : keyP now part rows c i ∈ colK now part rows c i
  · have := colK_mono (Nat.le_of_lt h) hm
    exact ⟨this.1, by rw [this.2]⟩
  · have h1 : colK now part rows c (i + 1) = colK now part rows c i ++ [keyP now part rows c i] := by
      show (if _ then _ else _) = _
      rw [if_neg]
      rintro (h9 | h9)
      · omega
      · exact hm h9
    have h2 : keyP now part rows c i ∈ colK now part rows c (i + 1) := by rw [h1]; simp
    have := colK_mono (show i + 1 ≤ k from h) h2
    refine ⟨this.1, ?_⟩
    rw [this.2, h1, plc_new hm, plc_len hm]
theorem colN_neg {i k : Nat} (h : i < k) (h0 : now.getD i 0 < 0) : (colN now part rows c k).getD i 0 = now.getD i 0 := by
  rw [colN_lt h, colN_one, if_pos h0]
theorem colN_over {i k : Nat} (h : k ≤ i) : (colN now part rows c k).getD i 0 = 0 := by
  rw [List.getD_eq_getElem?_getD, List.getElem?_eq_none (by rw [colN_len]; exact h)]; rfl
theorem colN_sm {n : Nat} (hs : ∀ i, -1 ≤ now.getD i 0) (hn : n ≤ 400) (k : Nat) (hk : k ≤ n) : ∀ i, -1 ≤ (colN now part rows c k).getD i 0 ∧ ((colN now part rows c k).getD i 0 < 0 ∨ (colN now part rows c k).getD i 0 ≤ 400) := fun i => by
  by_cases h : i < k
  · by_cases h0 : now.getD i 0 < 0
    · rw [colN_neg h h0]; exact ⟨hs i, .inl h0⟩
    · rw [(colN_at h (by omega)).2]
      have h1 := plc_lt (colN_at (now := now) (part := part) (rows := rows) (c := c) h (by omega)).1
      have h2 := colK_len (now := now) (part := part) (rows := rows) (c := c) k
      omega
  · rw [colN_over (by omega)]; omega
end
/-- finer by the columns below u -/
structure FineC (n : Nat) (rows : List (List Int)) (part now : List Int) (u : Nat) : Prop where
  dead : ∀ i, i < n → part.getD i 0 < 0 → now.getD i 0 = part.getD i 0
  live : ∀ i, i < n → 0 ≤ part.getD i 0 → 0 ≤ now.getD i 0
  iff : ∀ i j, i < n → j < n → 0 ≤ part.getD i 0 → 0 ≤ part.getD j 0 → (now.getD i 0 = now.getD j 0 ↔ part.getD i 0 = part.getD j 0 ∧ ∀ c, c < u → toP part rows i c = toP part rows j c)
theorem FineC.start (n : Nat) (rows : List (List Int)) (part : List Int) : FineC n rows part part 0 :=
  ⟨fun _ _ _ => rfl, fun _ _ h => h, fun i j _ _ _ _ => ⟨fun h => ⟨h, fun c hc => by omega⟩, fun h => h.1⟩⟩
theorem FineC.next {n : Nat} {rows : List (List Int)} {part now : List Int} {u : Nat} (h : FineC n rows part now u) : FineC n rows part (colN now part rows u n) (u + 1) := by
  refine ⟨fun i hi h0 => ?_, fun i hi h0 => ?_, fun i j hi hj h0 h1 => ?_⟩
  · have := h.dead i hi h0
    rw [colN_neg hi (by omega), this]
  · have := h.live i hi h0
    rw [(colN_at hi this).2]; omega
  · have a0 := h.live i hi h0
    have a1 := h.live j hj h1
    have k0 := colN_at (part := part) (rows := rows) (c := u) hi a0
    have k1 := colN_at (part := part) (rows := rows) (c := u) hj a1
    rw [k0.2, k1.2]
    have key : ((plc (colK now part rows u n) (keyP now part rows u i) : Nat) : Int) = (plc (colK now part rows u n) (keyP now part rows u j) : Nat) ↔ keyP now part rows u i = keyP now part rows u j := by
      constructor
      · intro e
        have e1 : plc (colK now part rows u n) (keyP now part rows u i) = plc (colK now part rows u n) (keyP now part rows u j) := by omega
        have g0 := plc_get k0.1
        have g1 := plc_get k1.1
        rw [e1, g1] at g0
        exact (Option.some.inj g0).symm
      · intro e; rw [e]
    rw [key]
    unfold keyP
    rw [Prod.mk.injEq, h.iff i j hi hj h0 h1]
    constructor
    · rintro ⟨⟨e, h2⟩, h3⟩
      refine ⟨e, fun c hc => ?_⟩
      by_cases e2 : c = u
      · subst e2; exact h3
      · exact h2 c (by omega)
    · rintro ⟨e, h2⟩
      exact ⟨⟨e, fun c hc => h2 c (by omega)⟩, h2 u (by omega)⟩
/-- rows whose columns are just those of the classes that some byte has -/
structure Going (A : Aut) (rows : List (List Int)) (u : Nat) : Prop where
  len : rows.length = A.n
  wid : ∀ i, i < A.n → (rows.getD i []).length = u
  fwd : ∀ b, b < 256 → ∃ c, c < u ∧ ∀ i, i < A.n → (rows.getD i []).getD c 0 = A.nx i b
  bwd : ∀ c, c < u → ∃ b, b < 256 ∧ ∀ i, i < A.n → (rows.getD i []).getD c 0 = A.nx i b
theorem FineC.fine {A : Aut} {rows : List (List Int)} {u : Nat} {part now : List Int} (h : FineC A.n rows part now u) (hg : Going A rows u) : Fine A (fun i => part.getD i 0) (fun i => now.getD i 0) := by
  have hp : ∀ i b c, i < A.n → (rows.getD i []).getD c 0 = A.nx i b → PT A (fun i => part.getD i 0) i b = toP part rows i c := fun i b c hi he => by unfold PT toP; rw [he]
  refine ⟨h.dead, h.live, fun i j hi hj h0 h1 => ?_⟩
  rw [h.iff i j hi hj h0 h1]
  constructor
  · rintro ⟨e, h2⟩
    refine ⟨e, fun b hb => ?_⟩
    obtain ⟨c, hc, hall⟩ := hg.fwd b hb
    rw [hp i b c hi (hall i hi), hp j b c hj (hall j hj)]
    exact h2 c hc
  · rintro ⟨e, h2⟩
    refine ⟨e, fun c hc => ?_⟩
    obtain ⟨b, hb, hall⟩ := hg.bwd c hc
    rw [← hp i b c hi (hall i hi), ← hp j b c hj (hall j hj)]
    exact h2 b hb
end Go.Proofs.Ytfjhcoeehjephaa.M9
