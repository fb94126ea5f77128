/- NfaJoins: the joined trees; what is marked. Plain. -/
import Derived.Test.YtpeoomdfopjlmaaLJ1
namespace Go.Proofs.Ytpeoomdfopjlmaa
open Go.RowKit

/-- what Build says, as one -/
def BuildU (t : Tr) (e : Ending) (W' : World) : Prop := ∃ (S a z er : Int) (E : List Ed) (A : Option Addr) (m c : Nat),
  e = .returned (.tuple #[.agg #[.int .i64 S, .int .i64 a, .int .i64 z, .slice A m c], .int .i64 er]) ∧ NfaIn W' A m ⟨S, a, z, E⟩ ∧ (er = 0 → wrongT t = 0 ∧ ∃ S' : Nat, S = (S' : Int) ∧ a = 0 ∧ z = 1 ∧ Made t S' E) ∧
  (wrongT t = 0 → t.size ≤ 1000 → er = 0)
theorem BuildSays.uni {t : Tr} {e : Ending} {W' : World} (h : BuildSays t e W') : BuildU t e W' := by
  rcases h with ⟨h1, rfl⟩ | ⟨h1, h2, rfl⟩ | ⟨h1, S, E, A, c, h2, rfl, h3⟩
  · exact ⟨0, 0, 0, wrongT t, [], none, 0, 0, rfl, nfa_none _ _ _ _, fun h => absurd h h1, fun h => absurd h h1⟩
  · exact ⟨0, 0, 0, 80, [], none, 0, 0, rfl, nfa_none _ _ _ _, fun h => by omega, fun _ h => by omega⟩
  · exact ⟨S, 0, 1, 0, E, A, _, c, rfl, h3, fun _ => ⟨h1, S, rfl, rfl, rfl, h2⟩, fun _ _ => rfl⟩
theorem builds (t : Tr) (A : Option Addr) (n c : Nat) (w : World) (h : TrIn w t A n) (hw : TrWf t) :
    Calls Try.prog 5 #[.agg #[.int .i64 t.kind, .int .u64 t.s0, .int .u64 t.s1, .int .u64 t.s2, .int .u64 t.s3, .int .i64 t.lo, .int .i64 t.hi, .slice A n c]] w fun e W' => BuildU t e W' ∧ Below w.heap.size w W' :=
  (build_any t A n c w h hw).mono fun _ _ h => ⟨h.1.uni, h.2⟩

def altT (a b : Tr) : Tr := .mk 3 0 0 0 0 0 0 [a, b]
def catT (a b : Tr) : Tr := .mk 2 0 0 0 0 0 0 [a, b]
def starT (a : Tr) : Tr := .mk 4 0 0 0 0 0 (-1) [a]
/-- a tree that may be joined -/
structure Jn (a : Tr) : Prop where
  right : wrongT a = 0
  k2 : a.kind ≠ 2
  k3 : a.kind ≠ 3
  low : a.height < 29
  few : a.nodes < 200
  small : a.size < 400
section
variable {a b : Tr}
theorem wrong_none {t : Tr} (hs : Shp t) (h : t.height ≤ 30) (hn : t.nodes ≤ 512) : wrongT t = 0 := by
  unfold wrongT
  rw [if_neg (by omega), if_pos (shp_yes hs)]
theorem no_any {a b : Tr} {k : Int} (ha : a.kind ≠ k) (hb : b.kind ≠ k) : ¬ AnyK (fun q => decide (q.kind = k)) [a, b] 2 := by
  rintro ⟨j, hj, h⟩
  have : j = 0 ∨ j = 1 := by omega
  rcases this with rfl | rfl
  · exact ha (by simpa using h)
  · exact hb (by simpa using h)
theorem two_height (k s0 s1 s2 s3 lo hi : Int) : (Tr.mk k s0 s1 s2 s3 lo hi [a, b]).height = max a.height b.height + 1 := by
  rw [Tr.height_eq]
  show heightL [a, b] + 1 = _
  simp [heightL]
theorem two_nodes (k s0 s1 s2 s3 lo hi : Int) : (Tr.mk k s0 s1 s2 s3 lo hi [a, b]).nodes = 1 + a.nodes + b.nodes := by
  rw [Tr.nodes_eq]
  show nodesL [a, b] = _
  simp [nodesL]
theorem two_size {k : Int} (hk : k ≠ 4) (s0 s1 s2 s3 lo hi : Int) : (Tr.mk k s0 s1 s2 s3 lo hi [a, b]).size = 2 + a.size + b.size := by
  rw [size_one (t := Tr.mk k s0 s1 s2 s3 lo hi [a, b]) hk]
  show sizeL 1 [a, b] = _
  simp [sizeL]
theorem altT_right (ha : Jn a) (hb : Jn b) : wrongT (altT a b) = 0 ∧ (altT a b).size ≤ 1000 := by
  have h1 := ha.low
  have h2 := hb.low
  have h3 := ha.few
  have h4 := hb.few
  have h5 := ha.small
  have h6 := hb.small
  refine ⟨wrong_none (.mk (.inr (.inl ⟨.inr rfl, ⟨rfl, rfl, rfl, rfl⟩, rfl, rfl, by simp [altT, Tr.kids], by simp [altT, Tr.kids], no_any ha.k3 hb.k3⟩)) (fun k hk => ?_)) ?_ ?_, ?_⟩
  · have : k = a ∨ k = b := by simpa [altT, Tr.kids] using hk
    rcases this with rfl | rfl
    · exact (wrong_shp ha.right).1
    · exact (wrong_shp hb.right).1
  · unfold altT; rw [two_height]; omega
  · unfold altT; rw [two_nodes]; omega
  · unfold altT; rw [two_size (by decide)]; omega
theorem catT_right (ha : Jn a) (hb : Jn b) : wrongT (catT a b) = 0 ∧ (catT a b).size ≤ 1000 := by
  have h1 := ha.low
  have h2 := hb.low
  have h3 := ha.few
  have h4 := hb.few
  have h5 := ha.small
  have h6 := hb.small
  refine ⟨wrong_none (.mk (.inr (.inl ⟨.inl rfl, ⟨rfl, rfl, rfl, rfl⟩, rfl, rfl, by simp [catT, Tr.kids], by simp [catT, Tr.kids], no_any ha.k2 hb.k2⟩)) (fun k hk => ?_)) ?_ ?_, ?_⟩
  · have : k = a ∨ k = b := by simpa [catT, Tr.kids] using hk
    rcases this with rfl | rfl
    · exact (wrong_shp ha.right).1
    · exact (wrong_shp hb.right).1
  · unfold catT; rw [two_height]; omega
  · unfold catT; rw [two_nodes]; omega
  · unfold catT; rw [two_size (by decide)]; omega
theorem starT_right (ha : Jn a) : wrongT (starT a) = 0 ∧ (starT a).size ≤ 1000 := by
  have h1 := ha.low
  have h3 := ha.few
  have h5 := ha.small
  refine ⟨wrong_none (.mk (.inr (.inr ⟨rfl, ⟨rfl, rfl, rfl, rfl⟩, rfl, by simp [starT, Tr.lo], by simp [starT, Tr.lo], .inl rfl⟩)) (fun k hk => ?_)) ?_ ?_, ?_⟩
  · have : k = a := by simpa [starT, Tr.kids] using hk
    subst this
    exact (wrong_shp ha.right).1
  · rw [Tr.height_eq]
    show heightL [a] + 1 ≤ 30
    simp [heightL]; omega
  · rw [Tr.nodes_eq]
    show nodesL [a] ≤ 512
    simp [nodesL]; omega
  · rw [Tr.size_eq]
    show sizeL (starT a).times [a] ≤ 1000
    have : (starT a).times = 1 := by simp [Tr.times, starT, Tr.kind, Tr.hi, Tr.lo]
    rw [this]
    simp [sizeL]; omega
theorem altT_lang (s : ByteArray) (a b : Tr) (i j : Nat) : (altT a b).lang s i j ↔ a.lang s i j ∨ b.lang s i j := by
  rw [lang_alt (t := altT a b) rfl]
  show altL ([a, b].map (Tr.lang s)) i j ↔ _
  simp [altL]
theorem catT_lang (s : ByteArray) (a b : Tr) (i j : Nat) : (catT a b).lang s i j ↔ ∃ k, a.lang s i k ∧ b.lang s k j := by
  rw [lang_cat (t := catT a b) rfl]
  show catL ([a, b].map (Tr.lang s)) i j ↔ _
  constructor
  · rintro ⟨k, ⟨k2, h1, h2⟩, h3⟩
    have h1 : k2 = i := h1
    subst h1
    exact ⟨k, h2, h3⟩
  · rintro ⟨k, h2, h3⟩
    exact ⟨k, ⟨i, rfl, h2⟩, h3⟩
theorem starT_lang (s : ByteArray) (a : Tr) (i j : Nat) : (starT a).lang s i j ↔ ∃ c, powL (a.lang s) c i j := by
  rw [lang_rep (t := starT a) rfl rfl]
  show repL (a.lang s) 0 (-1) i j ↔ _
  constructor
  · rintro ⟨c, _, _, h⟩; exact ⟨c, h⟩
  · rintro ⟨c, h⟩; exact ⟨c, by omega, .inl (by omega), h⟩
/-- a tree's kids, two of them, lie in a block -/
def twoV (a b : Tr) (A B : Option Addr) (n m c d : Nat) : List Value := reV a A n c ++ reV b B m d
theorem two_in {w : World} {a b : Tr} {A B : Option Addr} {n m c d g : Nat} (ha : TrIn w a A n) (hb : TrIn w b B m) (hg : Blk w g 28 (twoV a b A B n m c d)) (k lo hi : Int) :
    TrIn w (.mk k 0 0 0 0 lo hi [a, b]) (some ⟨g, 0, none⟩) 2 := by
  refine .mk (fun i => if i = 0 then A else B) (fun i => if i = 0 then n else m) (fun i => if i = 0 then c else d) rfl (by omega) (fun _ => ⟨g, 0, rfl, hg.lt, fun i j hi hj => ?_⟩) (fun i hi => ?_)
  · rw [hg.cell]
    have : i = 0 ∨ i = 1 := by omega
    rcases this with rfl | rfl
    · rw [show 0 + (0 * 8 + j) = j by omega]
      unfold twoV ReC
      rw [List.getElem?_append_left (by exact hj)]
      rw [List.getD_eq_getElem?_getD (l := reV _ _ _ _)]
      show (reV a A n c)[j]? = some ((reV a A n c)[j]?.getD undef)
      rw [List.getElem?_eq_getElem (show j < (reV a A n c).length from hj)]
      rfl
    · rw [show 0 + (1 * 8 + j) = 8 + j by omega]
      unfold twoV ReC
      rw [List.getElem?_append_right (by show 8 ≤ 8 + j; omega)]
      rw [show 8 + j - (reV a A n c).length = j by show 8 + j - 8 = j; omega]
      rw [List.getD_eq_getElem?_getD (l := reV _ _ _ _)]
      show (reV b B m d)[j]? = some ((reV b B m d)[j]?.getD undef)
      rw [List.getElem?_eq_getElem (show j < (reV b B m d).length from hj)]
      rfl
  · have : i = 0 ∨ i = 1 := by omega
    rcases this with rfl | rfl
    · exact ha
    · exact hb
theorem one_in {w : World} {a : Tr} {A : Option Addr} {n c g : Nat} (ha : TrIn w a A n) (hg : Blk w g 28 (reV a A n c)) (k lo hi : Int) : TrIn w (.mk k 0 0 0 0 lo hi [a]) (some ⟨g, 0, none⟩) 1 := by
  refine .mk (fun _ => A) (fun _ => n) (fun _ => c) rfl (by omega) (fun _ => ⟨g, 0, rfl, hg.lt, fun i j hi hj => ?_⟩) (fun i hi => ?_)
  · rw [hg.cell]
    obtain rfl : i = 0 := by omega
    rw [show 0 + (0 * 8 + j) = j by omega]
    unfold ReC
    rw [List.getD_eq_getElem?_getD (l := reV _ _ _ _)]
    show (reV a A n c)[j]? = some ((reV a A n c)[j]?.getD undef)
    rw [List.getElem?_eq_getElem (show j < (reV a A n c).length from hj)]
    rfl
  · obtain rfl : i = 0 := by omega
    exact ha
theorem two_wf {a b : Tr} (ha : TrWf a) (hb : TrWf b) (k lo hi : Int) : TrWf (.mk k 0 0 0 0 lo hi [a, b]) := by
  refine .mk ?_ ?_ ?_ ?_ (fun x hx => ?_)
  iterate 4 (simp only [Tr.s0, Tr.s1, Tr.s2, Tr.s3, U64w]; omega)
  have : x = a ∨ x = b := by simpa [Tr.kids] using hx
  rcases this with rfl | rfl
  · exact ha
  · exact hb
theorem one_wf {a : Tr} (ha : TrWf a) (k lo hi : Int) : TrWf (.mk k 0 0 0 0 lo hi [a]) := by
  refine .mk ?_ ?_ ?_ ?_ (fun x hx => ?_)
  iterate 4 (simp only [Tr.s0, Tr.s1, Tr.s2, Tr.s3, U64w]; omega)
  have : x = a := by simpa [Tr.kids] using hx
  subst this
  exact ha
end

/-! what is marked -/
theorem mem_endsT {s : ByteArray} {t : Tr} {p : Nat} {x : Int} (hsh : Shp t) (hp : p ≤ s.size) : x ∈ endsT s t p ↔ ∃ q : Nat, x = (q : Int) ∧ t.lang s p q := by
  unfold endsT outsTo
  simp only [List.mem_map, List.mem_filter, List.mem_range]
  constructor
  · rintro ⟨k, ⟨h1, h2⟩, rfl⟩
    exact ⟨p + k, rfl, by simpa [langB] using h2⟩
  · rintro ⟨q, rfl, h⟩
    have := lang_fwd s t hsh p q h
    exact ⟨q - p, ⟨by omega, by simp [langB, show p + (q - p) = q by omega, h]⟩, by omega⟩
theorem endsT_at {s : ByteArray} {t : Tr} {p k : Nat} (hsh : Shp t) (hp : p ≤ s.size) (hk : k < (endsT s t p).length) : ∃ q : Nat, (endsT s t p).getD k 0 = (q : Int) ∧ q < s.size + 1 ∧ t.lang s p q := by
  have h1 : (endsT s t p).getD k 0 ∈ endsT s t p := getD_mem hk
  obtain ⟨q, h2, h3⟩ := (mem_endsT hsh hp).1 h1
  have := (lang_fwd s t hsh p q h3).2 hp
  exact ⟨q, h2, by omega, h3⟩
/-- the places of so many of a list are marked, too -/
def Plus (O : Nat → Bool) (l : List Int) (O' : Nat → Bool) : Prop := ∀ j : Nat, O' j = true ↔ O j = true ∨ (j : Int) ∈ l
theorem Plus.nil (O : Nat → Bool) : Plus O [] O := fun j => by simp
theorem Plus.put {O O' : Nat → Bool} {l : List Int} {k q : Nat} (h : Plus O (l.take k) O') (hk : k < l.length) (hq : l.getD k 0 = (q : Int)) : Plus O (l.take (k + 1)) (updB O' q true) := fun j => by
  rw [take_next l k 0 hk, hq]
  unfold updB
  by_cases e : j = q
  · subst e; simp
  · rw [if_neg e, h j]
    simp only [List.mem_append, List.mem_singleton]
    constructor
    · exact fun h9 => h9.imp id .inl
    · rintro (h9 | h9 | h9)
      · exact .inl h9
      · exact .inr h9
      · exact absurd (by omega) e
/-- so far: what is reached from some that are smaller -/
def StarK (K : Lg) (k : Nat) (R : Nat → Bool) : Prop := ∀ j, R j = true ↔ j = 0 ∨ ∃ i, i < k ∧ (∃ c, powL K c 0 i) ∧ K i j
theorem star_here {s : ByteArray} {K : Lg} (hK : Fwd s K) {k : Nat} {R : Nat → Bool} (h : StarK K k R) : R k = true ↔ ∃ c, powL K c 0 k := by
  rw [h k]
  constructor
  · rintro (rfl | ⟨i, _, ⟨c, h1⟩, h2⟩)
    · exact ⟨0, rfl⟩
    · exact ⟨c + 1, i, h1, h2⟩
  · rintro ⟨c, hc⟩
    induction c with
    | zero => exact .inl hc
    | succ c ih =>
      obtain ⟨i, h1, h2⟩ := hc
      have := (hK i k h2).1
      by_cases e : i = k
      · subst e; exact ih h1
      · exact .inr ⟨i, by omega, ⟨c, h1⟩, h2⟩
theorem star_skip {s : ByteArray} {K : Lg} (hK : Fwd s K) {k : Nat} {R : Nat → Bool} (h : StarK K k R) (hk : R k = false) : StarK K (k + 1) R := fun j => by
  rw [h j]
  constructor
  · rintro (h1 | ⟨i, h1, h2⟩)
    · exact .inl h1
    · exact .inr ⟨i, by omega, h2⟩
  · rintro (h1 | ⟨i, h1, h2, h3⟩)
    · exact .inl h1
    · by_cases e : i = k
      · subst e
        have := (star_here hK h).2 h2
        rw [hk] at this; cases this
      · exact .inr ⟨i, by omega, h2, h3⟩
theorem star_put {s : ByteArray} {t : Tr} (hsh : Shp t) {k : Nat} {R R' : Nat → Bool} (hks : k ≤ s.size) (h : StarK (t.lang s) k R) (hk : R k = true) (hp : Plus R (endsT s t k) R') : StarK (t.lang s) (k + 1) R' := fun j => by
  rw [hp j, h j, mem_endsT hsh hks]
  constructor
  · rintro ((h1 | ⟨i, h1, h2⟩) | ⟨q, h1, h2⟩)
    · exact .inl h1
    · exact .inr ⟨i, by omega, h2⟩
    · obtain rfl : j = q := by omega
      exact .inr ⟨k, by omega, (star_here (lang_fwd s t hsh) h).1 hk, h2⟩
  · rintro (h1 | ⟨i, h1, h2, h3⟩)
    · exact .inl (.inl h1)
    · by_cases e : i = k
      · subst e; exact .inr ⟨j, rfl, h3⟩
      · exact .inl (.inr ⟨i, by omega, h2, h3⟩)
theorem star_all {s : ByteArray} {K : Lg} (hK : Fwd s K) {R : Nat → Bool} (h : StarK K (s.size + 1) R) (j : Nat) : R j = true ↔ ∃ c, powL K c 0 j := by
  rw [h j]
  constructor
  · rintro (rfl | ⟨i, _, ⟨c, h1⟩, h2⟩)
    · exact ⟨0, rfl⟩
    · exact ⟨c + 1, i, h1, h2⟩
  · rintro ⟨c, hc⟩
    match c, hc with
    | 0, hc => exact .inl hc
    | c + 1, ⟨i, h1, h2⟩ =>
      have := (hK.pow c 0 i h1).2 (by omega)
      exact .inr ⟨i, by omega, ⟨c, h1⟩, h2⟩
theorem star_begin (K : Lg) : StarK K 0 (updB (fun _ => false) 0 true) := fun j => by
  unfold updB
  by_cases e : j = 0
  · rw [if_pos e]; simp [e]
  · rw [if_neg e]; simp [e]
end Go.Proofs.Ytpeoomdfopjlmaa
