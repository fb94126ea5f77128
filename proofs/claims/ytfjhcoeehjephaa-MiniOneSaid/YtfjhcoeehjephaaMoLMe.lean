/- Expressions that take the same have the same least. Plain. -/
import Derived.Test.YtfjhcoeehjephaaMMiLst1Me
import Derived.Test.YtfjhcoeehjephaaMadeLMe
import Derived.Test.YtfjhcoeehjephaaAgMe
namespace Go.Proofs.Ytfjhcoeehjephaa
open D8

def bytN (t : Bs) : List Nat := t.map (·.toNat)
theorem run_ends (D : Dfa) : ∀ (t : Bs) (st a : Nat), M9.run (M9.autOf D) st (bytN t) = true ↔ ((a + t.length : Nat) : Int) ∈ endsF D t st a
  | [], st, a => by
    unfold endsF here
    show D.acc.getD st false = true ↔ _
    by_cases h : D.acc.getD st false = true
    · rw [if_pos h]
      exact ⟨fun _ => by simp, fun _ => h⟩
    · rw [if_neg h]
      exact ⟨fun h9 => absurd h9 h, fun h9 => by cases h9⟩
  | c :: t, st, a => by
    have ih := run_ends D t (nextD D st c).toNat (a + 1)
    have hnh : ((a + (c :: t).length : Nat) : Int) ∉ here D st a := fun h => by
      unfold here at h
      split at h
      · have h9 : ((a + (c :: t).length : Nat) : Int) = (a : Int) := by simpa using h
        simp only [List.length_cons] at h9
        omega
      · cases h
    unfold endsF
    rw [List.mem_append]
    show (if 0 ≤ nextD D st c then M9.run (M9.autOf D) (nextD D st c).toNat (bytN t) else false) = true ↔ _
    by_cases h0 : nextD D st c < 0
    · rw [if_neg (by omega), if_pos h0]
      constructor
      · intro h; cases h
      · rintro (h | h)
        · exact absurd h hnh
        · cases h
    · rw [if_pos (by omega), if_neg h0, ih]
      have e : ((a + (c :: t).length : Nat) : Int) = ((a + 1 + t.length : Nat) : Int) := by simp only [List.length_cons]; omega
      rw [e]
      constructor
      · exact .inr
      · rintro (h | h)
        · rw [← e] at h; exact absurd h hnh
        · exact h
def txt (w : List Nat) : ByteArray := ⟨(w.map UInt8.ofNat).toArray⟩
theorem txt_list (w : List Nat) : (txt w).data.toList = w.map UInt8.ofNat := by simp [txt]
theorem txt_size (w : List Nat) : (txt w).size = w.length := by
  rw [← size_data, txt_list, List.length_map]
theorem bytN_txt {w : List Nat} (hw : M9.Byt w) : bytN (w.map UInt8.ofNat) = w := by
  unfold bytN
  rw [List.map_map]
  conv => rhs; rw [← List.map_id w]
  refine List.map_congr_left (fun b hb => ?_)
  have := hw b hb
  show (UInt8.ofNat b).toNat = b
  rw [UInt8.toNat_ofNat']; omega
theorem mem_outs {f : Nat → Bool} {p m : Nat} {x : Nat} : ((p + x : Nat) : Int) ∈ outsTo f p m ↔ x < m ∧ f x = true := by
  unfold outsTo
  rw [List.mem_map]
  constructor
  · rintro ⟨k, h1, h2⟩
    rw [List.mem_filter, List.mem_range] at h1
    have : k = x := by omega
    subst this
    exact h1
  · rintro ⟨h1, h2⟩
    exact ⟨x, List.mem_filter.2 ⟨List.mem_range.2 h1, h2⟩, rfl⟩
/-- an automaton takes what a tree takes -/
def Takes (D : Dfa) (t : Tr) : Prop := ∀ w, M9.Byt w → (M9.run (M9.autOf D) 0 w = true ↔ t.lang (txt w) 0 w.length)
theorem built_takes {E : List Ed} {S : Nat} {many : Nat} {ls : Nat → Nat} {all : List (List Nat)} {D : Dfa} {t : Tr} (hm : Made t S E) (hc : ClsOk D.cls many (setsOf E)) (hl : LeastOk D.cls ls 0) (h : Mid E S 0 1 many ls all.length all D.next D.acc) : Takes D t := fun w hw => by
  have h1 := built_endsN (okE_of hm.right) ⟨hm.right.alo, hm.right.ahi⟩ hm.right.zlo hc hl h (txt w) 0 (Nat.zero_le _)
  rw [List.drop_zero, hm.ends (txt w) 0, txt_list] at h1
  have h2 := run_ends D (w.map UInt8.ofNat) 0 0
  rw [bytN_txt hw, h1, List.length_map] at h2
  rw [h2]
  unfold endsT
  rw [mem_outs, txt_size]
  unfold langB
  simp
theorem takes_le {D D' : Dfa} {t t' : Tr} (h : Takes D t) (h' : Takes D' t') (he : ∀ s i j, t.lang s i j ↔ t'.lang s i j) : M9.LE (M9.autOf D) (M9.autOf D') 0 0 := fun w hw => by
  apply Bool.eq_iff_iff.2
  rw [h w hw, h' w hw]
  exact he _ _ _
namespace M9
/-- automata that take the same have the same least -/
theorem least_same {D D' M M' : Dfa} (hD : RightD D) (hD' : RightD D') (hl : LE (autOf D) (autOf D') 0 0) (h : LeastOf D M) (h' : LeastOf D' M') : M = M' := by
  rcases h with ⟨hn, rfl⟩ | ⟨hv, s, he, rfl⟩
  · rcases h' with ⟨_, rfl⟩ | ⟨hv', _⟩
    · rfl
    · exact (hn (hl.live.2 hv')).elim
  · rcases h' with ⟨hn', _⟩ | ⟨hv', t, he', rfl⟩
    · exact (hn' (hl.live.1 hv)).elim
    · have tw := he.twin he' hD.aut hD'.aut hv hl
      unfold narD
      rw [← tw.wide]
      congr 1
      apply List.ext_getElem (by rw [List.length_map, List.length_map, tw.len])
      intro i h1 h2
      rw [List.length_map] at h1 h2
      have h3 := (tw.le i h1).acc
      simp only [List.getElem_map]
      have h3 : D.acc.getD (s.met.getD i 0) false = D'.acc.getD (t.met.getD i 0) false := h3
      rw [List.getD_eq_getElem?_getD (l := s.met), List.getElem?_eq_getElem h1, List.getD_eq_getElem?_getD (l := t.met), List.getElem?_eq_getElem h2] at h3
      exact h3
end M9
/-! the six expressions -/
def nodT (k lo hi : Int) (kids : List Tr) : Tr := .mk k 0 0 0 0 lo hi kids
theorem nod_alt (s : ByteArray) (lo hi : Int) (kids : List Tr) (i j : Nat) : (nodT 3 lo hi kids).lang s i j ↔ ∃ k ∈ kids, k.lang s i j := by
  rw [lang_alt (t := nodT 3 lo hi kids) rfl]
  show altL (kids.map (Tr.lang s)) i j ↔ _
  constructor
  · rintro ⟨L, h1, h2⟩
    obtain ⟨k, hk, rfl⟩ := List.mem_map.1 h1
    exact ⟨k, hk, h2⟩
  · rintro ⟨k, hk, h⟩
    exact ⟨_, List.mem_map_of_mem hk, h⟩
theorem nod_rep (s : ByteArray) (lo : Int) (a : Tr) (i j : Nat) : (nodT 4 lo (-1) [a]).lang s i j ↔ ∃ c : Nat, lo ≤ (c : Int) ∧ powL (a.lang s) c i j := by
  rw [lang_rep (t := nodT 4 lo (-1) [a]) rfl rfl]
  show repL (a.lang s) lo (-1) i j ↔ _
  constructor
  · rintro ⟨c, h1, _, h⟩; exact ⟨c, h1, h⟩
  · rintro ⟨c, h1, h⟩; exact ⟨c, h1, .inl (by omega), h⟩
theorem alt_twice (a b : Tr) (s : ByteArray) (i j : Nat) : (nodT 3 0 0 [a, b]).lang s i j ↔ (nodT 3 0 0 [b, a, b]).lang s i j := by
  rw [nod_alt, nod_alt]
  constructor
  · rintro ⟨k, hk, h⟩
    exact ⟨k, by simp at hk ⊢; rcases hk with rfl | rfl <;> simp, h⟩
  · rintro ⟨k, hk, h⟩
    exact ⟨k, by simp at hk ⊢; rcases hk with rfl | rfl | rfl <;> simp, h⟩
theorem star_star (a : Tr) (s : ByteArray) (i j : Nat) : (nodT 4 0 (-1) [a]).lang s i j ↔ (nodT 4 0 (-1) [nodT 4 0 (-1) [a]]).lang s i j := by
  have key : ∀ d i j, powL ((nodT 4 0 (-1) [a]).lang s) d i j → ∃ c, powL (a.lang s) c i j := fun d => by
    induction d with
    | zero => intro i j h; exact ⟨0, h⟩
    | succ d ih =>
      rintro i j ⟨k, h1, h2⟩
      obtain ⟨c, hc⟩ := ih i k h1
      obtain ⟨c2, _, hc2⟩ := (nod_rep s 0 a k j).1 h2
      exact ⟨c + c2, (powL_add _ c c2 i j).2 ⟨k, hc, hc2⟩⟩
  rw [nod_rep s 0 (nodT 4 0 (-1) [a])]
  constructor
  · intro h
    exact ⟨1, by omega, i, rfl, h⟩
  · rintro ⟨d, _, h⟩
    obtain ⟨c, hc⟩ := key d i j h
    exact (nod_rep s 0 a i j).2 ⟨c, by omega, hc⟩
theorem one_two (a : Tr) (s : ByteArray) (i j : Nat) : (nodT 4 1 (-1) [a]).lang s i j ↔ (nodT 3 0 0 [nodT 4 2 (-1) [a], a]).lang s i j := by
  rw [nod_rep, nod_alt]
  constructor
  · rintro ⟨c, h1, h2⟩
    by_cases hc : c = 1
    · subst hc
      refine ⟨a, by simp, ?_⟩
      obtain ⟨k, h3, h4⟩ := h2
      have h3 : k = i := h3
      subst h3
      exact h4
    · exact ⟨nodT 4 2 (-1) [a], by simp, (nod_rep s 2 a i j).2 ⟨c, by omega, h2⟩⟩
  · rintro ⟨k, hk, h⟩
    have hk : k = nodT 4 2 (-1) [a] ∨ k = a := by simpa using hk
    rcases hk with rfl | rfl
    · obtain ⟨c, h1, h2⟩ := (nod_rep s 2 a i j).1 h
      exact ⟨c, by omega, h2⟩
    · exact ⟨1, by omega, i, rfl, h⟩
end Go.Proofs.Ytfjhcoeehjephaa
