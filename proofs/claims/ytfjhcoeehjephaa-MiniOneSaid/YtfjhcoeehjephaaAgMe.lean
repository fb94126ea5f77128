/- What is built takes what the automaton with choices takes. Plain. -/
import Derived.Test.YtfjhcoeehjephaaBuTMe
import Derived.Test.YtfjhcoeehjephaaDfaMe
namespace Go.Proofs.Ytfjhcoeehjephaa
open D8
section
variable {E : List Ed} {S : Nat} {a z : Int} {many : Nat} {ls : Nat → Nat} {all : List (List Nat)} {D : Dfa}
theorem alike_of (hc : ClsOk D.cls many (setsOf E)) {b c : Nat} (hb : b < 256) (hc9 : c < 256) (h : D.cls b = D.cls c) : Alike E b c := fun e he hf => by
  have hm : quadOf e ∈ setsOf E := by
    unfold setsOf
    exact List.mem_map.2 ⟨e, List.mem_filter.2 ⟨he, by simp [hf]⟩, rfl⟩
  exact hc.alike b c hb hc9 h _ hm
theorem moveL_alike {X : List Nat} {b c : Nat} (h : Alike E b c) : moveL E X b = [] ↔ moveL E X c = [] := by
  have key : ∀ {b c : Nat}, Alike E b c → moveL E X b = [] → moveL E X c = [] := fun {b c} h h1 => by
    rw [List.eq_nil_iff_forall_not_mem] at h1 ⊢
    intro d hd
    obtain ⟨e, h2, h3, h4, h5, h6⟩ := mem_moveL.1 hd
    exact h1 d (mem_moveL.2 ⟨e, h2, h3, by rw [h e h2 h3]; exact h4, h5, h6⟩)
  exact ⟨key h, key (fun e he hf => (h e he hf).symm)⟩
/-- where a byte leads, by the set that a state is -/
theorem built_next (hc : ClsOk D.cls many (setsOf E)) (hl : LeastOk D.cls ls 0) (h : Mid E S a z many ls all.length all D.next D.acc) {st : Nat} (hs : st < all.length) {b : Nat} (hb : b < 256) :
    (moveL E (all.getD st []) b = [] ∧ (D.next.getD st []).getD (D.cls b) 0 = -1) ∨
    (moveL E (all.getD st []) b ≠ [] ∧ stepN E S (all.getD st []) b ∈ all ∧ (D.next.getD st []).getD (D.cls b) 0 = (plc all (stepN E S (all.getD st []) b) : Nat)) := by
  have hal := alike_of hc (hl.1 (D.cls b)) hb (hl.2 b (by omega) hb)
  rcases (h.row st hs).2.2 (D.cls b) (hc.lt b hb) with ⟨h1, h2⟩ | ⟨h1, h2, h3⟩
  · exact .inl ⟨(moveL_alike hal).1 h1, h2⟩
  · rw [stepN_alike hal] at h2 h3
    exact .inr ⟨fun h9 => h1 ((moveL_alike hal).2 h9), h2, h3⟩
theorem plc_getD {l : List (List Nat)} {x : List Nat} (h : x ∈ l) : l.getD (plc l x) [] = x := by
  rw [List.getD_eq_getElem?_getD, plc_get h]; rfl
theorem built_right (hc : ClsOk D.cls many (setsOf E)) (h : Mid E S a z many ls all.length all D.next D.acc) : RightD D := by
  have hm : D.many = many := (h.row 0 h.pos).1
  have h256 := hc.hi
  have hpos := hc.many_pos
  refine ⟨by rw [h.nlen]; exact h.pos, by rw [h.nlen]; exact h.few, by rw [h.nlen, h.alen], by omega, by omega, fun ⟨b, hb, h9⟩ => by have := hc.lt b hb; omega, fun ⟨i, hi, h9⟩ => ?_⟩
  rw [h.nlen] at hi
  rcases h9 with h9 | ⟨j, hj, h9⟩
  · exact h9 (by rw [hm]; exact (h.row i hi).1)
  · rw [(h.row i hi).1] at hj
    rw [h.nlen] at h9
    rcases (h.row i hi).2.2 j hj with ⟨_, h2⟩ | ⟨_, h2, h3⟩
    · rw [h2] at h9; omega
    · have := plc_lt h2
      rw [h3] at h9; omega
/-- the places, from a place on -/
theorem filt_succ (f : Nat → Bool) (p n : Nat) : ((List.range (n + 1)).filter f).map (fun k => ((p + k : Nat) : Int)) = (if f 0 = true then [(p : Int)] else []) ++ ((List.range n).filter (fun k => f (k + 1))).map (fun k => ((p + 1 + k : Nat) : Int)) := by
  rw [List.range_succ_eq_map, List.filter_cons, List.filter_map]
  have h1 : (List.map Nat.succ ((List.range n).filter (f ∘ Nat.succ))).map (fun k => ((p + k : Nat) : Int)) = ((List.range n).filter (fun k => f (k + 1))).map (fun k => ((p + 1 + k : Nat) : Int)) := by
    rw [List.map_map]
    refine List.map_congr_left (fun k _ => ?_)
    simp only [Function.comp_def]
    congr 1
    omega
  by_cases h : f 0 = true
  · rw [if_pos h, if_pos h, List.map_cons, h1]; rfl
  · rw [if_neg h, if_neg h, h1]; rfl
theorem filt_none (f : Nat → Bool) (g : Nat → Int) (n : Nat) (h : ∀ k, f k = false) : ((List.range n).filter f).map g = [] := by
  rw [List.filter_eq_nil_iff.2 (fun k _ => by rw [h k]; simp)]; rfl
theorem drop_cons (s : ByteArray) {p : Nat} (hp : p < s.size) : ∃ c : UInt8, s.data.toList.drop p = c :: s.data.toList.drop (p + 1) ∧ c.toNat = byteAt s p := by
  have hl : p < s.data.toList.length := by rw [size_data]; exact hp
  refine ⟨s.data.toList[p], List.drop_eq_getElem_cons hl, ?_⟩
  unfold byteAt
  rw [List.getD_eq_getElem?_getD, List.getElem?_eq_getElem hl]
  rfl
open Classical in
theorem built_ends (hE : OkE E S) (hz : 0 ≤ z) (hc : ClsOk D.cls many (setsOf E)) (hl : LeastOk D.cls ls 0) (h : Mid E S a z many ls all.length all D.next D.acc) (s : ByteArray) (p0 : Nat) :
    ∀ (n p st : Nat), n = s.size - p → p0 ≤ p → p ≤ s.size → st < all.length → Stands E S a s p0 p (all.getD st []) →
      endsF D (s.data.toList.drop p) st p = ((List.range (n + 1)).filter (fun k => decide (On E S a s p0 (p + k) z))).map (fun k => ((p + k : Nat) : Int)) := by
  intro n
  induction n with
  | zero =>
    intro p st hn hlo hp hst hX
    have hps : p = s.size := by omega
    rw [List.drop_of_length_le (by rw [size_data]; omega)]
    unfold endsF here
    rw [(h.row st hst).2.1, filt_succ]
    have h1 : z.toNat ∈ all.getD st [] ↔ On E S a s p0 p z := by rw [hX, show ((z.toNat : Nat) : Int) = z by omega]
    simp only [Nat.add_zero, decide_eq_true_eq, h1, List.range_zero, List.filter_nil, List.map_nil, List.append_nil]
  | succ n ih =>
    intro p st hn hlo hp hst hX
    have hps : p < s.size := by omega
    obtain ⟨c, hc1, hc2⟩ := drop_cons s hps
    rw [hc1, filt_succ]
    have h1 : z.toNat ∈ all.getD st [] ↔ On E S a s p0 p z := by rw [hX, show ((z.toNat : Nat) : Int) = z by omega]
    unfold endsF here
    rw [(h.row st hst).2.1]
    simp only [Nat.add_zero, decide_eq_true_eq, h1]
    congr 1
    have hb : byteAt s p < 256 := byteAt_lt s p
    have hnx : nextD D st c = (D.next.getD st []).getD (D.cls (byteAt s p)) 0 := by unfold nextD; rw [hc2]
    rcases built_next hc hl h hst hb with ⟨h2, h3⟩ | ⟨h2, h3, h4⟩
    · rw [hnx, h3, if_pos (by omega)]
      refine (filt_none _ _ _ (fun k => ?_)).symm
      rw [decide_eq_false_iff_not]
      intro h9
      have := Stands.dead hE hlo hX (fun _ => h2) h9
      omega
    · rw [hnx, h4, if_neg (by omega)]
      have hs2 : ((plc all (stepN E S (all.getD st []) (byteAt s p)) : Nat) : Int).toNat = plc all (stepN E S (all.getD st []) (byteAt s p)) := by omega
      rw [hs2, ih (p + 1) _ (by omega) (by omega) (by omega) (plc_lt h3) (by rw [plc_getD h3]; exact hX.next hE hlo hps)]
      have : ∀ k, (p + 1 + k) = p + (k + 1) := fun k => by omega
      simp only [this]
theorem built_endsN (hE : OkE E S) (ha : 0 ≤ a ∧ a < (S : Int)) (hz : 0 ≤ z) (hc : ClsOk D.cls many (setsOf E)) (hl : LeastOk D.cls ls 0) (h : Mid E S a z many ls all.length all D.next D.acc) (s : ByteArray) (p0 : Nat) (hp : p0 ≤ s.size) :
    endsF D (s.data.toList.drop p0) 0 p0 = endsN E S a z s p0 := by
  rw [built_ends hE hz hc hl h s p0 (s.size - p0) p0 0 rfl (Nat.le_refl _) hp h.pos (by rw [h.first]; exact Stands.start hE ha s p0)]
  unfold endsN outsTo onB
  rw [show s.size + 1 - p0 = s.size - p0 + 1 by omega]
end
end Go.Proofs.Ytfjhcoeehjephaa
