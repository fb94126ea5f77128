/- What a machine made of two does; when it is made. Plain. -/
import Derived.Test.YthjnkpoalbddkaaThSizeY
import Derived.Test.YthjnkpoalbddkaaRRunLY
namespace Go.Proofs.Ythjnkpoalbddkaa
theorem foldl_stepF (m : Mach) (s : Bs) : ∀ (o : Bs) (st : Nat), s.foldl (stepF m) (o, st) = (o ++ (afterS m st s).1, (afterS m st s).2) := by
  induction s with
  | nil => intro o st; simp [afterS]
  | cons c s ih =>
    intro o st
    have h2 := ih (outT m st c) (nextS m st c)
    have e : afterS m st (c :: s) = (outT m st c ++ (afterS m (nextS m st c) s).1, (afterS m (nextS m st c) s).2) := by
      unfold afterS
      rw [List.foldl_cons, show stepF m ([], st) c = (outT m st c, nextS m st c) by simp [stepF]]
      exact h2
    rw [List.foldl_cons, show stepF m (o, st) c = (o ++ outT m st c, nextS m st c) from rfl, ih, e]
    simp
theorem after_app (m : Mach) (x t : Bs) : after m (x ++ t) = ((after m x).1 ++ (afterS m (after m x).2 t).1, (afterS m (after m x).2 t).2) := by
  unfold after
  rw [List.foldl_append]
  exact foldl_stepF m t _ _
theorem behG_no {m : Mach} {st : Nat} {s : Bs} (h : lgB m st s = false) : behG m st s = afterS m st s := by unfold behG; rw [if_neg (by rw [h]; simp)]
section
variable {a b : Mach} {m : Mk (Int × Int)}
theorem then_run (h : RunI (stepT a b) (finT a b) (0, 0) (PairOk a b) (lgT b a) (lgE b a) m m.all.length 0 false) (s : Bs) :
    runS (stepT a b) (0, 0) s = ((after b (after a s).1).1, (((after a s).2 : Nat) : Int), (((after b (after a s).1).2 : Nat) : Int)) := by
  have key : ∀ (n : Nat) (s : Bs), s.length = n → runS (stepT a b) (0, 0) s = ((after b (after a s).1).1, (((after a s).2 : Nat) : Int), (((after b (after a s).1).2 : Nat) : Int)) := by
    intro n
    induction n with
    | zero =>
      intro s hs
      obtain rfl := List.length_eq_zero_iff.1 hs
      rfl
    | succ n ih =>
      intro s hs
      obtain ⟨t, c, rfl⟩ : ∃ t c, s = t ++ [c] := ⟨s.dropLast, s.getLast (by intro e; subst e; simp at hs), (List.dropLast_concat_getLast _).symm⟩
      have h1 := ih t (by simpa using hs)
      have h2 := (h.ok.after t).2
      have hi := (List.getElem?_eq_some_iff.1 h2).1
      have h3 := (h.done rfl _ _ hi h2).1 c
      rw [runS_snoc, h1]
      rw [h1] at h3
      have h4 : behG b (after b (after a t).1).2 (outT a (after a t).2 c) = afterS b (after b (after a t).1).2 (outT a (after a t).2 c) := behG_no (by simpa [lgT] using h3)
      have h5 : stepT a b ((((after a t).2 : Nat) : Int), (((after b (after a t).1).2 : Nat) : Int)) c = ((afterS b (after b (after a t).1).2 (outT a (after a t).2 c)).1, (((nextS a (after a t).2 c : Nat) : Int), (((afterS b (after b (after a t).1).2 (outT a (after a t).2 c)).2 : Nat) : Int))) := by
        unfold stepT
        simp only [Int.toNat_natCast]
        rw [h4]
      rw [h5, after_snoc, after_app]
  exact key _ s rfl
theorem then_after (h : RunI (stepT a b) (finT a b) (0, 0) (PairOk a b) (lgT b a) (lgE b a) m m.all.length 0 false) (s : Bs) : (after m.mach s).1 = (after b (after a s).1).1 := by
  rw [(h.ok.after s).1, then_run h]
theorem then_total (h : RunI (stepT a b) (finT a b) (0, 0) (PairOk a b) (lgT b a) (lgE b a) m m.all.length 0 false) (s : Bs) : total m.mach s = total b (total a s) := by
  have h2 := (h.ok.after s).2
  have hi := (List.getElem?_eq_some_iff.1 h2).1
  have h3 := (h.done rfl _ _ hi h2).2
  rw [h.ok.total, then_run h]
  rw [then_run h] at h3
  unfold finT
  simp only [Int.toNat_natCast]
  rw [behG_no (by simpa [lgE] using h3)]
  show _ = (after b ((after a s).1 ++ (endText a (after a s).2).data.toList)).1 ++ (endText b (after b ((after a s).1 ++ (endText a (after a s).2).data.toList)).2).data.toList
  rw [after_app]
  simp
/-- what is put grows with the text -/
theorem after_take (m : Mach) (s : Bs) (k : Nat) : (after m (s.take k)).1.length ≤ (after m s).1.length := by
  have h := after_app m (s.take k) (s.drop k)
  rw [List.take_append_drop] at h
  rw [h]
  simp
theorem total_ge (m : Mach) (s : Bs) : (after m s).1.length ≤ (total m s).length := by unfold total; simp
/-- two machines' text is short: the one machine's, too -/
theorem then_short (h : RunI (stepT a b) (finT a b) (0, 0) (PairOk a b) (lgT b a) (lgE b a) m m.all.length 0 false) (s : Bs) (hn : ¬ TooLongL 262144 b (total a s)) : runRes m.mach s = some (total b (total a s)) := by
  have e : ∀ s, (total m.mach s).length = (total b (total a s)).length := fun s => by rw [then_total h]
  have h1 : (total b (total a s)).length ≤ 262144 := Nat.le_of_not_lt (fun h9 => hn (.inr h9))
  rw [runRes_ok, then_total h]
  rintro (⟨k, _, hl⟩ | hl)
  · have h2 := after_take m.mach s k
    have h3 := total_ge m.mach s
    have := e s
    omega
  · have := e s
    omega
end
/-! Tiny machines. -/
structure Tiny (m : Mach) : Prop where
  few : m.next.length ≤ 10
  short : ∀ j, j < m.texts.length → (m.texts.getD j ⟨#[]⟩).size ≤ 8
theorem out_tiny {m : Mach} (ht : Tiny m) (h : RightM m) {i : Nat} (hi : i < m.next.length) (c : UInt8) : (outT m i c).length ≤ 9 := by
  have h1 : (textOf m (putN m i c / 2)).size ≤ 8 := ht.short _ (state_facts h hi c).2.1
  unfold outT
  rw [List.length_append, size_data]
  split <;> simp <;> omega
theorem end_tiny {m : Mach} (ht : Tiny m) (h : RightM m) {i : Nat} (hi : i < m.next.length) : (endText m i).size ≤ 8 := by
  have hst := h.states i hi
  have h1 := hst.endlo
  have h2 := hst.endhi
  exact ht.short _ (by omega)
theorem afterS_tiny {m : Mach} (ht : Tiny m) (h : RightM m) : ∀ (s : Bs) (st : Nat), st < m.next.length → (afterS m st s).1.length ≤ 9 * s.length := fun s => by
  induction s with
  | nil => intro st _; simp [afterS]
  | cons c s ih =>
    intro st hst
    have h1 := ih (nextS m st c) (state_facts h hst c).2.2.2.1
    have h2 := out_tiny ht h hst c
    have e : afterS m st (c :: s) = (outT m st c ++ (afterS m (nextS m st c) s).1, (afterS m (nextS m st c) s).2) := by
      conv => lhs; unfold afterS
      rw [List.foldl_cons, show stepF m ([], st) c = (outT m st c, nextS m st c) by simp [stepF]]
      exact foldl_stepF m s _ _
    rw [e]
    simp only [List.length_append, List.length_cons]
    omega
theorem lgB_tiny {m : Mach} (ht : Tiny m) (h : RightM m) {st : Nat} (hst : st < m.next.length) {s : Bs} (hs : s.length ≤ 9) : lgB m st s = false := by
  refine lgB_no (fun ⟨k, hk, hl⟩ => ?_)
  have h1 := afterS_tiny ht h (s.take k) st hst
  have h2 : (s.take k).length ≤ 9 := by rw [List.length_take]; omega
  omega
theorem tiny_noLong {a b : Mach} (ha : RightM a) (hb : RightM b) (ta : Tiny a) (tb : Tiny b) : NoLong a b := fun s hs =>
  ⟨fun c => lgB_tiny tb hb hs.h2 (out_tiny ta ha hs.h1 c), lgB_tiny tb hb hs.h2 (by rw [size_data]; have := end_tiny ta ha hs.h1; omega)⟩
theorem tiny_len {a b : Mach} (ha : RightM a) (hb : RightM b) (ta : Tiny a) (tb : Tiny b) (s : Int × Int) (hs : PairOk a b s) : (∀ c, (stepT a b s c).1.length ≤ 4096) ∧ (finT a b s).length ≤ 4096 := by
  have hn := tiny_noLong ha hb ta tb s hs
  constructor
  · intro c
    have h1 := out_tiny ta ha hs.h1 c
    have h2 := afterS_tiny tb hb (outT a s.1.toNat c) s.2.toNat hs.h2
    have h3 := hn.1 c
    unfold stepT
    show (behG b s.2.toNat (outT a s.1.toNat c)).1.length ≤ _
    rw [behG_no h3]
    omega
  · have h1 := end_tiny ta ha hs.h1
    have h2 := afterS_tiny tb hb (endText a s.1.toNat).data.toList s.2.toNat hs.h2
    have h3 := hn.2
    unfold finT
    rw [behG_no h3, List.length_append, size_data]
    rw [size_data] at h2
    have h4 := end_tiny tb hb (afterS_lt hb hs.h2 (endText a s.1.toNat).data.toList)
    omega
theorem pigeonB (n : Nat) : ∀ (l : List Nat), l.Nodup → (∀ i ∈ l, i < n) → l.length ≤ n := by
  induction n with
  | zero =>
    intro l _ hr
    cases l with
    | nil => simp
    | cons x l => exact absurd (hr x (by simp)) (by omega)
  | succ n ih =>
    intro l hn hr
    have h1 := ih (l.erase n) (hn.erase n) (fun i hi => by
      have h2 := hr i (List.mem_of_mem_erase hi)
      have h3 : i ≠ n := fun e => by rw [e] at hi; exact hn.not_mem_erase hi
      omega)
    have h2 : l.length ≤ (l.erase n).length + 1 := by
      by_cases hm : n ∈ l
      · rw [List.length_erase_of_mem hm]; omega
      · rw [List.erase_of_not_mem hm]; omega
    omega
theorem tiny_few {a b : Mach} {m : Mk (Int × Int)} {k c : Nat} {fl : Bool} (h : RunI (stepT a b) (finT a b) (0, 0) (PairOk a b) (lgT b a) (lgE b a) m k c fl) (ta : a.next.length ≤ 10) (tb : b.next.length ≤ 10) (h1 : a.next.length = 1 ∨ b.next.length = 1) : m.all.length ≤ 10 := by
  have h2 := pigeonB 10 (m.all.map fun s => s.1.toNat + s.2.toNat) ?_ ?_
  · simpa using h2
  · refine List.pairwise_map.2 (h.ok.nd.imp_of_mem ?_)
    intro x y hx hy hne e
    refine hne ?_
    have px := h.mem x hx
    have py := h.mem y hy
    have := px.l1; have := px.h1; have := px.l2; have := px.h2
    have := py.l1; have := py.h1; have := py.l2; have := py.h2
    exact Prod.ext (by omega) (by omega)
  · intro i hi
    obtain ⟨x, hx, rfl⟩ := List.mem_map.1 hi
    have px := h.mem x hx
    have := px.l1; have := px.h1; have := px.l2; have := px.h2
    omega
theorem tiny_made {a b : Mach} {m : Mk (Int × Int)} {k c : Nat} {fl : Bool} (h : RunI (stepT a b) (finT a b) (0, 0) (PairOk a b) (lgT b a) (lgE b a) m k c fl) (hk : k < m.all.length ∧ c ≤ 256 ∨ c = 0) (ha : RightM a) (hb : RightM b) (ta : Tiny a) (tb : Tiny b) (h1 : a.next.length = 1 ∨ b.next.length = 1) : m.bad = false :=
  h.fits hk (by have := tiny_few h ta.few tb.few h1; omega) (fun s hs => tiny_len ha hb ta tb s hs)
end Go.Proofs.Ythjnkpoalbddkaa
