/- Parts of automata: what takes an expression between two states. Plain. -/
import Derived.Test.YtfjhcoeehjephaaNfaMc
namespace Go.Proofs.Ytfjhcoeehjephaa
open Go.RowKit

abbrev Lg := Nat → Nat → Prop
/-- the paths over some edges -/
inductive Pth (N : List Ed) (s : ByteArray) (i : Nat) (f : Int) : Nat → Int → Prop
  | refl : Pth N s i f i f
  | free {p : Nat} {e : Ed} : Pth N s i f p e.src → e ∈ N → e.free = true → Pth N s i f p e.dst
  | read {p : Nat} {e : Ed} : Pth N s i f p e.src → e ∈ N → p < s.size → Rd e s p → Pth N s i f (p + 1) e.dst
section
variable {N N' N1 N2 : List Ed} {s : ByteArray} {i p k : Nat} {f q n o : Int}
theorem Pth.trans (h : Pth N s i f p q) {j : Nat} {r : Int} (h2 : Pth N s p q j r) : Pth N s i f j r := by
  induction h2 with
  | refl => exact h
  | free _ h9 h8 ih => exact .free ih h9 h8
  | read _ h9 h8 h7 ih => exact .read ih h9 h8 h7
theorem Pth.mono (h : Pth N s i f p q) (hs : ∀ e, e ∈ N → e ∈ N') : Pth N' s i f p q := by
  induction h with
  | refl => exact .refl
  | free _ h9 h8 ih => exact .free ih (hs _ h9) h8
  | read _ h9 h8 h7 ih => exact .read ih (hs _ h9) h8 h7
theorem Pth.at_ (h : Pth N s i f p q) : (q = f ∧ p = i) ∨ ∃ e ∈ N, e.dst = q := by
  cases h with
  | refl => exact .inl ⟨rfl, rfl⟩
  | free _ h9 _ => exact .inr ⟨_, h9, rfl⟩
  | read _ h9 _ _ => exact .inr ⟨_, h9, rfl⟩
/-- a step over an edge -/
def Stp (e : Ed) (s : ByteArray) (p p' : Nat) : Prop := (e.free = true ∧ p' = p) ∨ (p < s.size ∧ Rd e s p ∧ p' = p + 1)
theorem Pth.step (h : Pth N s i f p q) {e : Ed} (he : e ∈ N) (hq : e.src = q) {p' : Nat} (hs : Stp e s p p') : Pth N s i f p' e.dst := by
  subst hq
  rcases hs with ⟨h1, rfl⟩ | ⟨h1, h2, rfl⟩
  · exact .free h he h1
  · exact .read h he h1 h2
/-- what holds at the start and is kept by each step holds of all that is reached -/
theorem Pth.inv (h : Pth N s i f p q) (I : Nat → Int → Prop) (h0 : I i f) (hst : ∀ e ∈ N, ∀ p p', I p e.src → Stp e s p p' → I p' e.dst) : I p q := by
  induction h with
  | refl => exact h0
  | free _ h9 h8 ih => exact hst _ h9 _ _ ih (.inl ⟨h8, rfl⟩)
  | read _ h9 h8 h7 ih => exact hst _ h9 _ _ ih (.inr ⟨h8, h7, rfl⟩)
end
/-- own states lie in [lo, hi) -/
def Own (lo hi : Nat) (q : Int) : Prop := (lo : Int) ≤ q ∧ q < (hi : Int)
structure Frag (s : ByteArray) (L : Lg) (f o : Int) (lo hi : Nat) (N : List Ed) : Prop where
  src : ∀ e ∈ N, (e.src = f ∨ Own lo hi e.src) ∧ e.src ≠ o
  dst : ∀ e ∈ N, (e.dst = o ∨ Own lo hi e.dst) ∧ e.dst ≠ f
  lang : ∀ i j, Pth N s i f j o ↔ L i j
section
variable {s : ByteArray} {L L1 L2 : Lg} {f o n : Int} {lo mid hi lo' hi' : Nat} {N N1 N2 : List Ed}
theorem Frag.at_ (h : Frag s L f o lo hi N) {i p : Nat} {q : Int} (hp : Pth N s i f p q) : (q = f ∧ p = i) ∨ ((q = o ∨ Own lo hi q) ∧ q ≠ f) := by
  rcases hp.at_ with h9 | ⟨e, he, rfl⟩
  · exact .inl h9
  · exact .inr (h.dst e he)
theorem Frag.widen (h : Frag s L f o lo hi N) (h1 : lo' ≤ lo) (h2 : hi ≤ hi') : Frag s L f o lo' hi' N :=
  ⟨fun e he => ⟨(h.src e he).1.imp id (fun x => ⟨by have := x.1; omega, by have := x.2; omega⟩), (h.src e he).2⟩,
   fun e he => ⟨(h.dst e he).1.imp id (fun x => ⟨by have := x.1; omega, by have := x.2; omega⟩), (h.dst e he).2⟩, h.lang⟩
theorem Frag.lg (h : Frag s L f o lo hi N) (hL : ∀ i j, L i j ↔ L1 i j) : Frag s L1 f o lo hi N := ⟨h.src, h.dst, fun i j => (h.lang i j).trans (hL i j)⟩
theorem Frag.nil (s : ByteArray) (f : Int) (lo hi : Nat) : Frag s (fun i j => j = i) f f lo hi [] :=
  ⟨fun e he => absurd he (by simp), fun e he => absurd he (by simp), fun i j => ⟨fun h => by
    rcases h.at_ with h9 | ⟨e, he, _⟩
    · exact h9.2
    · exact absurd he (by simp), fun h => by have h : j = i := h; subst h; exact .refl⟩⟩
theorem Frag.none (s : ByteArray) {f o : Int} (hfo : f ≠ o) (lo hi : Nat) : Frag s (fun _ _ => False) f o lo hi [] :=
  ⟨fun e he => absurd he (by simp), fun e he => absurd he (by simp), fun i j => ⟨fun h => by
    rcases h.at_ with h9 | ⟨e, he, _⟩
    · exact hfo h9.1.symm
    · exact absurd he (by simp), fun h => h.elim⟩⟩
/-- one edge -/
theorem Frag.edge (s : ByteArray) (e : Ed) (hfo : e.src ≠ e.dst) (lo hi : Nat) : Frag s (fun i j => Stp e s i j) e.src e.dst lo hi [e] := by
  refine ⟨fun x hx => ?_, fun x hx => ?_, fun i j => ⟨fun h => ?_, fun h => (Pth.refl).step (by simp) rfl h⟩⟩
  · obtain rfl : x = e := by simpa using hx
    exact ⟨.inl rfl, hfo⟩
  · obtain rfl : x = e := by simpa using hx
    exact ⟨.inl rfl, Ne.symm hfo⟩
  · have := h.inv (fun p q => (q = e.src ∧ p = i) ∨ (q = e.dst ∧ Stp e s i p)) (.inl ⟨rfl, rfl⟩) (fun x hx p p' hI hs => by
      obtain rfl : x = e := by simpa using hx
      rcases hI with ⟨_, rfl⟩ | ⟨h1, _⟩
      · exact .inr ⟨rfl, hs⟩
      · exact absurd h1 hfo)
    rcases this with ⟨h1, _⟩ | ⟨_, h1⟩
    · exact absurd h1.symm hfo
    · exact h1
/-- the one or the other -/
theorem Frag.alt (h1 : Frag s L1 f o lo mid N1) (h2 : Frag s L2 f o mid hi N2) (hlm : lo ≤ mid) (hmh : mid ≤ hi) :
    Frag s (fun i j => L1 i j ∨ L2 i j) f o lo hi (N1 ++ N2) := by
  have w1 := h1.widen (Nat.le_refl _) hmh
  have w2 := h2.widen hlm (Nat.le_refl _)
  refine ⟨fun e he => ?_, fun e he => ?_, fun i j => ⟨fun h => ?_, fun h => ?_⟩⟩
  · rcases List.mem_append.1 he with he | he
    · exact w1.src e he
    · exact w2.src e he
  · rcases List.mem_append.1 he with he | he
    · exact w1.dst e he
    · exact w2.dst e he
  · have := h.inv (fun p q => Pth N1 s i f p q ∨ Pth N2 s i f p q) (.inl .refl) (fun e he p p' hI hs => by
      rcases List.mem_append.1 he with he | he
      · have hsrc := h1.src e he
        rcases hI with hI | hI
        · exact .inl (hI.step he rfl hs)
        · rcases h2.at_ hI with ⟨h8, h9⟩ | ⟨h8, h9⟩
          · exact .inl ((show Pth N1 s i f p e.src by rw [h8, h9]; exact .refl).step he rfl hs)
          · unfold Own at hsrc h8
            omega
      · have hsrc := h2.src e he
        rcases hI with hI | hI
        · rcases h1.at_ hI with ⟨h8, h9⟩ | ⟨h8, h9⟩
          · exact .inr ((show Pth N2 s i f p e.src by rw [h8, h9]; exact .refl).step he rfl hs)
          · unfold Own at hsrc h8
            omega
        · exact .inr (hI.step he rfl hs))
    exact this.imp (fun h => (h1.lang i j).1 h) (fun h => (h2.lang i j).1 h)
  · rcases h with h | h
    · exact ((h1.lang i j).2 h).mono (fun e he => List.mem_append.2 (.inl he))
    · exact ((h2.lang i j).2 h).mono (fun e he => List.mem_append.2 (.inr he))
def seqL (L1 L2 : Lg) : Lg := fun i j => ∃ k, L1 i k ∧ L2 k j
/-- the one, then the other -/
theorem Frag.seq (h1 : Frag s L1 f n lo mid N1) (h2 : Frag s L2 n o mid hi N2) (hlm : lo ≤ mid) (hmh : mid ≤ hi) (hn : n = f ∨ Own lo mid n) (hf : ¬ Own lo hi f) (hof : o ≠ f) (ho : ¬ Own lo mid o) :
    Frag s (seqL L1 L2) f o lo hi (N1 ++ N2) := by
  have hno : n ≠ o := by
    rcases hn with rfl | hn
    · exact fun h => hof h.symm
    · exact fun h => ho (h ▸ hn)
  refine ⟨fun e he => ?_, fun e he => ?_, fun i j => ⟨fun h => ?_, fun ⟨k, hk1, hk2⟩ => ?_⟩⟩
  · rcases List.mem_append.1 he with he | he
    · have := h1.src e he
      unfold Own at this ho hf ⊢
      omega
    · have := h2.src e he
      unfold Own at this ho hf hn ⊢
      omega
  · rcases List.mem_append.1 he with he | he
    · have := h1.dst e he
      unfold Own at this ho hf hn ⊢
      omega
    · have := h2.dst e he
      unfold Own at this ho hf hn ⊢
      omega
  · have := h.inv (fun p q => Pth N1 s i f p q ∨ ∃ k, L1 i k ∧ Pth N2 s k n p q) (.inl .refl) (fun e he p p' hI hs => by
      rcases List.mem_append.1 he with he | he
      · have hsrc := h1.src e he
        rcases hI with hI | ⟨k, hk, hI⟩
        · exact .inl (hI.step he rfl hs)
        · exfalso
          rcases h2.at_ hI with ⟨h8, h9⟩ | ⟨h8, h9⟩
          · exact hsrc.2 h8
          · unfold Own at hsrc h8 hf ho hn
            omega
      · have hsrc := h2.src e he
        rcases hI with hI | ⟨k, hk, hI⟩
        · have hx : e.src = n := by
            rcases h1.at_ hI with ⟨h8, h9⟩ | ⟨h8, h9⟩
            · unfold Own at hsrc hf
              omega
            · unfold Own at hsrc h8
              omega
          rw [hx] at hI
          exact .inr ⟨p, (h1.lang i p).1 hI, (show Pth N2 s p n p e.src by rw [hx]; exact .refl).step he rfl hs⟩
        · exact .inr ⟨k, hk, hI.step he rfl hs⟩)
    rcases this with h9 | ⟨k, hk, h9⟩
    · exfalso
      rcases h1.at_ h9 with ⟨h8, _⟩ | ⟨h8, _⟩
      · exact hof h8
      · unfold Own at h8 ho
        omega
    · exact ⟨k, hk, (h2.lang k j).1 h9⟩
  · exact (((h1.lang i k).2 hk1).mono (fun e he => List.mem_append.2 (.inl he))).trans (((h2.lang k j).2 hk2).mono (fun e he => List.mem_append.2 (.inr he)))
def powL (K : Lg) : Nat → Lg
  | 0 => fun i j => j = i
  | c + 1 => seqL (powL K c) K
/-- so many times -/
def repL (K : Lg) (lo hi : Int) : Lg := fun i j => ∃ c : Nat, lo ≤ (c : Int) ∧ (hi < 0 ∨ (c : Int) ≤ hi) ∧ powL K c i j
def freeE (a b : Int) : Ed := ⟨a, b, true, 0, 0, 0, 0⟩
theorem stp_free {a b : Int} {p p' : Nat} : Stp (freeE a b) s p p' ↔ p' = p := by
  unfold Stp freeE Rd
  constructor
  · rintro (⟨_, h⟩ | ⟨_, h, _⟩)
    · exact h
    · cases h.1
  · exact fun h => .inl ⟨rfl, h⟩
theorem Frag.free (s : ByteArray) {f o : Int} (hfo : f ≠ o) (lo hi : Nat) : Frag s (fun i j => j = i) f o lo hi [freeE f o] :=
  (Frag.edge s (freeE f o) hfo lo hi).lg (fun _ _ => stp_free)
/-- round and round: at least so many (0 or 1) -/
theorem Frag.loop {K : Lg} {l a : Int} {z : Bool} (h : Frag s K l a mid hi N) (hl : l = (lo : Int)) (ha : a = (lo : Int) + 1) (hm : mid = lo + 2) (hmh : mid ≤ hi) (hf : ¬ Own lo hi f) (ho : ¬ Own lo hi o) (hfo : f ≠ o) :
    Frag s (fun i j => ∃ c : Nat, (if z = true then 0 else 1) ≤ c ∧ powL K c i j) f o lo hi (freeE f l :: (N ++ (freeE a l :: freeE a o :: (if z = true then [freeE l o] else [])))) := by
  subst hl ha hm
  obtain ⟨W, hW⟩ : ∃ W, W = (freeE f (lo : Int) :: (N ++ (freeE ((lo : Int) + 1) (lo : Int) :: freeE ((lo : Int) + 1) o :: (if z = true then [freeE (lo : Int) o] else [])))) := ⟨_, rfl⟩
  rw [← hW]
  have hmem : ∀ e, e ∈ W ↔ e = freeE f lo ∨ e ∈ N ∨ e = freeE ((lo : Int) + 1) lo ∨ e = freeE ((lo : Int) + 1) o ∨ (z = true ∧ e = freeE lo o) := fun e => by
    rw [hW]
    cases z <;> simp
  have hN : ∀ e, e ∈ N → e ∈ W := fun e he => (hmem e).2 (.inr (.inl he))
  clear hW
  have hfl : f ≠ (lo : Int) := fun h => hf (by unfold Own; omega)
  have hol : o ≠ (lo : Int) := fun h => ho (by unfold Own; omega)
  have hfa : f ≠ (lo : Int) + 1 := fun h => hf (by unfold Own; omega)
  have hoa : o ≠ (lo : Int) + 1 := fun h => ho (by unfold Own; omega)
  have hnd : ∀ e ∈ N, e.src ≠ f ∧ e.src ≠ o ∧ e.src ≠ (lo : Int) + 1 ∧ e.dst ≠ f ∧ e.dst ≠ o ∧ e.dst ≠ (lo : Int) ∧ Own lo hi e.src ∧ Own lo hi e.dst := fun e he => by
    have h1 := h.src e he
    have h2 := h.dst e he
    unfold Own at h1 h2 hf ho ⊢
    omega
  refine ⟨fun e he => ?_, fun e he => ?_, fun i j => ⟨fun h9 => ?_, fun h9 => ?_⟩⟩
  · rcases (hmem e).1 he with rfl | h1 | rfl | rfl | ⟨_, rfl⟩
    · exact ⟨.inl rfl, hfo⟩
    · exact ⟨.inr (hnd e h1).2.2.2.2.2.2.1, (hnd e h1).2.1⟩
    · exact ⟨.inr ⟨by simp [freeE] <;> omega, by simp [freeE] <;> omega⟩, Ne.symm hoa⟩
    · exact ⟨.inr ⟨by simp [freeE] <;> omega, by simp [freeE] <;> omega⟩, Ne.symm hoa⟩
    · exact ⟨.inr ⟨by simp [freeE], by simp [freeE] <;> omega⟩, Ne.symm hol⟩
  · rcases (hmem e).1 he with rfl | h1 | rfl | rfl | ⟨_, rfl⟩
    · exact ⟨.inr ⟨by simp [freeE], by simp [freeE] <;> omega⟩, Ne.symm hfl⟩
    · exact ⟨.inr (hnd e h1).2.2.2.2.2.2.2, (hnd e h1).2.2.2.1⟩
    · exact ⟨.inr ⟨by simp [freeE], by simp [freeE] <;> omega⟩, Ne.symm hfl⟩
    · exact ⟨.inl rfl, Ne.symm hfo⟩
    · exact ⟨.inl rfl, Ne.symm hfo⟩
  · have := h9.inv (fun p q => (q = f ∧ p = i) ∨ (∃ c k, powL K c i k ∧ Pth N s k (lo : Int) p q) ∨ (q = o ∧ ∃ c : Nat, (if z = true then 0 else 1) ≤ c ∧ powL K c i p)) (.inl ⟨rfl, rfl⟩) (fun e he p p' hI hs => by
      rcases (hmem e).1 he with rfl | h1 | rfl | rfl | ⟨hz, rfl⟩
      · obtain rfl := stp_free.1 hs
        rcases hI with ⟨_, rfl⟩ | ⟨c, k, hk, hI⟩ | ⟨h8, _⟩
        · exact .inr (.inl ⟨0, _, rfl, .refl⟩)
        · exfalso
          rcases h.at_ hI with ⟨h8, _⟩ | ⟨h8, _⟩
          · exact hfl h8
          · simp only [freeE] at h8
            unfold Own at h8 hf
            omega
        · exact absurd h8 hfo
      · rcases hI with ⟨h8, _⟩ | ⟨c, k, hk, hI⟩ | ⟨h8, _⟩
        · exact absurd h8 (hnd e h1).1
        · exact .inr (.inl ⟨c, k, hk, hI.step h1 rfl hs⟩)
        · exact absurd h8 (hnd e h1).2.1
      · obtain rfl := stp_free.1 hs
        rcases hI with ⟨h8, _⟩ | ⟨c, k, hk, hI⟩ | ⟨h8, _⟩
        · exact absurd h8.symm hfa
        · exact .inr (.inl ⟨c + 1, _, ⟨k, hk, (h.lang _ _).1 hI⟩, .refl⟩)
        · exact absurd h8.symm hoa
      · obtain rfl := stp_free.1 hs
        rcases hI with ⟨h8, _⟩ | ⟨c, k, hk, hI⟩ | ⟨h8, _⟩
        · exact absurd h8.symm hfa
        · exact .inr (.inr ⟨rfl, c + 1, by split <;> omega, ⟨k, hk, (h.lang _ _).1 hI⟩⟩)
        · exact absurd h8.symm hoa
      · obtain rfl := stp_free.1 hs
        rcases hI with ⟨h8, _⟩ | ⟨c, k, hk, hI⟩ | ⟨h8, _⟩
        · exact absurd h8.symm hfl
        · rcases h.at_ hI with ⟨_, h8⟩ | ⟨_, h8⟩
          · exact .inr (.inr ⟨rfl, c, by rw [if_pos hz]; omega, by rw [h8]; exact hk⟩)
          · exact absurd rfl h8
        · exact absurd h8.symm hol)
    rcases this with ⟨h8, _⟩ | ⟨c, k, hk, h8⟩ | ⟨_, h8⟩
    · exact absurd h8.symm hfo
    · exfalso
      rcases h.at_ h8 with ⟨h7, _⟩ | ⟨h7, _⟩
      · exact hol h7
      · unfold Own at h7 ho
        omega
    · exact h8
  · obtain ⟨c, hc, hp⟩ := h9
    have key : ∀ c j, powL K c i j → Pth W s i f j (lo : Int) ∧ (c ≠ 0 → Pth W s i f j ((lo : Int) + 1)) := fun c => by
      induction c with
      | zero =>
        intro j hj
        have hj : j = i := hj
        subst hj
        exact ⟨(Pth.refl).step (e := freeE f lo) ((hmem _).2 (.inl rfl)) rfl (stp_free.2 rfl), fun h => absurd rfl h⟩
      | succ c ih =>
        intro j ⟨k, hk, hj⟩
        have h1 : Pth W s i f j ((lo : Int) + 1) := (ih k hk).1.trans (((h.lang k j).2 hj).mono hN)
        exact ⟨h1.step (e := freeE ((lo : Int) + 1) lo) ((hmem _).2 (.inr (.inr (.inl rfl)))) rfl (stp_free.2 rfl), fun _ => h1⟩
    by_cases hc0 : c = 0
    · subst hc0
      have hz : z = true := by
        cases z
        · simp at hc
        · rfl
      exact (key 0 j hp).1.step (e := freeE lo o) ((hmem _).2 (.inr (.inr (.inr (.inr ⟨hz, rfl⟩))))) rfl (stp_free.2 rfl)
    · exact ((key c j hp).2 hc0).step (e := freeE ((lo : Int) + 1) o) ((hmem _).2 (.inr (.inr (.inr (.inl rfl))))) rfl (stp_free.2 rfl)
/-- a way that is still open at cur, and may be left to o -/
structure Frag2 (s : ByteArray) (Lc Lo : Lg) (f cur o : Int) (lo hi : Nat) (N : List Ed) : Prop where
  src : ∀ e ∈ N, (e.src = f ∨ Own lo hi e.src) ∧ e.src ≠ cur ∧ e.src ≠ o
  dst : ∀ e ∈ N, (e.dst = o ∨ Own lo hi e.dst) ∧ e.dst ≠ f
  at_ : cur = f ∨ Own lo hi cur
  langc : ∀ i j, Pth N s i f j cur ↔ Lc i j
  lango : ∀ i j, Pth N s i f j o ↔ Lo i j
theorem Frag2.of {cur : Int} (h : Frag s L f cur lo hi N) (hc : cur = f ∨ Own lo hi cur) (ho : ¬ Own lo hi o) (hof : o ≠ f) : Frag2 s L (fun _ _ => False) f cur o lo hi N := by
  refine ⟨fun e he => ?_, fun e he => ?_, hc, h.lang, fun i j => ⟨fun h9 => ?_, fun h9 => h9.elim⟩⟩
  · have := h.src e he
    refine ⟨this.1, this.2, fun h9 => ?_⟩
    rcases this.1 with h8 | h8
    · exact hof (h9.symm.trans h8)
    · exact ho (h9 ▸ h8)
  · have := h.dst e he
    refine ⟨.inr ?_, this.2⟩
    rcases this.1 with h8 | h8
    · rcases hc with h7 | h7
      · exact absurd (h8.trans h7) this.2
      · rw [h8]; exact h7
    · exact h8
  · rcases h.at_ h9 with ⟨h8, _⟩ | ⟨h8 | h8, h7⟩
    · exact hof h8
    · rcases hc with h6 | h6
      · exact h7 (h8.trans h6)
      · exact ho (h8 ▸ h6)
    · exact ho h8
theorem Frag2.reach {Lc Lo : Lg} {cur : Int} (h : Frag2 s Lc Lo f cur o lo hi N) {i p : Nat} {q : Int} (hp : Pth N s i f p q) : (q = f ∧ p = i) ∨ ((q = o ∨ Own lo hi q) ∧ q ≠ f) := by
  rcases hp.at_ with h9 | ⟨e, he, rfl⟩
  · exact .inl h9
  · exact .inr (h.dst e he)
theorem Frag2.close {Lc Lo : Lg} {cur : Int} (h : Frag2 s Lc Lo f cur o lo hi N) (ho : ¬ Own lo hi o) (hof : o ≠ f) : Frag s (fun i j => Lo i j ∨ Lc i j) f o lo hi (N ++ [freeE cur o]) := by
  have hco : cur ≠ o := by
    rcases h.at_ with h9 | h9
    · exact fun h8 => hof (h8.symm.trans h9)
    · exact fun h8 => ho (h8 ▸ h9)
  refine ⟨fun e he => ?_, fun e he => ?_, fun i j => ⟨fun h9 => ?_, fun h9 => ?_⟩⟩
  · rcases List.mem_append.1 he with he | he
    · exact ⟨(h.src e he).1, (h.src e he).2.2⟩
    · obtain rfl : e = freeE cur o := by simpa using he
      exact ⟨h.at_, hco⟩
  · rcases List.mem_append.1 he with he | he
    · exact h.dst e he
    · obtain rfl : e = freeE cur o := by simpa using he
      exact ⟨.inl rfl, hof⟩
  · have := h9.inv (fun p q => Pth N s i f p q ∨ (q = o ∧ Lc i p)) (.inl .refl) (fun e he p p' hI hs => by
      rcases List.mem_append.1 he with he | he
      · rcases hI with hI | ⟨h8, _⟩
        · exact .inl (hI.step he rfl hs)
        · exact absurd h8 (h.src e he).2.2
      · obtain rfl : e = freeE cur o := by simpa using he
        obtain rfl := stp_free.1 hs
        rcases hI with hI | ⟨h8, _⟩
        · exact .inr ⟨rfl, (h.langc _ _).1 hI⟩
        · exact absurd h8 hco)
    exact this.imp (fun h8 => (h.lango i j).1 h8) (fun h8 => h8.2)
  · rcases h9 with h9 | h9
    · exact ((h.lango i j).2 h9).mono (fun e he => List.mem_append.2 (.inl he))
    · exact (((h.langc i j).2 h9).mono (fun e he => List.mem_append.2 (.inl he))).step (e := freeE cur o) (by simp) rfl (stp_free.2 rfl)
theorem Frag2.more {Lc Lo K : Lg} {cur nx b : Int} {NK : List Ed} (h : Frag2 s Lc Lo f cur o lo mid N) (hn : nx = (mid : Int)) (hb : b = (mid : Int) + 1) (hk : Frag s K b nx (mid + 2) hi NK) (hlm : lo ≤ mid) (hmh : mid + 2 ≤ hi)
    (hf : ¬ Own lo hi f) (ho : ¬ Own lo hi o) (hof : o ≠ f) : Frag2 s (seqL Lc K) (fun i j => Lo i j ∨ Lc i j) f nx o lo hi (N ++ (freeE cur o :: freeE cur b :: NK)) := by
  subst hn hb
  have hcl : cur ≠ o := by
    rcases h.at_ with h9 | h9
    · exact fun h8 => hof (h8.symm.trans h9)
    · exact fun h8 => ho (by rw [← h8]; exact ⟨h9.1, by have := h9.2; omega⟩)
  have hcc : cur = f ∨ Own lo mid cur := h.at_
  have hl : ∀ e, e ∈ N → e ∈ N ++ (freeE cur o :: freeE cur ((mid : Int) + 1) :: NK) := fun e he => List.mem_append.2 (.inl he)
  have hr : ∀ e, e ∈ NK → e ∈ N ++ (freeE cur o :: freeE cur ((mid : Int) + 1) :: NK) := fun e he => by simp [he]
  have hsplit : ∀ e, e ∈ N ++ (freeE cur o :: freeE cur ((mid : Int) + 1) :: NK) → e ∈ N ∨ e = freeE cur o ∨ e = freeE cur ((mid : Int) + 1) ∨ e ∈ NK := fun e he => by simpa using he
  have hsrc : ∀ e ∈ N ++ (freeE cur o :: freeE cur ((mid : Int) + 1) :: NK), (e.src = f ∨ Own lo hi e.src) ∧ e.src ≠ (mid : Int) ∧ e.src ≠ o := fun e he => by
    rcases hsplit e he with he | rfl | rfl | he
    · have := h.src e he
      unfold Own at this hf ho ⊢
      omega
    · simp only [freeE]
      unfold Own at hcc hf ho ⊢
      omega
    · simp only [freeE]
      unfold Own at hcc hf ho ⊢
      omega
    · have := hk.src e he
      unfold Own at this hf ho ⊢
      omega
  have hdst : ∀ e ∈ N ++ (freeE cur o :: freeE cur ((mid : Int) + 1) :: NK), (e.dst = o ∨ Own lo hi e.dst) ∧ e.dst ≠ f := fun e he => by
    rcases hsplit e he with he | rfl | rfl | he
    · have := h.dst e he
      unfold Own at this hf ho ⊢
      omega
    · exact ⟨.inl rfl, hof⟩
    · simp only [freeE]
      unfold Own at hcc hf ho ⊢
      omega
    · have := hk.dst e he
      unfold Own at this hf ho ⊢
      omega
  have hinv : ∀ i p q, Pth (N ++ (freeE cur o :: freeE cur ((mid : Int) + 1) :: NK)) s i f p q → Pth N s i f p q ∨ (∃ k, Lc i k ∧ Pth NK s k ((mid : Int) + 1) p q) ∨ (q = o ∧ Lc i p) := fun i p q h9 => by
    refine h9.inv (fun p q => Pth N s i f p q ∨ (∃ k, Lc i k ∧ Pth NK s k ((mid : Int) + 1) p q) ∨ (q = o ∧ Lc i p)) (.inl .refl) (fun e he p p' hI hs => ?_)
    rcases hsplit e he with he | rfl | rfl | he
    · have h1 := h.src e he
      rcases hI with hI | ⟨k, _, hI⟩ | ⟨h8, _⟩
      · exact .inl (hI.step he rfl hs)
      · exfalso
        have h2 := hk.at_ hI
        unfold Own at h1 h2 hf ho
        omega
      · exact absurd h8 h1.2.2
    · obtain rfl := stp_free.1 hs
      rcases hI with hI | ⟨k, _, hI⟩ | ⟨h8, _⟩
      · exact .inr (.inr ⟨rfl, (h.langc _ _).1 hI⟩)
      · exfalso
        have h2 := hk.at_ hI
        simp only [freeE] at h2
        unfold Own at h2 hf ho hcc
        omega
      · exact absurd h8 hcl
    · obtain rfl := stp_free.1 hs
      rcases hI with hI | ⟨k, _, hI⟩ | ⟨h8, _⟩
      · exact .inr (.inl ⟨_, (h.langc _ _).1 hI, .refl⟩)
      · exfalso
        have h2 := hk.at_ hI
        simp only [freeE] at h2
        unfold Own at h2 hf ho hcc
        omega
      · exact absurd h8 hcl
    · have h1 := hk.src e he
      rcases hI with hI | ⟨k, hk', hI⟩ | ⟨h8, _⟩
      · exfalso
        have h2 := h.reach hI
        unfold Own at h1 h2 hf ho
        omega
      · exact .inr (.inl ⟨k, hk', hI.step he rfl hs⟩)
      · exfalso
        unfold Own at h1 hf ho
        omega
  refine ⟨hsrc, hdst, .inr ⟨by omega, by omega⟩, fun i j => ⟨fun h9 => ?_, fun ⟨k, h1, h2⟩ => ?_⟩, fun i j => ⟨fun h9 => ?_, fun h9 => ?_⟩⟩
  · rcases hinv _ _ _ h9 with h8 | ⟨k, hk', h8⟩ | ⟨h8, _⟩
    · exfalso
      have h2 := h.reach h8
      unfold Own at h2 hf ho
      omega
    · exact ⟨k, hk', (hk.lang k j).1 h8⟩
    · exfalso
      unfold Own at ho
      omega
  · exact ((((h.langc i k).2 h1).mono hl).step (e := freeE cur ((mid : Int) + 1)) (by simp) rfl (stp_free.2 rfl)).trans (((hk.lang k j).2 h2).mono hr)
  · rcases hinv _ _ _ h9 with h8 | ⟨k, hk', h8⟩ | ⟨_, h8⟩
    · exact .inl ((h.lango i j).1 h8)
    · exfalso
      have h2 := hk.at_ h8
      unfold Own at h2 ho
      omega
    · exact .inr h8
  · rcases h9 with h9 | h9
    · exact ((h.lango i j).2 h9).mono hl
    · exact (((h.langc i j).2 h9).mono hl).step (e := freeE cur o) (by simp) rfl (stp_free.2 rfl)
end
end Go.Proofs.Ytfjhcoeehjephaa
