/- Cfg, Wr of this seat, in one text. -/
import Derived.Test.YtfjgfabochiflaaNodesTc
import Derived.Test.YtfjgfabochiflaaTTellsTc
import Derived.Test.YtfjgfabochiflaaHEngTc
import Derived.Test.YtfjgfabochiflaaTRightTc
/- Configurations: what one is, which may be, where one lies in memory. -/
namespace Go.Proofs.Ytfjgfabochiflaa
open Go.RowKit

structure Cfg where
  passes : List (List T12.SR)
  split : Tr
  merges : List (Int × Int)
  names : List ByteArray
  before : List Int
  after : List Int
structure CfgAd where
  P : Option Addr
  np : Nat
  cp : Nat
  T : Option Addr
  nt : Nat
  ct : Nat
  M : Option Addr
  nm : Nat
  cm : Nat
  N : Option Addr
  nn : Nat
  cn : Nat
  B : Option Addr
  nb : Nat
  cb : Nat
  A : Option Addr
  na : Nat
  ca : Nat
  PA : Nat → Option Addr
  pc : Nat → Nat

def PassC (c : Cfg) (a : CfgAd) : Nat → Nat → Value := fun k _ => .slice (a.PA k) (c.passes.getD k []).length (a.pc k)
structure CfgIn (w : World) (c : Cfg) (a : CfgAd) : Prop where
  plen : c.passes.length = a.np
  ple : a.np ≤ 140737488355328
  parr : Arr w w.heap.size 1 a.P a.np (PassC c a)
  prow : ∀ k, k < a.np → Arr w w.heap.size 2 (a.PA k) (c.passes.getD k []).length (T12.RuleC (c.passes.getD k []))
  prl : ∀ k, k < a.np → (c.passes.getD k []).length ≤ 140737488355328
  psz : ∀ k, k < a.np → ∀ j, j < (c.passes.getD k []).length → ((c.passes.getD k []).getD j T12.noRule).1.size ≤ maxLen ∧ ((c.passes.getD k []).getD j T12.noRule).2.size ≤ maxLen
  tree : TrIn w c.split a.T a.nt
  wf : TrWf c.split
  mlen : c.merges.length = a.nm
  mle : a.nm ≤ 140737488355328
  marr : Arr w w.heap.size 2 a.M a.nm (H14.PairC c.merges)
  nlen : c.names.length = a.nn
  nle : a.nn ≤ 140737488355328
  ncap : a.nn ≤ a.cn
  narr : Arr w w.heap.size 1 a.N a.nn (T12.StrC c.names)
  blen : c.before.length = a.nb
  ble : a.nb ≤ 140737488355328
  barr : Arr w w.heap.size 1 a.B a.nb (T12.NumC .i64 c.before)
  alen : c.after.length = a.na
  ale : a.na ≤ 140737488355328
  aarr : Arr w w.heap.size 1 a.A a.na (T12.NumC .i64 c.after)
theorem CfgIn.keep {w w' : World} {c : Cfg} {a : CfgAd} (h : CfgIn w c a) (hb : Below w.heap.size w w') : CfgIn w' c a :=
  ⟨h.plen, h.ple, (h.parr.below hb).more hb.size, fun k hk => ((h.prow k hk).below hb).more hb.size, h.prl, h.psz, h.tree.keep hb, h.wf, h.mlen, h.mle, (h.marr.below hb).more hb.size,
   h.nlen, h.nle, h.ncap, (h.narr.below hb).more hb.size, h.blen, h.ble, (h.barr.below hb).more hb.size, h.alen, h.ale, (h.aarr.below hb).more hb.size⟩

/-- the first pass that may not be -/
noncomputable def passE : List (List T12.SR) → Int
  | [] => 0
  | l :: r => if T12.rightE l = 0 then passE r else T12.rightE l
theorem passE_bad : ∀ (ps : List (List T12.SR)) (k : Nat), k < ps.length → (∀ j, j < k → T12.rightE (ps.getD j []) = 0) → T12.rightE (ps.getD k []) ≠ 0 → passE ps = T12.rightE (ps.getD k [])
  | [], k, hk, _, _ => absurd hk (by simp)
  | l :: r, 0, _, _, h => by simp at h; simp [passE, h]
  | l :: r, k + 1, hk, h0, h => by
    have e := h0 0 (by omega)
    simp at e
    simp [passE, e]
    simp at h
    have := passE_bad r k (by simpa using hk) (fun j hj => by have := h0 (j + 1) (by omega); simpa using this) (by simpa using h)
    simpa using this
theorem passE_ok : ∀ (ps : List (List T12.SR)), (∀ j, j < ps.length → T12.rightE (ps.getD j []) = 0) → passE ps = 0
  | [], _ => rfl
  | l :: r, h => by
    have e := h 0 (by simp)
    simp at e
    simp [passE, e]
    exact passE_ok r (fun j hj => by have := h (j + 1) (by simpa using hj); simpa using this)
/-- how much so many passes make a text grow -/
def growP (ps : List (List T12.SR)) : Nat → Nat
  | 0 => 1
  | k + 1 => growP ps k * T12.growN (ps.getD k []) (ps.getD k []).length
theorem growP_le (ps : List (List T12.SR)) : ∀ k, (∀ j, j < k → T12.rightE (ps.getD j []) = 0) → growP ps k ≤ 32 ^ k
  | 0, _ => by simp [growP]
  | k + 1, h => by
    have h1 := growP_le ps k (fun j hj => h j (by omega))
    have h2 := T12.growN_le (T12.allOk_of (h k (by omega))) _ (Nat.le_refl _)
    rw [growP, Nat.pow_succ]
    exact Nat.mul_le_mul h1 h2
theorem growP_four (ps : List (List T12.SR)) (k : Nat) (hk : k ≤ 4) (h : ∀ j, j < k → T12.rightE (ps.getD j []) = 0) : growP ps k ≤ 1048576 := by
  have h1 := growP_le ps k h
  have h2 : 32 ^ k ≤ 32 ^ 4 := Nat.pow_le_pow_right (by omega) hk
  omega
theorem growP_pos (ps : List (List T12.SR)) : ∀ k, 1 ≤ growP ps k
  | 0 => by simp [growP]
  | k + 1 => by
    rw [growP]
    exact Nat.mul_le_mul (growP_pos ps k) (T12.growN_pos _ _)

structure NameOk (ns : List ByteArray) (i : Nat) : Prop where
  lo : 1 ≤ (ns.getD i ⟨#[]⟩).size
  hi : (ns.getD i ⟨#[]⟩).size ≤ 32
  new : ∀ j, j < i → ns.getD j ⟨#[]⟩ ≠ ns.getD i ⟨#[]⟩
structure FrameOk (l : List Int) (n : Nat) : Prop where
  few : l.length ≤ 32
  all : ¬ T12.AnyOut l (n : Int) l.length
structure RestOk (c : Cfg) : Prop where
  few : c.names.length ≤ 64
  names : ∀ i, i < c.names.length → NameOk c.names i
  before : FrameOk c.before c.names.length
  after : FrameOk c.after c.names.length
open Classical in
/-- what stands in a configuration's way -/
noncomputable def cfgE (c : Cfg) : Int :=
  if 4 < c.passes.length then 172
  else if passE c.passes ≠ 0 then passE c.passes
  else if 32 < growP c.passes c.passes.length then 172
  else if wrongT c.split ≠ 0 then wrongT c.split
  else if 1000 < c.split.size then 172
  else if (H14.texts c.merges).2 ≠ 0 then (H14.texts c.merges).2
  else if RestOk c then 0 else 172
/-- all but what comes last -/
structure FirstOk (c : Cfg) : Prop where
  few : c.passes.length ≤ 4
  pass : ∀ j, j < c.passes.length → T12.rightE (c.passes.getD j []) = 0
  grow : growP c.passes c.passes.length ≤ 32
  split : wrongT c.split = 0
  size : c.split.size ≤ 1000
  merges : (H14.texts c.merges).2 = 0
theorem cfgE_few {c : Cfg} (h : 4 < c.passes.length) : cfgE c = 172 := by unfold cfgE; rw [if_pos h]
theorem cfgE_pass {c : Cfg} (h : c.passes.length ≤ 4) {k : Nat} (hk : k < c.passes.length) (h0 : ∀ j, j < k → T12.rightE (c.passes.getD j []) = 0) (h1 : T12.rightE (c.passes.getD k []) ≠ 0) : cfgE c = T12.rightE (c.passes.getD k []) := by
  have := passE_bad c.passes k hk h0 h1
  unfold cfgE
  rw [if_neg (by omega), if_pos (by rw [this]; exact h1), this]
theorem cfgE_grow {c : Cfg} (h : c.passes.length ≤ 4) (h0 : ∀ j, j < c.passes.length → T12.rightE (c.passes.getD j []) = 0) (h1 : 32 < growP c.passes c.passes.length) : cfgE c = 172 := by
  unfold cfgE
  rw [if_neg (by omega), if_neg (by rw [passE_ok _ h0]; simp), if_pos h1]
theorem cfgE_split {c : Cfg} (h : c.passes.length ≤ 4) (h0 : ∀ j, j < c.passes.length → T12.rightE (c.passes.getD j []) = 0) (h1 : growP c.passes c.passes.length ≤ 32) (h2 : wrongT c.split ≠ 0) : cfgE c = wrongT c.split := by
  unfold cfgE
  rw [if_neg (by omega), if_neg (by rw [passE_ok _ h0]; simp), if_neg (by omega), if_pos h2]
theorem cfgE_size {c : Cfg} (h : c.passes.length ≤ 4) (h0 : ∀ j, j < c.passes.length → T12.rightE (c.passes.getD j []) = 0) (h1 : growP c.passes c.passes.length ≤ 32) (h2 : wrongT c.split = 0) (h3 : 1000 < c.split.size) : cfgE c = 172 := by
  unfold cfgE
  rw [if_neg (by omega), if_neg (by rw [passE_ok _ h0]; simp), if_neg (by omega), if_neg (by rw [h2]; simp), if_pos h3]
theorem cfgE_merges {c : Cfg} (h : c.passes.length ≤ 4) (h0 : ∀ j, j < c.passes.length → T12.rightE (c.passes.getD j []) = 0) (h1 : growP c.passes c.passes.length ≤ 32) (h2 : wrongT c.split = 0) (h3 : c.split.size ≤ 1000) (h4 : (H14.texts c.merges).2 ≠ 0) : cfgE c = (H14.texts c.merges).2 := by
  unfold cfgE
  rw [if_neg (by omega), if_neg (by rw [passE_ok _ h0]; simp), if_neg (by omega), if_neg (by rw [h2]; simp), if_neg (by omega), if_pos h4]
theorem cfgE_rest {c : Cfg} (h : FirstOk c) (hr : ¬ RestOk c) : cfgE c = 172 := by
  have := h.few
  have := h.grow
  have := h.size
  unfold cfgE
  rw [if_neg (by omega), if_neg (by rw [passE_ok _ h.pass]; simp), if_neg (by omega), if_neg (by rw [h.split]; simp), if_neg (by omega), if_neg (by rw [h.merges]; simp), if_neg hr]
theorem cfgE_ok {c : Cfg} (h : FirstOk c) (hr : RestOk c) : cfgE c = 0 := by
  have := h.few
  have := h.grow
  have := h.size
  unfold cfgE
  rw [if_neg (by omega), if_neg (by rw [passE_ok _ h.pass]; simp), if_neg (by omega), if_neg (by rw [h.split]; simp), if_neg (by omega), if_neg (by rw [h.merges]; simp), if_pos hr]
theorem cfgE_zero {c : Cfg} (h : cfgE c = 0) : FirstOk c ∧ RestOk c := by
  unfold cfgE at h
  split at h
  · omega
  · split at h
    · omega
    · split at h
      · omega
      · split at h
        · omega
        · split at h
          · omega
          · split at h
            · omega
            · split at h
              · rename_i h1 h2 h3 h4 h5 h6 h7
                refine ⟨⟨by omega, fun j hj => ?_, by omega, by omega, by omega, by omega⟩, h7⟩
                have hp : passE c.passes = 0 := by omega
                apply Classical.byContradiction
                intro hb
                have hex : ∃ k, k < c.passes.length ∧ T12.rightE (c.passes.getD k []) ≠ 0 ∧ ∀ i, i < k → T12.rightE (c.passes.getD i []) = 0 := by
                  have : ∀ n, n ≤ c.passes.length → (∃ k, k < n ∧ T12.rightE (c.passes.getD k []) ≠ 0) → ∃ k, k < n ∧ T12.rightE (c.passes.getD k []) ≠ 0 ∧ ∀ i, i < k → T12.rightE (c.passes.getD i []) = 0 := fun n => by
                    induction n with
                    | zero => rintro _ ⟨k, hk, _⟩; omega
                    | succ n ih =>
                      intro hn hx
                      by_cases hy : ∃ k, k < n ∧ T12.rightE (c.passes.getD k []) ≠ 0
                      · obtain ⟨k, hk, h1, h2⟩ := ih (by omega) hy
                        exact ⟨k, by omega, h1, h2⟩
                      · obtain ⟨k, hk, h1⟩ := hx
                        have : k = n := by
                          apply Classical.byContradiction
                          intro hne
                          exact hy ⟨k, by omega, h1⟩
                        subst this
                        exact ⟨k, hk, h1, fun i hi => Classical.byContradiction fun h9 => hy ⟨i, hi, h9⟩⟩
                  exact this _ (Nat.le_refl _) ⟨j, hj, hb⟩
                obtain ⟨k, hk, hk1, hk2⟩ := hex
                rw [passE_bad c.passes k hk hk2 hk1] at hp
                exact hk1 hp
              · omega
theorem shp_of {t : Tr} (h : wrongT t = 0) : Shp t := by
  unfold wrongT at h
  split at h
  · omega
  · split at h
    · rename_i h1
      exact Classical.byContradiction fun h2 => by rw [shp_no h2] at h1; cases h1
    · omega
theorem height_of {t : Tr} (h : wrongT t = 0) : t.height ≤ 30 ∧ t.nodes ≤ 512 := by
  unfold wrongT at h
  split at h <;> omega

/-- rule.Grow, whatever the rules -/
theorem grow_any (A : Option Addr) (n c : Nat) (l : List T12.SR) (w : World) (hl : l.length = n) (hn : n ≤ 140737488355328) (h : Arr w w.heap.size 2 A n (T12.RuleC l)) (hz : ∀ k, k < n → (l.getD k T12.noRule).1.size ≤ maxLen) :
    (T12.rightE l ≠ 0 → Calls Try.prog 64 #[.slice A n c] w fun e w' => e = .returned (.tuple #[.int .i64 0, .int .i64 (T12.rightE l)]) ∧ Below w.heap.size w w') ∧
    (T12.rightE l = 0 → Calls Try.prog 64 #[.slice A n c] w fun e w' => e = .returned (.tuple #[.int .i64 (T12.growN l l.length : Int), .int .i64 0]) ∧ Below w.heap.size w w') :=
  ⟨T12.grow_no A n c l w hl hn h hz, fun h0 => by rw [hl]; exact T12.grow_ok A n c l w hl h hz (T12.allOk_of h0)⟩
end Go.Proofs.Ytfjgfabochiflaa
/- What ids write: plain. -/
namespace Go.Proofs.Ytfjgfabochiflaa
open Go.RowKit

theorem goTexts_len : ∀ (ms : List (Int × Int)) (k : Nat) (out o : List H14.Txt), H14.goTexts k out ms = some o → out.length = 256 + k → H14.short64 out → o.length = 256 + k + ms.length ∧ H14.short64 o
  | [], k, out, o, h, hl, hs => by
    unfold H14.goTexts at h
    injection h with h
    subst h
    exact ⟨by simpa using hl, hs⟩
  | m :: ms, k, out, o, h, hl, hs => by
    unfold H14.goTexts at h
    split at h
    · cases h
    · simp only at h
      split at h
      · cases h
      · rename_i h2
        have := goTexts_len ms (k + 1) _ o h (by simp; omega) (H14.short64_snoc hs (by omega))
        exact ⟨by rw [this.1]; simp; omega, this.2⟩
theorem texts_len {l : List (Int × Int)} (h : (H14.texts l).2 = 0) : (H14.texts l).1.length = 256 + l.length ∧ H14.short64 (H14.texts l).1 := by
  unfold H14.texts at h ⊢
  split
  · rename_i h1; rw [if_pos h1] at h; cases h
  · rename_i h1
    rw [if_neg h1] at h
    cases hg : H14.goTexts 0 H14.baseTexts l with
    | none => rw [hg] at h; cases h
    | some o =>
      have := goTexts_len l 0 H14.baseTexts o hg (by simp [H14.baseTexts]) H14.short64_base
      simpa using this

/-- what an id writes -/
def idText (T : List H14.Txt) (i : Int) : List UInt8 := if i < (T.length : Int) then T.getD i.toNat [] else []
def idsText (T : List H14.Txt) (ids : List Int) : List UInt8 := (ids.map (idText T)).flatten
theorem idsText_snoc (T : List H14.Txt) (ids : List Int) (x : Int) : idsText T (ids ++ [x]) = idsText T ids ++ idText T x := by simp [idsText]
theorem idText_le {T : List H14.Txt} (h : H14.short64 T) (x : Int) : (idText T x).length ≤ 64 := by
  unfold idText
  split
  · exact H14.short64_get h _
  · simp
theorem idsText_le {T : List H14.Txt} (h : H14.short64 T) : ∀ ids, (idsText T ids).length ≤ 64 * ids.length
  | [] => by simp [idsText]
  | x :: ids => by
    have h1 := idText_le h x
    have h2 := idsText_le h ids
    have : idsText T (x :: ids) = idText T x ++ idsText T ids := by simp [idsText]
    rw [this, List.length_append, List.length_cons]
    omega
def idsOk (ids : List Int) (N : Int) : Prop := ∀ j, j < ids.length → 0 ≤ ids.getD j 0 ∧ ids.getD j 0 < N
open Classical in
/-- what Text answers -/
noncomputable def textR (c : Cfg) (ids : List Int) : ByteArray × Int :=
  if cfgE c ≠ 0 then (⟨#[]⟩, cfgE c)
  else if 262144 < ids.length then (⟨#[]⟩, 2)
  else if idsOk ids (256 + c.merges.length + c.names.length : Nat) then (⟨(idsText (H14.texts c.merges).1 ids).toArray⟩, 0) else (⟨#[]⟩, 1)
theorem textR_cfg {c : Cfg} {ids : List Int} (h : cfgE c ≠ 0) : textR c ids = (⟨#[]⟩, cfgE c) := by unfold textR; rw [if_pos h]
theorem textR_long {c : Cfg} {ids : List Int} (h : cfgE c = 0) (h1 : 262144 < ids.length) : textR c ids = (⟨#[]⟩, 2) := by unfold textR; rw [if_neg (by rw [h]; simp), if_pos h1]
theorem textR_ok {c : Cfg} {ids : List Int} (h : cfgE c = 0) (h1 : ids.length ≤ 262144) (h2 : idsOk ids (256 + c.merges.length + c.names.length : Nat)) : textR c ids = (⟨(idsText (H14.texts c.merges).1 ids).toArray⟩, 0) := by unfold textR; rw [if_neg (by rw [h]; simp), if_neg (by omega), if_pos h2]
theorem textR_bad {c : Cfg} {ids : List Int} (h : cfgE c = 0) (h1 : ids.length ≤ 262144) (h2 : ¬ idsOk ids (256 + c.merges.length + c.names.length : Nat)) : textR c ids = (⟨#[]⟩, 1) := by unfold textR; rw [if_neg (by rw [h]; simp), if_neg (by omega), if_neg h2]
end Go.Proofs.Ytfjgfabochiflaa
