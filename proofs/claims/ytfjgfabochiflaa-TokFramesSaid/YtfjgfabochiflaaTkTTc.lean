/- TkT, Tok of this seat, in one text. -/
import Derived.Test.YtfjgfabochiflaaTkSTc
import Derived.Test.YtfjgfabochiflaaPcsWTc
import Derived.Test.YtfjgfabochiflaaHXJoinTc
import Derived.Deep.Cut
import Derived.Deep.CutRange
/- tok.Tok's memory and what it tells. -/
namespace Go.Proofs.Ytfjgfabochiflaa
open Go.RowKit
open H14 (Blk But TS Eg numsV bytesI fget)

theorem merged_pos (l : List (Int × Int)) : ∀ (f : Nat) (out : List Int), 1 ≤ out.length → 1 ≤ (H14.R13.mergeF l f out).length
  | 0, out, h => h
  | f + 1, out, h => by
    unfold H14.R13.mergeF
    cases hs : H14.R13.scan l out with
    | none => exact h
    | some p =>
      obtain ⟨b, i⟩ := p
      have := (H14.R13.scanTo_lt hs).1
      refine merged_pos l f _ ?_
      rw [H14.R13.length_merged (by omega)]
      omega
/-- a piece's ids -/
def pieceI (l : List (Int × Int)) (p : ByteArray) : List Int := H14.R13.mergeAll l (bytesI p)
theorem pieceI_pos (l : List (Int × Int)) (p : ByteArray) (h : 1 ≤ p.size) : 1 ≤ (pieceI l p).length := merged_pos l _ _ (by rw [H14.length_bytesI]; exact h)
theorem pieceI_le (l : List (Int × Int)) (p : ByteArray) : (pieceI l p).length ≤ p.size := by
  have := H14.R13.length_mergeF (l := l) (bytesI p).length (bytesI p)
  rw [H14.length_bytesI] at this
  unfold pieceI H14.R13.mergeAll
  rw [H14.length_bytesI]
  exact this
def piecesI (l : List (Int × Int)) (P : List ByteArray) : List Int := P.flatMap (pieceI l)
theorem piecesI_snoc (l : List (Int × Int)) (P : List ByteArray) (p : ByteArray) : piecesI l (P ++ [p]) = piecesI l P ++ pieceI l p := by simp [piecesI]
theorem piecesI_le (l : List (Int × Int)) : ∀ P : List ByteArray, (piecesI l P).length ≤ (P.flatMap (·.data.toList)).length
  | [] => by simp [piecesI]
  | p :: P => by
    have h1 := pieceI_le l p
    have h2 := piecesI_le l P
    have h3 : piecesI l (p :: P) = pieceI l p ++ piecesI l P := by simp [piecesI]
    rw [h3, List.flatMap_cons, List.length_append, List.length_append, T12.size_data]
    omega
theorem take_join_le (P : List ByteArray) (k : Nat) : ((P.take k).flatMap (·.data.toList)).length ≤ (P.flatMap (·.data.toList)).length := by
  conv => rhs; rw [← List.take_append_drop k P]
  rw [List.flatMap_append, List.length_append]
  omega
/-- the ids of a normal text -/
noncomputable def tokL (c : Cfg) (x : ByteArray) : List Int := upI c.merges.length c.before ++ piecesI c.merges (piecesT c.split x) ++ upI c.merges.length c.after
open Classical in
noncomputable def tokR (c : Cfg) (s : ByteArray) : List Int × Int := if cfgE c ≠ 0 then ([], cfgE c) else if 4096 < s.size then ([], 2) else (tokL c (normB c s), 0)
theorem tokR_cfg {c : Cfg} {s : ByteArray} (h : cfgE c ≠ 0) : tokR c s = ([], cfgE c) := by unfold tokR; rw [if_pos h]
theorem tokR_long {c : Cfg} {s : ByteArray} (h : cfgE c = 0) (h1 : 4096 < s.size) : tokR c s = ([], 2) := by unfold tokR; rw [if_neg (by rw [h]; simp), if_pos h1]
theorem tokR_ok {c : Cfg} {s : ByteArray} (h : cfgE c = 0) (h1 : ¬ 4096 < s.size) : tokR c s = (tokL c (normB c s), 0) := by unfold tokR; rw [if_neg (by rw [h]; simp), if_neg h1]

/-- Tok's memory while it asks -/
structure TkS (w1 : World) (B ge gm : Nat) (D : DataW Unit) (nm : Nat) (F : Int → Int → Option Nat) (go : Nat) (pv : Value) (P : List ByteArray) (v : Value) (o : List Int) (W : World) : Prop where
  bel : Below w1.heap.size w1 W
  eng : ∃ fv bv m, Eg W B ge gm fv bv m D nm F ∧ (∀ k, v.ownBlock = some k → ¬ TS ge fv bv k) ∧ (∀ k, pv.ownBlock = some k → ¬ TS ge fv bv k)
  box : Blk W go 32 [v]
  row : W.ownsRow w1.heap.size 3 1 v o.length (numsV .i64 o)
  pcs : W.ownsRow B 9 1 pv P.length (strsV P)
  glo : w1.heap.size ≤ go
  ghi : go < B
  bhi : B ≤ W.heap.size
section
variable {w1 W : World} {B ge gm nm go : Nat} {D : DataW Unit} {F : Int → Int → Option Nat} {pv v : Value} {P : List ByteArray} {o : List Int}
theorem ts_lt {fv bv : Value} {m : Nat} (h : Eg W B ge gm fv bv m D nm F) (k : Nat) (hk : TS ge fv bv k) : k < W.heap.size := by
  rcases hk with rfl | hk | hk
  · exact h.box.lt
  · exact h.fl k hk
  · exact h.bl k hk
theorem ts_ge {fv bv : Value} {m : Nat} (h : Eg W B ge gm fv bv m D nm F) (k : Nat) (hk : TS ge fv bv k) : B ≤ k := by
  rcases hk with rfl | hk | hk
  · exact h.geB
  · exact (h.fo.lt k hk).1
  · obtain ⟨bn, xs, hb⟩ := h.bo
    exact (hb.lt k hk).1
/-- a piece is asked -/
theorem TkS.ask (h : TkS w1 B ge gm D nm F go pv P v o W) (hF : H14.FSmall F) (s : ByteArray) (hs : s.size ≤ 262144) :
    Calls Try.prog 63 #[.pointer (some ⟨ge, 0, none⟩), .string s] W fun e W' => ∃ A oo c, e = .returned (.tuple #[.slice A oo.length c, .int .i64 0]) ∧ H14.mergeF (fget F) 1280 (bytesI s) = some oo ∧ TkS w1 B ge gm D nm F go pv P v o W' ∧ W'.ownsRow W.heap.size 3 1 (.slice A oo.length c) oo.length (numsV .i64 oo) := by
  obtain ⟨fv, bv, m, he, hv, hp⟩ := h.eng
  refine (H14.tokens_walk W B ge gm m nm fv bv D F he h.bhi s s.size rfl hs hF).mono ?_
  rintro e W' ⟨oo, A, c, fv', bv', rfl, hm, ho, hb, he', hs2, hn⟩
  have hng : ¬ TS ge fv bv go := fun hk => by have := ts_ge he go hk; have := h.ghi; omega
  refine ⟨A, oo, c, rfl, hm, ⟨h.bel.trans (hb.below h.bel.size (fun k hk => by have := ts_ge he k hk; have := h.ghi; have := h.glo; omega)), ⟨fv', bv', 1, he', fun k hk ht => ?_, fun k hk ht => ?_⟩, hb.blk h.box hng, hb.own h.row hv, hb.own h.pcs hp, h.glo, h.ghi, Nat.le_trans h.bhi hb.size⟩, ho⟩
  · exact hv k hk (hs2 k (h.row.lt k hk).2 ht)
  · exact hp k hk (hs2 k (h.pcs.lt k hk).2 ht)
/-- what is told is put behind what there is -/
theorem TkS.grow (h : TkS w1 B ge gm D nm F go pv P v o W) {w6 : World} {A6 : Option Addr} {n6 c6 : Nat} {oo : List Int}
    (hown : w6.ownsRow w1.heap.size 3 1 (.slice A6 n6 c6) (o.length + oo.length) (numsV .i64 o ++ numsV .i64 oo)) (hg : W.grownBy w6 v.ownBlock) (hw : (Value.slice A6 n6 c6).ownBlock = v.ownBlock ∨ (Value.slice A6 n6 c6).ownBlock = some W.heap.size) :
    TkS w1 B ge gm D nm F go pv P (.slice A6 n6 c6) (o ++ oo) (w6.setCell ⟨go, 0, none⟩ (.slice A6 n6 c6)) := by
  obtain ⟨fv, bv, m, he, hv, hp⟩ := h.eng
  have hne := box_ne h.box h.row
  have hb6 : Blk w6 go 32 [v] := (hg.block go h.box.lt (fun e => hne e.symm)).trans h.box
  have hnew := box_ne hb6 hown
  have hbs := But.of_grown (H14.grownBy_setCell w6 go 0 (.slice A6 n6 c6))
  have hb1 : But (GS go v) W (w6.setCell ⟨go, 0, none⟩ (.slice A6 n6 c6)) := ((But.of_grown hg).mono (S' := GS go v) (fun k _ h => .inr h)).trans (hbs.mono (S' := GS go v) (fun k _ h => .inl (by injection h with h; exact h.symm))) (fun k _ h => h)
  have hmap : v.ownBlock ≠ some gm := fun e => H14.own_map_ne h.row he.map e.symm
  have hgs : ∀ k, TS ge fv bv k → ¬ GS go v k := fun k ht hk => by
    rcases hk with rfl | hk
    · have := ts_ge he k ht; have := h.ghi; omega
    · exact hv k hk ht
  refine ⟨h.bel.trans (hb1.below h.bel.size (fun k hk => ?_)), ⟨fv, bv, m, he.but hb1 (hgs ge (.inl rfl)) ?_ (fun k hk => hgs k (.inr (.inl hk))) (fun k hk => hgs k (.inr (.inr hk))), fun k hk ht => ?_, hp⟩, hb6.set 0 _, ?_, hb1.own h.pcs (fun k hk hg => ?_), h.glo, h.ghi, Nat.le_trans h.bhi hb1.size⟩
  · rcases hk with rfl | hk
    · exact h.glo
    · exact (h.row.lt k hk).1
  · rintro (e | e)
    · have := he.gmB; have := h.ghi; omega
    · exact hmap e
  · rcases hw with hw | hw
    · exact hv k (by rw [← hw]; exact hk) ht
    · rw [hk] at hw
      injection hw with hw
      have := ts_lt he k ht
      omega
  · have h9 := hbs.own hown (fun k hk h => by injection h with h; exact hnew (by rw [hk, h]))
    rw [List.length_append]
    have e : numsV .i64 (o ++ oo) = numsV .i64 o ++ numsV .i64 oo := by simp [numsV]
    rw [e]
    exact h9
  · rcases hg with rfl | hg
    · have := (h.pcs.lt k hk).1; have := h.ghi; omega
    · obtain ⟨g1, cap1, cur1, hv1, _, hc1, _⟩ := h.row.2.resolve_left (fun e => by rw [e.1] at hg; cases hg)
      obtain ⟨g2, cap2, cur2, hv2, _, hc2, _⟩ := h.pcs.2.resolve_left (fun e => by rw [e.1] at hk; cases hk)
      rw [hv1] at hg
      rw [hv2] at hk
      simp [Value.ownBlock] at hg hk
      subst hg hk
      rw [hc1] at hc2
      injection hc2 with hc2
      injection hc2 with _ hc2
      exact absurd hc2 (by decide)
end
end Go.Proofs.Ytfjgfabochiflaa
/- tok.Tok. -/
namespace Go.Proofs.Ytfjgfabochiflaa
open Go.RowKit
open H14 (Blk But TS Eg numsV bytesI fget)

theorem build_ok (t : Tr) (A : Option Addr) (n c : Nat) (w : World) (h : TrIn w t A n) (hw : TrWf t) (h0 : wrongT t = 0) (h1 : t.size ≤ 1000) :
    Calls Try.prog 59 #[.agg #[.int .i64 t.kind, .int .u64 t.s0, .int .u64 t.s1, .int .u64 t.s2, .int .u64 t.s3, .int .i64 t.lo, .int .i64 t.hi, .slice A n c]] w fun e W' =>
      ∃ S E A' c', Made t S E ∧ e = .returned (.tuple #[.agg #[.int .i64 (S : Int), .int .i64 0, .int .i64 1, .slice A' E.length c'], .int .i64 0]) ∧ NfaIn W' A' E.length ⟨(S : Int), 0, 1, E⟩ ∧ Below w.heap.size w W' := by
  refine (build_any t A n c w h hw).mono ?_
  rintro e W' ⟨hs, hb⟩
  rcases hs with ⟨h2, _⟩ | ⟨_, h2, _⟩ | ⟨_, S, E, A', c', hm, he, hn⟩
  · exact absurd h0 h2
  · omega
  · exact ⟨S, E, A', c', hm, he, hn, hb⟩
theorem new_ok (A : Option Addr) (n c : Nat) (l : List (Int × Int)) (w : World) (hl : l.length = n) (hn : n ≤ 140737488355328) (h1 : Arr w w.heap.size 2 A n (H14.PairC l)) (h0 : (H14.texts l).2 = 0) :
    Calls Try.prog 61 #[.slice A n c, .slice none 0 0] w fun e w' => ∃ ge gm D, e = .returned (.tuple #[.pointer (some ⟨ge, 0, none⟩), .int .i64 0]) ∧ Below w.heap.size w w' ∧ Eg w' w.heap.size ge gm (.slice none 0 0) (.slice none 0 0) 0 D n (fun a b => H14.rankTo (H14.inD []) l a b n) := by
  refine (H14.new_any A none n c 0 0 l [] w hl hn h1 rfl (by omega) (fun h => absurd h (by omega))).mono ?_
  rintro e w' ⟨hb, hs⟩
  rcases hs with ⟨h2, _⟩ | ⟨_, h2, _⟩ | ⟨_, _, ge, gm, D, he, hg⟩
  · exact absurd h0 h2
  · cases h2
  · exact ⟨ge, gm, D, he, hb, Eg.start hg⟩
theorem inD_nil (k : Nat) : H14.inD [] k = false := rfl
theorem piece_told {l : List (Int × Int)} (hl : l.length ≤ 1024) {p : ByteArray} {oo : List Int} (h : H14.mergeF (fget (fun a b => H14.rankTo (H14.inD []) l a b l.length)) 1280 (bytesI p) = some oo) : oo = pieceI l p := by
  have h2 := H14.merge_def (F := fun a b => H14.rankTo (H14.inD []) l a b l.length) hl (fun a b _ _ => H14.rankTo_none l a b l.length) p
  rw [h2] at h
  injection h with h
  exact h.symm

set_option maxRecDepth 100000 in
set_option maxHeartbeats 16000000 in
theorem tok_any (c : Cfg) (a : CfgAd) (s : ByteArray) (w : World) (h : CfgIn w c a) (hsm : s.size ≤ 60 ∨ 4096 < s.size) :
    Calls Try.prog 30 #[.agg #[.slice a.P a.np a.cp, .int .i64 c.split.kind, .int .u64 c.split.s0, .int .u64 c.split.s1, .int .u64 c.split.s2, .int .u64 c.split.s3, .int .i64 c.split.lo, .int .i64 c.split.hi, .slice a.T a.nt a.ct, .slice a.M a.nm a.cm, .slice a.N a.nn a.cn, .slice a.B a.nb a.cb, .slice a.A a.na a.ca], .string s] w fun e w' => ∃ v, e = .returned (.tuple #[v, .int .i64 (tokR c s).2]) ∧ w'.ownsRow w.heap.size 3 1 v (tokR c s).1.length (numsV .i64 (tokR c s).1) ∧ Below w.heap.size w w' := by
  obtain ⟨w1, hw1⟩ : ∃ w1, w1 = w.alloc (.cells #[.slice a.P a.np a.cp, .int .i64 c.split.kind, .int .u64 c.split.s0, .int .u64 c.split.s1, .int .u64 c.split.s2, .int .u64 c.split.s3, .int .i64 c.split.lo, .int .i64 c.split.hi, .slice a.T a.nt a.ct, .slice a.M a.nm a.cm, .slice a.N a.nn a.cn, .slice a.B a.nb a.cb, .slice a.A a.na a.ca] 34) := ⟨_, rfl⟩
  have hb0 : Below w.heap.size w w1 := by rw [hw1]; exact (Below.refl _ _).alloc (Nat.le_refl _) _
  have hgl : w.heap.size < w1.heap.size := by rw [hw1]; simp
  have q0 : w1.cell? ⟨w.heap.size, 0, none⟩ = some (.slice a.P a.np a.cp) := by rw [hw1]; simp
  have q1 : w1.cell? ⟨w.heap.size, 1, none⟩ = some (.int .i64 c.split.kind) := by rw [hw1]; simp
  have q2 : w1.cell? ⟨w.heap.size, 2, none⟩ = some (.int .u64 c.split.s0) := by rw [hw1]; simp
  have q3 : w1.cell? ⟨w.heap.size, 3, none⟩ = some (.int .u64 c.split.s1) := by rw [hw1]; simp
  have q4 : w1.cell? ⟨w.heap.size, 4, none⟩ = some (.int .u64 c.split.s2) := by rw [hw1]; simp
  have q5 : w1.cell? ⟨w.heap.size, 5, none⟩ = some (.int .u64 c.split.s3) := by rw [hw1]; simp
  have q6 : w1.cell? ⟨w.heap.size, 6, none⟩ = some (.int .i64 c.split.lo) := by rw [hw1]; simp
  have q7 : w1.cell? ⟨w.heap.size, 7, none⟩ = some (.int .i64 c.split.hi) := by rw [hw1]; simp
  have q8 : w1.cell? ⟨w.heap.size, 8, none⟩ = some (.slice a.T a.nt a.ct) := by rw [hw1]; simp
  have q9 : w1.cell? ⟨w.heap.size, 9, none⟩ = some (.slice a.M a.nm a.cm) := by rw [hw1]; simp
  have q10 : w1.cell? ⟨w.heap.size, 10, none⟩ = some (.slice a.N a.nn a.cn) := by rw [hw1]; simp
  have q11 : w1.cell? ⟨w.heap.size, 11, none⟩ = some (.slice a.B a.nb a.cb) := by rw [hw1]; simp
  have q12 : w1.cell? ⟨w.heap.size, 12, none⟩ = some (.slice a.A a.na a.ca) := by rw [hw1]; simp
  have HC := Lib.hid (h.keep hb0)
  have HB := Lib.hid hb0
  have GO := Lib.hid (fun (w2 : World) (hb : Below w1.heap.size w1 w2) (j : Nat) (v : Value) (hv : w1.cell? ⟨w.heap.size, j, none⟩ = some v) => (hb.cell (p := ⟨w.heap.size, j, none⟩) hgl).trans hv)
  have hnr := normal_any c a s w1 HC.out
  obtain ⟨ce, hce⟩ : ∃ ce, ce = cfgE c := ⟨_, rfl⟩
  have HCE := Lib.hid hce
  obtain ⟨to9, hto⟩ : ∃ to9, to9 = (tokR c s).1 := ⟨_, rfl⟩
  obtain ⟨te, hte⟩ : ∃ te, te = (tokR c s).2 := ⟨_, rfl⟩
  rw [← hto, ← hte]
  have HT := Lib.hid (show (to9, te) = tokR c s by rw [hto, hte])
  have hd := h.mle
  clear hce hto hte h hb0
  by_cases h0 : ce = 0
  · subst h0
    by_cases hlong : 4096 < s.size
    · have ht := HT.out
      rw [tokR_long HCE.out.symm hlong] at ht
      injection ht with h1 h2
      subst h1 h2
      rw [normR_long HCE.out.symm hlong] at hnr
      have HNR := Lib.hid hnr
      clear hnr
      go_enter Try.func30, Try.ntmps30
      go_upto_region 1 with (fail)
      rw [← hw1]
      clear hw1
      go_wp2_with (go_at_call 28; refine HNR.out.mono ?_; rintro e w2 ⟨rfl, hb2⟩; have HB2 := Lib.hid hb2; clear hb2)
      go_ret2
      exact ⟨_, rfl, World.ownsRow_nil _ _ _ _, HB.out.trans (HB2.out.mono HB.out.size)⟩
    · have ht := HT.out
      rw [tokR_ok HCE.out.symm hlong] at ht
      have hto : to9 = tokL c (normB c s) := congrArg Prod.fst ht
      obtain rfl : te = 0 := congrArg Prod.snd ht
      rw [normR_ok HCE.out.symm hlong] at hnr
      have hF := (cfgE_zero HCE.out.symm).1
      have hRo := (cfgE_zero HCE.out.symm).2
      have hxs := norm_small hF (s := s) c.passes.length (Nat.le_refl _)
      obtain ⟨x, hx⟩ : ∃ x, x = normB c s := ⟨_, rfl⟩
      have hxz : x.size ≤ 1920 := by rw [hx]; exact Nat.le_trans hxs (by omega)
      rw [← hx] at hnr hto
      have HNR := Lib.hid hnr
      have HTO := Lib.hid hto
      have HF := Lib.hid hF
      have HRO := Lib.hid hRo
      have HBU := Lib.hid (fun (w2 : World) (hc : CfgIn w2 c a) => build_ok c.split a.T a.nt a.ct w2 hc.tree hc.wf hF.split hF.size)
      have HNW := Lib.hid (fun (w2 : World) (hc : CfgIn w2 c a) => new_ok a.M a.nm a.cm c.merges w2 hc.mlen hc.mle hc.marr hF.merges)
      have hml := (H14.texts_valid hF.merges).1
      have hmn := HC.out.mlen
      have HML := Lib.hid hmn
      have hnm : a.nm ≤ 1024 := by omega
      clear ht hto hx hxs hnr hF hRo hml hmn
      go_enter Try.func30, Try.ntmps30
      go_upto_region 1 with (fail)
      rw [← hw1]
      clear hw1
      go_upto_region 9 with first
        | (go_at_call 28; refine HNR.out.mono ?_; rintro e w2 ⟨rfl, hb2⟩; have HB2 := Lib.hid hb2; clear hb2; have r1 := GO.out _ HB2.out _ _ q1; have r2 := GO.out _ HB2.out _ _ q2; have r3 := GO.out _ HB2.out _ _ q3; have r4 := GO.out _ HB2.out _ _ q4; have r5 := GO.out _ HB2.out _ _ q5; have r6 := GO.out _ HB2.out _ _ q6; have r7 := GO.out _ HB2.out _ _ q7; have r8 := GO.out _ HB2.out _ _ q8)
        | (go_at_call 59; refine (HBU.out _ (HC.out.keep HB2.out)).mono ?_; rintro e w3 ⟨S, E, NA, nc, hmade, rfl, hnfa, hb3⟩; have HB3 := Lib.hid (HB2.out.trans (hb3.mono HB2.out.size)); have HMA := Lib.hid hmade; have HNF := Lib.hid hnfa; have hs3 := Nat.lt_of_lt_of_le hgl HB3.out.size; clear hb3 hmade hnfa)
      obtain ⟨W5, hW5⟩ : ∃ W5, W5 = (w3.alloc (.cells #[.int .i64 (S : Int), .int .i64 0, .int .i64 1, .slice NA E.length nc] 118)).alloc (.cells #[.slice none 0 0] 32) := ⟨_, rfl⟩
      have hb35 : Below w3.heap.size w3 W5 := by rw [hW5]; exact ((Below.refl _ _).alloc (Nat.le_refl _) _).alloc (by simp) _
      obtain ⟨gn, hgn⟩ : ∃ gn, gn = w3.heap.size := ⟨_, rfl⟩
      obtain ⟨go, hgo⟩ : ∃ go, go = w3.heap.size + 1 := ⟨_, rfl⟩
      have hn5 : Blk W5 gn 118 [.int .i64 (S : Int), .int .i64 0, .int .i64 1, .slice NA E.length nc] := by rw [hW5, hgn]; exact (Blk.new w3 118 _).alloc _
      have ho5 : Blk W5 go 32 [.slice none 0 0] := by
        have := Blk.new (w3.alloc (.cells #[.int .i64 (S : Int), .int .i64 0, .int .i64 1, .slice NA E.length nc] 118)) 32 [.slice none 0 0]
        rw [World.size_alloc] at this
        rw [hW5, hgo]
        exact this
      have hs5 : W5.heap.size = go + 1 := by rw [hW5, hgo]; simp
      have HB5 := Lib.hid (HB3.out.trans (hb35.mono HB3.out.size))
      have hgnlo : w1.heap.size ≤ gn := by rw [hgn]; exact HB3.out.size
      have hgolo : w1.heap.size ≤ go := by omega
      have hgngo : gn < go := by omega
      rw [← hW5, ← hgo, ← hgn]
      have HN5 := Lib.hid hn5
      have HO5 := Lib.hid ho5
      have HS5 := Lib.hid hs5
      have HB35 := Lib.hid hb35
      have HG3 := Lib.hid (show w3.heap.size ≤ go by omega)
      have m9 := GO.out _ HB5.out _ _ q9
      have m11 := GO.out _ HB5.out _ _ q11
      have hrng : ∀ l : List Int, FrameOk l c.names.length → ∀ j, j < l.length → 0 ≤ l.getD j 0 ∧ l.getD j 0 < 64 := fun l hf j hj => by
        have h1 := HRO.out.few
        have h2 := hf.all
        apply Classical.byContradiction
        intro h3
        exact h2 ⟨j, hj, by omega⟩
      have HRG := Lib.hid hrng
      have hgcB : w.heap.size < w1.heap.size := hgl
      have hgcgo : w.heap.size ≠ go := by omega
      have HSB := Lib.hid (special_any w1.heap.size w.heap.size go a.M a.nm a.cm a.B a.nb a.cb c.before [] (.slice none 0 0) W5 m9 HO5.out (World.ownsRow_nil _ _ _ _) HB5.out.size (by omega) hgcgo (by simp [Value.ownBlock]) HC.out.blen (by have := HRO.out.before.few; have := HC.out.blen; omega) (HC.out.barr.below HB5.out) (fun j hj => hrng _ HRO.out.before j (by rw [HC.out.blen]; exact hj)) hnm (by simp) hgolo)
      have HPC := Lib.hid (fun (w2 : World) (hb : Below w3.heap.size w3 w2) => pieces_any c.split S E HMA.out NA E.length nc x w2 (HNF.out.keep hb) (by omega))
      obtain ⟨P, hP⟩ : ∃ P, P = piecesT c.split x := ⟨_, rfl⟩
      rw [← hP] at HPC
      have HP := Lib.hid hP
      clear hW5 hb35 hgn hgo hn5 ho5 hs5 hrng hs3 hP
      go_wp2_with first
        | (go_at_call 60; refine HSB.out.mono ?_; rintro e w6 ⟨rfl, v6, hx6, hr6, hu6, _⟩; have HX6 := Lib.hid (And.intro hx6 (And.intro hr6 hu6)); have HB6 := Lib.hid (HB5.out.trans (hu6.below (by have := HB5.out.size; omega) (fun k hk => hk.elim (fun e => by rw [e]; exact hgolo) (fun e => by simp [Value.ownBlock] at e)))); have t9 := GO.out _ HB6.out _ _ q9; clear hx6 hr6 hu6)
        | (go_at_call 61; refine (HNW.out _ (HC.out.keep HB6.out)).mono ?_; rintro e w7 ⟨ge, gm, D, rfl, hb7, heg⟩; have HB7 := Lib.hid (And.intro hb7 heg); have h36 : Below w3.heap.size W5 w6 := HX6.out.2.2.below HB35.out.size (fun k hk => hk.elim (fun e => by rw [e]; exact HG3.out) (fun e => by simp [Value.ownBlock] at e)); have HB37 := Lib.hid (HB35.out.trans (h36.trans (hb7.mono (Nat.le_trans HB35.out.size h36.size)))); clear h36; have hn7 : Blk w7 gn 118 [.int .i64 (S : Int), .int .i64 0, .int .i64 1, .slice NA E.length nc] := ((HX6.out.2.2.blk HN5.out (fun h => h.elim (fun e => by omega) (fun e => by simp [Value.ownBlock] at e))).below hb7 (by have := HX6.out.2.2.size; have := HS5.out; omega)); have n0 := hn7.cell 0; have n1 := hn7.cell 1; have n2 := hn7.cell 2; have n3 := hn7.cell 3; simp only [List.getElem?_cons_zero, List.getElem?_cons_succ] at n0 n1 n2 n3; clear hb7 heg hn7)
        | (go_at_call 62; refine (HPC.out _ HB37.out).mono ?_; rintro e w8 ⟨pv, rfl, hpv, hb8⟩; have hp9 := hpv; obtain ⟨PA, pc9, rfl⟩ := own_form hp9; have HPV := Lib.hid (And.intro hpv hb8); clear hpv hb8 hp9)
      obtain ⟨i3, hi3, hz3, hs3, hb3⟩ := info_parts info3
      have hgoB : go < w6.heap.size := by have := HX6.out.2.2.size; have := HS5.out; omega
      have h67 := HB7.out.1.size
      have hv6 : ∀ k, v6.ownBlock = some k → k < w6.heap.size := fun k hk => (HX6.out.2.1.lt k hk).2
      have hstart : TkS w1 w6.heap.size ge gm D a.nm (fun p q => H14.rankTo (H14.inD []) c.merges p q a.nm) go (.slice PA P.length pc9) P v6 ([] ++ upI a.nm c.before) w8 := by
        have he := HB7.out.2
        have h68 := HB7.out.1.trans (HPV.out.2.mono h67)
        refine ⟨HB6.out.trans (h68.mono HB6.out.size), ⟨.slice none 0 0, .slice none 0 0, 0, he.go HPV.out.2, fun k hk ht => ?_, fun k hk ht => ?_⟩, HX6.out.1.below h68 hgoB, own_keep HX6.out.2.1 h68 (Nat.le_refl _), own_base HPV.out.1 h67, hgolo, hgoB, h68.size⟩
        · have := hv6 k hk
          have := ts_ge he k ht
          omega
        · have := (HPV.out.1.lt k hk).1
          have := ts_lt he k ht
          omega
      have HST := Lib.hid hstart
      have hP1 : ∀ p, p ∈ P → 1 ≤ p.size ∧ p.size ≤ x.size := by rw [HP.out]; exact chunksF_size (toT_lo _ _) (toT_hi _ _) _ _
      have HP1 := Lib.hid hP1
      have hPj : (P.flatMap (·.data.toList)).length ≤ 1920 := by rw [HP.out, pieces_join, T12.size_data]; exact hxz
      have HPJ := Lib.hid hPj
      have hPl : P.length ≤ 1920 := by rw [HP.out]; exact Nat.le_trans (chunksF_len _ _) hxz
      have hob : ([] ++ upI a.nm c.before).length ≤ 32 := by
        have := HRO.out.before.few
        simpa [upI] using this
      obtain ⟨o6, ho6⟩ : ∃ o6, o6 = [] ++ upI a.nm c.before := ⟨_, rfl⟩
      rw [← ho6] at HST hob
      have HO6 := Lib.hid ho6
      have HW81 := Lib.hid (show w1.heap.size ≤ w6.heap.size from HB6.out.size)
      clear hstart hP1 hPj ho6 hv6 h67
      go_loopw [51] (fun i wr => ∃ (k : Nat) (v : Value), k ≤ P.length ∧ i = .int .i64 (k : Int) ∧ TkS w1 w6.heap.size ge gm D a.nm (fun p q => H14.rankTo (H14.inD []) c.merges p q a.nm) go (.slice PA P.length pc9) P v (o6 ++ piecesI c.merges (P.take k)) wr) (fun i _ => P.length - (intOf i).toNat)
      case atStart => exact ⟨0, v6, by omega, rfl, by simpa [piecesI] using HST.out⟩
      case round =>
        obtain ⟨k, v, hk, rfl, hT⟩ := hrel
        have HTK := Lib.hid hT
        have hol : (o6 ++ piecesI c.merges (P.take k)).length ≤ 2000 := by
          have h1 := piecesI_le c.merges (P.take k)
          have h2 := take_join_le P k
          have h3 := HPJ.out
          rw [List.length_append]
          omega
        obtain ⟨oc, hoc⟩ : ∃ oc, oc = o6 ++ piecesI c.merges (P.take k) := ⟨_, rfl⟩
        rw [← hoc] at HTK hol
        have HOC := Lib.hid hoc
        clear hT hoc
        by_cases hlt : k < P.length
        · obtain ⟨gp, cp, hpe, _, hgpl⟩ := HTK.out.pcs.form (by omega)
          obtain rfl : PA = some ⟨gp, 0, none⟩ := by injection hpe
          have hpm : P.getD k ⟨#[]⟩ ∈ P := getD_mem hlt
          have hps := HP1.out _ hpm
          have htk := take_next P k ⟨#[]⟩ hlt
          obtain ⟨p, hp⟩ : ∃ p, p = P.getD k ⟨#[]⟩ := ⟨_, rfl⟩
          have hpcell : wr.cell? ⟨gp, k, none⟩ = some (.string p) := by
            rw [HTK.out.pcs.cellAt k (by omega), hp]
            simp [strsV, hlt]
          rw [← hp] at hps htk
          have HAS := Lib.hid (HTK.out.ask (H14.rank_small _ _ _ hnm) p (by omega))
          have HSN := Lib.hid (show o6 ++ piecesI c.merges (P.take (k + 1)) = oc ++ pieceI c.merges p by rw [htk, piecesI_snoc, ← List.append_assoc, ← HOC.out])
          have HPP := Lib.hid (And.intro (pieceI_pos c.merges p hps.1) (Nat.le_trans (pieceI_le c.merges p) (by omega : p.size ≤ 1920)))
          have HTD := Lib.hid (fun (oo : List Int) (h : H14.mergeF (fget (fun p q => H14.rankTo (H14.inD []) c.merges p q a.nm)) 1280 (bytesI p) = some oo) => show oo = pieceI c.merges p from piece_told (by have := HML.out; omega) (by rw [HML.out]; exact h))
          have HLT := Lib.hid hlt
          clear hpm hps htk hp
          go_wp2_with first
            | (go_at_call 63; refine HAS.out.mono ?_; rintro e w9 ⟨Ao, oo, co, rfl, hm9, hT9, ho9⟩; have hoo := HTD.out oo hm9; subst hoo; obtain ⟨ga, ca9, hga, _, _⟩ := ho9.form HPP.out.1; obtain rfl : Ao = some ⟨ga, 0, none⟩ := (by injection hga); have e0 := hT9.box.cell 0; have HT9 := Lib.hid (And.intro hT9 ho9); simp only [List.getElem?_cons_zero] at e0; clear hm9 hT9 ho9 hga)
            | (at_builtin; refine wpList_append_own_at _ rfl (.tmp 64) (.tmp 65) 32 rfl w1.heap.size 3 i3 (.int .i64 0) 1 8 Try.underlying32 hi3 hz3 hs3 hb3 rfl (by decide) v oc.length (numsV .i64 oc) rfl HT9.out.1.row ⟨ga, 0, none⟩ (pieceI c.merges p).length co (numsV .i64 (pieceI c.merges p)) rfl (by simp [numsV]) (fun j u h => HT9.out.2.cells (g := ga) rfl j u h) (fun u hu => by obtain ⟨y, _, rfl⟩ := List.mem_map.1 hu; rfl) (by have := HPP.out.2; unfold maxLen; omega) (by have := HPP.out.2; omega) HT9.out.1.bel.size ?_; intro v10 w10 hown10 hgrow10 _ hwh10; have hb10 : Blk w10 go 32 [v] := (hgrow10.block go HT9.out.1.box.lt (fun e => box_ne HT9.out.1.box HT9.out.1.row e.symm)).trans HT9.out.1.box; have x0 := hb10.cell 0; have g0 := hb10.frozen 0; simp only [List.getElem?_cons_zero] at x0; obtain ⟨A10, c10, rfl⟩ := own_form hown10; have HG10 := Lib.hid (And.intro hown10 (And.intro hgrow10 hwh10)); clear hown10 hgrow10 hwh10 hb10)
          go_roundw
          case rel =>
            refine ⟨k + 1, .slice A10 (oc.length + (pieceI c.merges p).length) c10, by have := HLT.out; omega, by go_num, ?_⟩
            rw [HSN.out]
            exact HT9.out.1.grow HG10.out.1 HG10.out.2.1 HG10.out.2.2
          case measure => have := HLT.out; simp [intOf]; omega
        · obtain rfl : k = P.length := by omega
          have hfull : P.take P.length = P := List.take_of_length_le (Nat.le_refl _)
          rw [hfull] at HOC
          have y9 := GO.out _ HTK.out.bel _ _ q9
          have y12 := GO.out _ HTK.out.bel _ _ q12
          have HSA := Lib.hid (special_any w1.heap.size w.heap.size go a.M a.nm a.cm a.A a.na a.ca c.after oc v wr y9 HTK.out.box HTK.out.row HTK.out.bel.size (by have := HTK.out.bel.size; omega) hgcgo (fun e => by have := (HTK.out.row.lt _ e).1; omega) HC.out.alen (by have := HRO.out.after.few; have := HC.out.alen; omega) (HC.out.aarr.below HTK.out.bel) (fun j hj => HRG.out _ HRO.out.after j (by rw [HC.out.alen]; exact hj)) hnm (by omega) hgolo)
          go_wp2_with (go_at_call 60; refine HSA.out.mono ?_; rintro e w11 ⟨rfl, v11, hx11, hr11, hu11, _⟩; have z0 := hx11.cell 0; simp only [List.getElem?_cons_zero] at z0; have HX11 := Lib.hid (And.intro hr11 hu11); clear hx11 hr11 hu11)
          go_ret2
          have hfin : to9 = oc ++ upI a.nm c.after := by
            rw [HTO.out, HOC.out, HO6.out, HP.out]
            unfold tokL
            rw [HML.out, List.nil_append]
          rw [hfin]
          exact ⟨_, rfl, own_base HX11.out.1 HB.out.size, HB.out.trans ((HTK.out.bel.trans (HX11.out.2.below HTK.out.bel.size (fun k hk => hk.elim (fun e => by rw [e]; exact hgolo) (fun e => (HTK.out.row.lt _ e).1)))).mono HB.out.size)⟩
  · have e0 : (ce != 0) = true := by simpa using h0
    have ht := HT.out
    rw [tokR_cfg (by rw [← HCE.out]; exact h0), ← HCE.out] at ht
    injection ht with h1 h2
    subst h1 h2
    rw [normR_cfg (by rw [← HCE.out]; exact h0), ← HCE.out] at hnr
    have HNR := Lib.hid hnr
    clear hnr
    go_enter Try.func30, Try.ntmps30
    go_upto_region 1 with (fail)
    rw [← hw1]
    clear hw1
    go_wp2_with (go_at_call 28; refine HNR.out.mono ?_; rintro e w2 ⟨rfl, hb2⟩; have HB2 := Lib.hid hb2; clear hb2)
    go_ret2
    exact ⟨_, rfl, World.ownsRow_nil _ _ _ _, HB.out.trans (HB2.out.mono HB.out.size)⟩
end Go.Proofs.Ytfjgfabochiflaa
