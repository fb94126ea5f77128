/- TokFrames, with its configuration and text laid open. -/
import Derived.Test.YtfjgfabochiflaaLLoTc
import Derived.Test.YtfjgfabochiflaaHSmTc
import Derived.Deep.Cut
import Derived.Deep.CutRange
namespace Go.Proofs.Ytfjgfabochiflaa
open Go.RowKit
open H14 (Blk But TS Eg numsV bytesI fget)

/-- a configuration without ids ahead and behind -/
def bareC (c : Cfg) : Cfg := { c with before := [], after := [] }
def bareA (a : CfgAd) : CfgAd := { a with B := none, nb := 0, cb := 0, A := none, na := 0, ca := 0 }
theorem bare_in {w : World} {c : Cfg} {a : CfgAd} (h : CfgIn w c a) : CfgIn w (bareC c) (bareA a) :=
  ⟨h.plen, h.ple, h.parr, h.prow, h.prl, h.psz, h.tree, h.wf, h.mlen, h.mle, h.marr, h.nlen, h.nle, h.ncap, h.narr, rfl, by show 0 ≤ _; omega, fun h9 => absurd h9 (by show ¬ 0 < 0; omega), rfl, by show 0 ≤ _; omega, fun h9 => absurd h9 (by show ¬ 0 < 0; omega)⟩
theorem frame_nil (n : Nat) : FrameOk [] n := ⟨by simp, fun h => by obtain ⟨j, hj, _⟩ := h; exact absurd hj (by simp)⟩
theorem bare_ok {c : Cfg} (h : cfgE c = 0) : cfgE (bareC c) = 0 := by
  obtain ⟨hF, hR⟩ := cfgE_zero h
  exact cfgE_ok ⟨hF.few, hF.pass, hF.grow, hF.split, hF.size, hF.merges⟩ ⟨hR.few, hR.names, frame_nil _, frame_nil _⟩
theorem tokL_bare (c : Cfg) (x : ByteArray) : tokL c x = upI c.merges.length c.before ++ tokL (bareC c) x ++ upI c.merges.length c.after := by
  have h : tokL (bareC c) x = piecesI c.merges (piecesT c.split x) := by
    unfold tokL
    show upI c.merges.length [] ++ piecesI c.merges (piecesT c.split x) ++ upI c.merges.length [] = _
    simp [upI]
  rw [h]
  rfl
theorem mid_take (a b c : List Int) : ((a ++ b ++ c).drop a.length).take b.length = b := by
  rw [List.append_assoc, List.drop_left, List.take_left]
theorem mid_lo (a b c : List Int) (i : Nat) (h : i < a.length) : (a ++ b ++ c).getD i 0 = a.getD i 0 := by
  rw [List.append_assoc, List.getD, List.getElem?_append_left h]
  rfl
theorem mid_hi (a b c : List Int) (i : Nat) : (a ++ b ++ c).getD (a.length + b.length + i) 0 = c.getD i 0 := by
  rw [List.getD, List.getElem?_append_right (by rw [List.length_append]; omega), List.length_append, Nat.add_sub_cancel_left]
  rfl
theorem up_at (N : Nat) (l : List Int) (i : Nat) (h : i < l.length) : (upI N l).getD i 0 = 256 + (N : Int) + l.getD i 0 := by
  simp [upI, h]

set_option maxRecDepth 100000 in
theorem own_sliceI {w : World} {base n c : Nat} {A : Option Addr} {xs : List Int} (h : w.ownsRow base 3 1 (.slice A n c) n (numsV .i64 xs)) (hx : xs.length = n) (l k : Nat) (hlk : l + k ≤ n) :
    ∃ S sc, (∀ W, (Instr.slice 32 (.slice A n c) (some (.int .i64 (l : Int))) (some (.int .i64 ((l : Int) + (k : Int)))) none).run Try.prog W = .ok (.slice S k sc) W) ∧ Arr w w.heap.size 1 S k (H14.IntC ((xs.drop l).take k)) := by
  have h1 : Try.prog.underlying 32 = some (.slice (Try.prog.elem 32)) := by kernel_rfl
  have h2 : Try.prog.elem 32 = 3 := by kernel_rfl
  have ha := H14.own_ints h
  have hc : n ≤ c := by
    rcases h.2 with ⟨he, hn⟩ | ⟨g, cap, cur, he, _, _, hle, _⟩
    · omega
    · have : c = cap := by injection he
      omega
  have e1 : ((l : Int)).toNat = l := by omega
  have e2 : ((l : Int) + (k : Int)).toNat = l + k := by omega
  refine ⟨if c = l then A else A.map (·.add (l * 1)), c - l, fun W => ?_, fun hk => ?_⟩
  · rw [run_slice_lh W 32 A n c h1 .i64 .i64 (l : Int) ((l : Int) + (k : Int)) (by omega) (by omega) (by omega), h2, Try.sizeOf3]
    simp [Result.andThen, sliced, e2, Nat.add_sub_cancel_left]
  · obtain ⟨b, o, hA, hlt, hcell⟩ := ha (by omega)
    refine ⟨b, o + l, ?_, hlt, fun j i hj hi => ?_⟩
    · rw [if_neg (by omega), hA]
      show some ((⟨b, o, none⟩ : Addr).add (l * 1)) = _
      rw [H14.add_plain', Nat.mul_one]
    · have := hcell (l + j) i (by omega) hi
      rw [show o + l + (j * 1 + i) = o + ((l + j) * 1 + i) by omega, this]
      congr 1
      unfold H14.IntC
      have h9 : l + j < xs.length := by omega
      simp [h9, hj]

set_option maxRecDepth 100000 in
set_option maxHeartbeats 16000000 in
theorem law_frames (c : Cfg) (a : CfgAd) (s : ByteArray) (W : World) (h : CfgIn W c a) :
    Calls Try.prog 9 #[.agg #[.slice a.P a.np a.cp, .int .i64 c.split.kind, .int .u64 c.split.s0, .int .u64 c.split.s1, .int .u64 c.split.s2, .int .u64 c.split.s3, .int .i64 c.split.lo, .int .i64 c.split.hi, .slice a.T a.nt a.ct, .slice a.M a.nm a.cm, .slice a.N a.nn a.cn, .slice a.B a.nb a.cb, .slice a.A a.na a.ca], .string s] W fun e w' => e = .returned (.bool true) ∧ Below W.heap.size W w' := by
  obtain ⟨w1, hw1⟩ : ∃ w1, w1 = W.alloc (.cells #[.slice a.P a.np a.cp, .int .i64 c.split.kind, .int .u64 c.split.s0, .int .u64 c.split.s1, .int .u64 c.split.s2, .int .u64 c.split.s3, .int .i64 c.split.lo, .int .i64 c.split.hi, .slice a.T a.nt a.ct, .slice a.M a.nm a.cm, .slice a.N a.nn a.cn, .slice a.B a.nb a.cb, .slice a.A a.na a.ca] 34) := ⟨_, rfl⟩
  have hb0 : Below W.heap.size W w1 := by rw [hw1]; exact (Below.refl _ _).alloc (Nat.le_refl _) _
  have hgl : W.heap.size < w1.heap.size := by rw [hw1]; simp
  have q0 : w1.cell? ⟨W.heap.size, 0, none⟩ = some (.slice a.P a.np a.cp) := by rw [hw1]; simp
  have q1 : w1.cell? ⟨W.heap.size, 1, none⟩ = some (.int .i64 c.split.kind) := by rw [hw1]; simp
  have q2 : w1.cell? ⟨W.heap.size, 2, none⟩ = some (.int .u64 c.split.s0) := by rw [hw1]; simp
  have q3 : w1.cell? ⟨W.heap.size, 3, none⟩ = some (.int .u64 c.split.s1) := by rw [hw1]; simp
  have q4 : w1.cell? ⟨W.heap.size, 4, none⟩ = some (.int .u64 c.split.s2) := by rw [hw1]; simp
  have q5 : w1.cell? ⟨W.heap.size, 5, none⟩ = some (.int .u64 c.split.s3) := by rw [hw1]; simp
  have q6 : w1.cell? ⟨W.heap.size, 6, none⟩ = some (.int .i64 c.split.lo) := by rw [hw1]; simp
  have q7 : w1.cell? ⟨W.heap.size, 7, none⟩ = some (.int .i64 c.split.hi) := by rw [hw1]; simp
  have q8 : w1.cell? ⟨W.heap.size, 8, none⟩ = some (.slice a.T a.nt a.ct) := by rw [hw1]; simp
  have q9 : w1.cell? ⟨W.heap.size, 9, none⟩ = some (.slice a.M a.nm a.cm) := by rw [hw1]; simp
  have q10 : w1.cell? ⟨W.heap.size, 10, none⟩ = some (.slice a.N a.nn a.cn) := by rw [hw1]; simp
  have q11 : w1.cell? ⟨W.heap.size, 11, none⟩ = some (.slice a.B a.nb a.cb) := by rw [hw1]; simp
  have q12 : w1.cell? ⟨W.heap.size, 12, none⟩ = some (.slice a.A a.na a.ca) := by rw [hw1]; simp
  have HC := Lib.hid (h.keep hb0)
  have HB := Lib.hid hb0
  have GO := Lib.hid (fun (w2 : World) (hb : Below w1.heap.size w1 w2) (j : Nat) (v : Value) (hv : w1.cell? ⟨W.heap.size, j, none⟩ = some v) => (hb.cell (p := ⟨W.heap.size, j, none⟩) hgl).trans hv)
  have HCW := Lib.hid h
  have hcz := H14.cutS_le s 60
  have HSH := Lib.hid (fun (w2 : World) => short27_any s 60 (by omega) w2)
  obtain ⟨s', hs'⟩ : ∃ s', s' = H14.cutS s 60 := ⟨_, rfl⟩
  rw [← hs'] at HSH hcz
  have HTK := Lib.hid (fun (w2 : World) (hb : Below w1.heap.size w1 w2) => tok_any c a s' w2 (HC.out.keep hb) (.inl hcz))
  have hlong : ¬ 4096 < s'.size := by omega
  clear hs' h hb0
  by_cases h0 : cfgE c = 0
  · have hF := (cfgE_zero h0).1
    have hRO := (cfgE_zero h0).2
    have HTB := Lib.hid (fun (w2 : World) (hb : Below W.heap.size W w2) => show Calls Try.prog 30 #[.agg #[.slice a.P a.np a.cp, .int .i64 c.split.kind, .int .u64 c.split.s0, .int .u64 c.split.s1, .int .u64 c.split.s2, .int .u64 c.split.s3, .int .i64 c.split.lo, .int .i64 c.split.hi, .slice a.T a.nt a.ct, .slice a.M a.nm a.cm, .slice a.N a.nn a.cn, .slice none 0 0, .slice none 0 0], .string s'] w2 fun e w' => ∃ v, e = .returned (.tuple #[v, .int .i64 (tokR (bareC c) s').2]) ∧ w'.ownsRow w2.heap.size 3 1 v (tokR (bareC c) s').1.length (numsV .i64 (tokR (bareC c) s').1) ∧ Below w2.heap.size w2 w' from tok_any (bareC c) (bareA a) s' w2 (bare_in (HCW.out.keep hb)) (.inl hcz))
    have hnx := norm_small hF (s := s') c.passes.length (Nat.le_refl _)
    obtain ⟨x, hx⟩ : ∃ x, x = normB c s' := ⟨_, rfl⟩
    have hxz : x.size ≤ 1920 := by rw [hx]; exact Nat.le_trans hnx (by omega)
    rw [tokR_ok (bare_ok h0) hlong, show normB (bareC c) s' = x from hx.symm] at HTB
    rw [tokR_ok h0 hlong, ← hx] at HTK
    have hlen := (tokL_len (c := bareC c) x).1
    rw [show (bareC c).before.length = 0 from rfl, show (bareC c).after.length = 0 from rfl] at hlen
    have hbl := HC.out.blen
    have hal := HC.out.alen
    have hml := HC.out.mlen
    have hme := HC.out.mle
    have hLM := tokL_bare c x
    obtain ⟨L, hL⟩ : ∃ L, L = tokL c x := ⟨_, rfl⟩
    obtain ⟨M, hM⟩ : ∃ M, M = tokL (bareC c) x := ⟨_, rfl⟩
    rw [← hL, ← hM] at hLM
    rw [← hL] at HTK
    rw [← hM] at HTB hlen
    have hub : (upI c.merges.length c.before).length = a.nb := by rw [← hbl]; simp [upI]
    have hua : (upI c.merges.length c.after).length = a.na := by rw [← hal]; simp [upI]
    have hl3 : L.length = a.nb + M.length + a.na := by rw [hLM, List.length_append, List.length_append, hub, hua]
    have hmid : (L.drop a.nb).take M.length = M := by rw [hLM, ← hub]; exact mid_take _ _ _
    have HLO := Lib.hid (fun (i : Nat) (hi : i < a.nb) => show L.getD i 0 = 256 + (a.nm : Int) + c.before.getD i 0 by rw [hLM, mid_lo _ _ _ i (by omega), up_at _ _ i (by omega), hml])
    have HHI := Lib.hid (fun (i : Nat) (hi : i < a.na) => show L.getD (a.nb + M.length + i) 0 = 256 + (a.nm : Int) + c.after.getD i 0 by rw [hLM, ← hub, mid_hi _ _ _ i, up_at _ _ i (by omega), hml])
    have HBR := Lib.hid (fun (i : Nat) (hi : i < a.nb) => frame_lo hRO.before i (by omega))
    have HAR := Lib.hid (fun (i : Nat) (hi : i < a.na) => frame_lo hRO.after i (by omega))
    have HNF := Lib.hid hRO.few
    have HMID := Lib.hid hmid
    have HL3 := Lib.hid hl3
    have hb32 : a.nb ≤ 32 := by have := hRO.before.few; omega
    have ha32 : a.na ≤ 32 := by have := hRO.after.few; omega
    have hm9 : M.length ≤ 1920 := by omega
    have hl9 : L.length ≤ 1984 := by omega
    clear hnx hx hF hRO hbl hal hlen hL hM hLM hub hua hl3 hmid hml
    go_enter Try.func9, Try.ntmps9
    go_upto_region 1 with (fail)
    rw [← hw1]
    clear hw1
    go_upto_region 5 with first
      | (go_at_call 27; refine (HSH.out _).mono ?_; rintro e w2 ⟨rfl, hw2⟩; rw [hw2]; clear hw2)
      | (go_at_call 30; refine (HTK.out _ (Below.refl _ _)).mono ?_; rintro e w3 ⟨v, rfl, hv, hb3⟩; have hv9 := hv; obtain ⟨LA, lc, rfl⟩ := own_form hv9; have HB3 := Lib.hid (And.intro hb3 hv); clear hv hv9 hb3; have r0 := GO.out _ HB3.out.1 _ _ q0; have r1 := GO.out _ HB3.out.1 _ _ q1; have r2 := GO.out _ HB3.out.1 _ _ q2; have r3 := GO.out _ HB3.out.1 _ _ q3; have r4 := GO.out _ HB3.out.1 _ _ q4; have r5 := GO.out _ HB3.out.1 _ _ q5; have r6 := GO.out _ HB3.out.1 _ _ q6; have r7 := GO.out _ HB3.out.1 _ _ q7; have r8 := GO.out _ HB3.out.1 _ _ q8; have r9 := GO.out _ HB3.out.1 _ _ q9; have r10 := GO.out _ HB3.out.1 _ _ q10; have r11 := GO.out _ HB3.out.1 _ _ q11; have r12 := GO.out _ HB3.out.1 _ _ q12)
    have hg3 : W.heap.size < w3.heap.size := Nat.lt_of_lt_of_le hgl HB3.out.1.size
    obtain ⟨w5, hw5⟩ : ∃ w5, w5 = w3.alloc (.cells #[.slice a.P a.np a.cp, .int .i64 c.split.kind, .int .u64 c.split.s0, .int .u64 c.split.s1, .int .u64 c.split.s2, .int .u64 c.split.s3, .int .i64 c.split.lo, .int .i64 c.split.hi, .slice a.T a.nt a.ct, .slice a.M a.nm a.cm, .slice a.N a.nn a.cn, .slice a.B a.nb a.cb, .slice a.A a.na a.ca] 34) := ⟨_, rfl⟩
    have hbk : Blk w5 w3.heap.size 34 [.slice a.P a.np a.cp, .int .i64 c.split.kind, .int .u64 c.split.s0, .int .u64 c.split.s1, .int .u64 c.split.s2, .int .u64 c.split.s3, .int .i64 c.split.lo, .int .i64 c.split.hi, .slice a.T a.nt a.ct, .slice a.M a.nm a.cm, .slice a.N a.nn a.cn, .slice a.B a.nb a.cb, .slice a.A a.na a.ca] := by rw [hw5]; exact Blk.new w3 34 _
    have hb35 : Below w3.heap.size w3 w5 := by rw [hw5]; exact (Below.refl _ _).alloc (Nat.le_refl _) _
    go_upto_region 6 with (fail)
    rw [← hw5]
    clear hw5
    have f11 := hbk.frozen 11
    have t11 := hbk.cell 11
    have hbk1 := hbk.set 11 (.slice none 0 0)
    have f12 := hbk1.frozen 12
    have t12 := hbk1.cell 12
    have hb6 := hbk1.set 12 (.slice none 0 0)
    simp only [List.set_cons_zero, List.set_cons_succ, List.getElem?_cons_zero, List.getElem?_cons_succ] at t11 t12
    have hb36 : Below w3.heap.size w3 ((w5.setCell ⟨w3.heap.size, 11, none⟩ (.slice none 0 0)).setCell ⟨w3.heap.size, 12, none⟩ (.slice none 0 0)) := (hb35.setCell (p := ⟨w3.heap.size, 11, none⟩) (Nat.le_refl _) _).setCell (p := ⟨w3.heap.size, 12, none⟩) (Nat.le_refl _) _
    go_upto_region 7 with (fail)
    generalize (w5.setCell ⟨w3.heap.size, 11, none⟩ (.slice none 0 0)).setCell ⟨w3.heap.size, 12, none⟩ (.slice none 0 0) = w6 at hb6 hb36 ⊢
    clear f11 t11 f12 t12 hbk1 hbk hb35
    have u0 := hb6.cell 0
    have u1 := hb6.cell 1
    have u2 := hb6.cell 2
    have u3 := hb6.cell 3
    have u4 := hb6.cell 4
    have u5 := hb6.cell 5
    have u6 := hb6.cell 6
    have u7 := hb6.cell 7
    have u8 := hb6.cell 8
    have u9 := hb6.cell 9
    have u10 := hb6.cell 10
    have u11 := hb6.cell 11
    have u12 := hb6.cell 12
    simp only [List.set_cons_zero, List.set_cons_succ, List.getElem?_cons_zero, List.getElem?_cons_succ] at u0 u1 u2 u3 u4 u5 u6 u7 u8 u9 u10 u11 u12
    have HB6 := Lib.hid (And.intro hb6 hb36)
    clear hb6 hb36
    have HS6 := Lib.hid (fun (w7 : World) (hb7 : Below w6.heap.size w6 w7) => ((H14.own_ints HB3.out.2).below (HB6.out.2.trans (hb7.mono HB6.out.2.size))).more (Nat.le_trans HB6.out.2.size hb7.size))
    have ebw : Below W.heap.size W w6 := HB.out.trans ((HB3.out.1.trans (HB6.out.2.mono HB3.out.1.size)).mono HB.out.size)
    have EBW := Lib.hid ebw
    clear ebw
    go_upto_region 9 with (go_at_call 30; refine (HTB.out _ EBW.out).mono ?_; rintro e w7 ⟨v2, rfl, hv, hb7⟩; have hv9 := hv; obtain ⟨MA, mc, rfl⟩ := own_form hv9; have hg7 := HB3.out.1.trans ((HB6.out.2.trans (hb7.mono HB6.out.2.size)).mono HB3.out.1.size); have y9 := GO.out _ hg7 _ _ q9; have y11 := GO.out _ hg7 _ _ q11; have y12 := GO.out _ hg7 _ _ q12; have y2 := hg7.size; have HV := Lib.hid (And.intro hv (And.intro hb7 hg7)); clear hv hv9 hb7 hg7)
    obtain ⟨S, sc, hsl, hsa⟩ := own_sliceI HB3.out.2 rfl a.nb M.length (by have := HL3.out; omega)
    rw [HMID.out] at hsa
    have HSA := Lib.hid hsa
    clear hsa
    have e1 : ((L.length : Int) != (a.nb : Int) + (M.length : Int) + (a.na : Int)) = false := by have := HL3.out; simp; omega
    have em : decide (M = M) = true := by simp
    go_upto_region 11 with (go_at_call 23; refine (H14.ints_any S MA M.length M.length sc mc w7.heap.size M M w7 rfl rfl (by omega) (by omega) ((HSA.out.below (HB6.out.2.trans (HV.out.2.1.mono HB6.out.2.size))).more (Nat.le_trans HB6.out.2.size HV.out.2.1.size)) (H14.own_ints HV.out.1)).mono ?_; rintro e w8 ⟨rfl, m8, rfl⟩)
    clear hsl e1 em
    go_wp2_with fail
    have y9' : ∀ m, (w7.drewN m).cell? ⟨W.heap.size, 9, none⟩ = some (.slice a.M a.nm a.cm) := fun m => y9
    have y11' : ∀ m, (w7.drewN m).cell? ⟨W.heap.size, 11, none⟩ = some (.slice a.B a.nb a.cb) := fun m => y11
    have y12' : ∀ m, (w7.drewN m).cell? ⟨W.heap.size, 12, none⟩ = some (.slice a.A a.na a.ca) := fun m => y12
    have HN := Lib.hid HNF.out
    go_loopw [70] (fun i wq => ∃ k q : Nat, k ≤ a.nb ∧ i = .int .i64 (k : Int) ∧ wq = w7.drewN q) (fun i _ => a.nb - (intOf i).toNat)
    case atStart => exact ⟨0, _, by omega, rfl, rfl⟩
    case round =>
      obtain ⟨k, q, hk, rfl, rfl⟩ := hrel
      by_cases hlt : k < a.nb
      · obtain ⟨bl, ol, hLA, _, hcl0⟩ := (HS6.out w7 HV.out.2.1).one (k := k) (by have := HL3.out; omega)
        obtain ⟨bb, ob, hBB, _, hcb0⟩ := (HC.out.keep HV.out.2.2).barr.one hlt
        obtain ⟨hv0, hv1⟩ := HBR.out k hlt
        have hn6 := HN.out
        unfold T12.NumC at hcb0
        rw [HLO.out k hlt] at hcl0
        obtain ⟨bv, hbv⟩ : ∃ bv, bv = c.before.getD k 0 := ⟨_, rfl⟩
        rw [← hbv] at hv0 hv1 hcb0 hcl0
        have hv2 : bv ≤ 64 := by omega
        have hcl : ∀ m, (w7.drewN m).cell? ⟨bl, ol + k, none⟩ = some (.int .i64 (256 + (a.nm : Int) + bv)) := fun m => hcl0
        have hcb : ∀ m, (w7.drewN m).cell? ⟨bb, ob + k, none⟩ = some (.int .i64 bv) := fun m => hcb0
        have z3 : (0 : Int) ≤ (k : Int) := by omega
        have z4 : (k : Int) < (L.length : Int) := by have := HL3.out; omega
        have z5 : IntKind.i64.wrap (256 + (a.nm : Int)) = 256 + (a.nm : Int) := IntWalk.i64_in _ (by omega)
        have z6 : IntKind.i64.wrap (256 + (a.nm : Int) + bv) = 256 + (a.nm : Int) + bv := IntWalk.i64_in _ (by omega)
        have z7 : ((256 + (a.nm : Int) + bv) != (256 + (a.nm : Int) + bv)) = false := by simp
        rw [hLA, hBB]
        clear hv1 hn6 hbv hcl0 hcb0
        go_wp2_with fail
        go_quiet (fail)
        go_wp2_with fail
        go_roundw
        case rel => exact ⟨k + 1, _, by omega, by go_num, rfl⟩
        case measure => simp [intOf]; omega
      · obtain rfl : k = a.nb := by omega
        go_upto_block 0 with (fail)
        go_loopw [90] (fun i wq => ∃ k q : Nat, k ≤ a.na ∧ i = .int .i64 (k : Int) ∧ wq = w7.drewN q) (fun i _ => a.na - (intOf i).toNat)
        case atStart => exact ⟨0, _, by omega, rfl, rfl⟩
        case round =>
          obtain ⟨k, q, hk, rfl, rfl⟩ := hrel
          by_cases hlt : k < a.na
          · obtain ⟨bl, ol, hLA, _, hcl0⟩ := (HS6.out w7 HV.out.2.1).one (k := a.nb + M.length + k) (by have := HL3.out; omega)
            obtain ⟨bb, ob, hBB, _, hcb0⟩ := (HC.out.keep HV.out.2.2).aarr.one hlt
            obtain ⟨hv0, hv1⟩ := HAR.out k hlt
            have hn6 := HN.out
            unfold T12.NumC at hcb0
            rw [HHI.out k hlt] at hcl0
            obtain ⟨bv, hbv⟩ : ∃ bv, bv = c.after.getD k 0 := ⟨_, rfl⟩
            rw [← hbv] at hv0 hv1 hcb0 hcl0
            have hv2 : bv ≤ 64 := by omega
            have hcl : ∀ m, (w7.drewN m).cell? ⟨bl, ol + (a.nb + M.length + k), none⟩ = some (.int .i64 (256 + (a.nm : Int) + bv)) := fun m => hcl0
            have hcb : ∀ m, (w7.drewN m).cell? ⟨bb, ob + k, none⟩ = some (.int .i64 bv) := fun m => hcb0
            have z1 : IntKind.i64.wrap ((a.nb : Int) + (M.length : Int)) = (a.nb : Int) + (M.length : Int) := IntWalk.i64_in _ (by omega)
            have z2 : IntKind.i64.wrap ((a.nb : Int) + (M.length : Int) + (k : Int)) = (a.nb : Int) + (M.length : Int) + (k : Int) := IntWalk.i64_in _ (by omega)
            have z3 : (0 : Int) ≤ (a.nb : Int) + (M.length : Int) + (k : Int) := by omega
            have z4 : (a.nb : Int) + (M.length : Int) + (k : Int) < (L.length : Int) := by have := HL3.out; omega
            have z8 : ((a.nb : Int) + (M.length : Int) + (k : Int)).toNat = a.nb + M.length + k := by omega
            have z5 : IntKind.i64.wrap (256 + (a.nm : Int)) = 256 + (a.nm : Int) := IntWalk.i64_in _ (by omega)
            have z6 : IntKind.i64.wrap (256 + (a.nm : Int) + bv) = 256 + (a.nm : Int) + bv := IntWalk.i64_in _ (by omega)
            have z7 : ((256 + (a.nm : Int) + bv) != (256 + (a.nm : Int) + bv)) = false := by simp
            rw [hLA, hBB]
            clear hv1 hn6 hbv hcl0 hcb0
            go_wp2_with fail
            go_quiet (fail)
            go_wp2_with fail
            go_roundw
            case rel => exact ⟨k + 1, _, by omega, by go_num, rfl⟩
            case measure => simp [intOf]; omega
          · obtain rfl : k = a.na := by omega
            go_wp2_with fail
            go_returns
            exact ⟨by first | rfl | simp, below_drewN (EBW.out.trans (HV.out.2.1.mono EBW.out.size)) _⟩
  · rw [tokR_cfg h0] at HTK
    obtain ⟨ce, hce⟩ : ∃ ce, ce = cfgE c := ⟨_, rfl⟩
    rw [← hce] at HTK h0
    have e0 : (ce != 0) = true := by simpa using h0
    have e1 : (((0 : Nat) : Int) == 0) = true := by simp
    clear h0 hce
    go_enter Try.func9, Try.ntmps9
    go_upto_region 1 with (fail)
    rw [← hw1]
    clear hw1
    go_wp2_with first
      | (go_at_call 27; refine (HSH.out _).mono ?_; rintro e w2 ⟨rfl, hw2⟩; rw [hw2]; clear hw2)
      | (go_at_call 30; refine (HTK.out _ (Below.refl _ _)).mono ?_; rintro e w3 ⟨v, rfl, hv, hb3⟩; have hv9 := hv; obtain ⟨LA, lc, rfl⟩ := own_form hv9; have HB3 := Lib.hid hb3; clear hv hv9 hb3)
    go_returns
    exact ⟨by first | rfl | simp, HB.out.trans (HB3.out.mono HB.out.size)⟩
end Go.Proofs.Ytfjgfabochiflaa
