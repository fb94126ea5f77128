/- HeapAgrees, with its arguments laid open. -/
import Derived.Test.YtklklmaclaohaaaXJoin
namespace Go.Proofs.Ytklklmaclaohaaa
open Go.RowKit Go.Maps Go.WideMaps
set_option maxRecDepth 100000 in
set_option maxHeartbeats 8000000 in
theorem law_hagrees (A : Option Addr) (n c : Nat) (l : List (Int × Int)) (s0 : ByteArray) (w : World) (hl : l.length = n) (hn : n ≤ 140737488355328) (h1 : Arr w w.heap.size 2 A n (PairC l)) :
    Calls Try.prog 6 #[.slice A n c, .string s0] w fun e w' => e = .returned (.bool true) ∧ Below w.heap.size w w' := by
  have H1 := Lib.hid h1
  have HS := Lib.hid (short_any s0 400 (by omega))
  obtain ⟨s, hs⟩ : ∃ s, s = cutS s0 400 := ⟨_, rfl⟩
  have hss : s.size ≤ 400 := by rw [hs]; exact cutS_le s0 400
  rw [← hs] at HS
  clear h1 hs
  have HT := Lib.hid (fun W (h : Arr W W.heap.size 2 A n (PairC l)) => R13.tokens_any A n c l s W hl hn (by omega) h)
  obtain ⟨ap, hap⟩ : ∃ ap, ap = R13.apply l (bytesI s) := ⟨_, rfl⟩
  rw [← hap] at HT
  have HAP := Lib.hid hap
  clear hap
  go_enter Try.func6, Try.ntmps6
  go_wp2_with fail
  refine (alive_any _).mono ?_
  rintro e w1 ⟨rfl, hb1⟩
  have HB1 := Lib.hid hb1
  clear hb1
  go_wp2_with fail
  refine (new_nil A n c l _ hl hn ((H1.out.below HB1.out).more HB1.out.size)).mono ?_
  rintro e w3 ⟨hb3, hr⟩
  have HB3 := Lib.hid (HB1.out.trans (hb3.mono HB1.out.size))
  rcases hr with ⟨h0, rfl⟩ | ⟨h0, ge, gm, D, rfl, hE⟩
  · have e0 : ((texts l).2 != 0) = true := by simpa using h0
    have hf : ap.2 = (texts l).2 := by rw [HAP.out]; unfold R13.apply; rw [if_pos h0]
    have HF := Lib.hid hf
    obtain ⟨er, her⟩ : ∃ er, er = (texts l).2 := ⟨_, rfl⟩
    rw [← her] at HF e0 ⊢
    have ee : (er == er) = true := by simp
    clear hb3 hf h0 her
    go_wp2_with fail
    refine (HS.out _).mono ?_
    rintro e w4 ⟨rfl, rfl⟩
    go_wp2_with fail
    refine (HT.out _ ((H1.out.below HB3.out).more HB3.out.size)).mono ?_
    rintro e w5 ⟨v, rfl, _, hb5⟩
    rw [HF.out]
    have HB5 := Lib.hid (HB3.out.trans (hb5.mono HB3.out.size))
    clear hb5
    go_wp2_with fail
    go_returns
    exact ⟨by first | rfl | simp, HB5.out⟩
  · have hn1 : n ≤ 1024 := by rw [← hl]; exact (texts_valid h0).1
    have hE2 : EngIn w3 w.heap.size ge gm (.slice none 0 0) D n (fun a b => rankTo noDrop l a b n) := ⟨by have := hE.geB; have := HB1.out.size; omega, by have := hE.gmB; have := HB1.out.size; omega, hE.ne, hE.box, hE.map, hE.rk⟩
    have HF := Lib.hid (rank_small noDrop l n hn1)
    have HG3 := Lib.hid (show AG w w3 ge gm (.slice none 0 0) (.slice none 0 0) 0 D n (fun a b => rankTo noDrop l a b n) from ⟨HB3.out, Eg.start hE2⟩)
    have hap2 : ap = (R13.mergeAll l (bytesI s), 0) := by
      rw [HAP.out]
      unfold R13.apply
      rw [if_neg (by simpa using h0), if_neg (by rw [length_bytesI]; omega), if_neg (by rw [bytes_ok]; simp)]
    have HM := Lib.hid (merge_def (F := fun a b => rankTo noDrop l a b n) (l := l) (by omega) (fun a b _ _ => by rw [rankTo_none]; unfold R13.rank; rw [hl]) s)
    subst hap2
    generalize (fun a b => rankTo noDrop l a b n) = F at HF HG3 HM
    obtain ⟨o, ho⟩ : ∃ o, o = R13.mergeAll l (bytesI s) := ⟨_, rfl⟩
    rw [← ho] at HT HM
    clear hb3 hE hE2 h0 HAP ho
    dsimp only at HT
    go_wp2_with fail
    refine (HS.out _).mono ?_
    rintro e w4 ⟨rfl, rfl⟩
    go_wp2_with fail
    refine (HT.out _ ((H1.out.below HB3.out).more HB3.out.size)).mono ?_
    rintro e w5 ⟨v, rfl, hown, hb5⟩
    have hg5 := HG3.out.go hb5
    have hr5 : RowA w5 w.heap.size v o (TS ge (.slice none 0 0) (.slice none 0 0)) := by
      obtain ⟨Av, cv, rfl⟩ := own_form hown
      refine ⟨Av, cv, rfl, own_base hown HB3.out.size, fun k hk e9 => ?_⟩
      have h9 := (hown.lt k hk).1
      rcases e9 with rfl | e9 | e9
      · have := HG3.out.eg.box.lt; omega
      · cases e9
      · cases e9
    have H5 := Lib.hid (And.intro hg5 hr5)
    clear hown hb5 hg5 hr5 HG3
    go_wp2_with fail
    refine (H5.out.1.ask HF.out s (by omega)).mono ?_
    rintro e w6 ⟨z, oz, fv6, bv6, rfl, hmz, hg6, hz6, hk6⟩
    obtain rfl : oz = o := by rw [HM.out] at hmz; injection hmz with hmz; exact hmz.symm
    have hv6 := hk6 _ _ H5.out.2
    obtain ⟨Az, cz, rfl, hlz, haz⟩ := hz6.arr
    obtain ⟨Av, cv, rfl, hlv, hav⟩ := hv6.arr
    have HG6 := Lib.hid hg6
    have HI := Lib.hid (ints_any Az Av oz.length oz.length cz cv w6.heap.size oz oz w6 rfl rfl (by omega) (by omega) haz hav)
    have e9 : decide (oz = oz) = true := by simp
    clear hmz hg6 hz6 hk6 hv6 haz hav
    go_wp2_with fail
    refine HI.out.mono ?_
    rintro e w7 ⟨rfl, m7, rfl⟩
    go_wp2_with fail
    go_returns
    exact ⟨by first | rfl | simp, (HG6.out.go (below_drewN (Below.refl _ _) _)).bel⟩
end Go.Proofs.Ytklklmaclaohaaa
