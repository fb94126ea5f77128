/- HeapTokens, with its arguments laid open. -/
import Derived.Test.YtklklmaclaohaaaRDrop
import Derived.Test.YtklklmaclaohaaaRT
namespace Go.Proofs.Ytklklmaclaohaaa
open Go.RowKit Go.Maps Go.WideMaps
set_option maxRecDepth 100000 in
set_option maxHeartbeats 8000000 in
theorem law_htokens (A A1 : Option Addr) (n c n1 c1 : Nat) (l : List (Int × Int)) (d : List Int) (s0 : ByteArray) (w : World) (hl : l.length = n) (hn : n ≤ 140737488355328) (h1 : Arr w w.heap.size 2 A n (PairC l)) (hl1 : d.length = n1) (hn1 : n1 ≤ 140737488355328) (hd : Arr w w.heap.size 1 A1 n1 (IntC d)) :
    Calls Try.prog 3 #[.slice A n c, .slice A1 n1 c1, .string s0] w fun e w' => e = .returned (.bool true) ∧ Below w.heap.size w w' := by
  have H1 := Lib.hid h1
  have HD := Lib.hid hd
  have HS := Lib.hid (short_any s0 60 (by omega))
  obtain ⟨s, hs⟩ : ∃ s, s = cutS s0 60 := ⟨_, rfl⟩
  have hss : s.size ≤ 60 := by rw [hs]; exact cutS_le s0 60
  rw [← hs] at HS
  have HN := Lib.hid (new_any A A1 n c n1 c1 l d w hl hn h1 hl1 hn1 hd)
  have HX := Lib.hid (fun W (h : Arr W W.heap.size 2 A n (PairC l)) => rtexts_any A n c l W hl hn h)
  have HDR := Lib.hid (fun W (h : Arr W W.heap.size 1 A1 n1 (IntC d)) => drop_any A1 n1 c1 n d W hl1 hn1 h)
  have HRT := Lib.hid (fun (hn2 : n ≤ 1024) W h h2 => rtokens_any A A1 n c n1 c1 l d s W hl hn2 h hl1 hn1 h2 (by omega))
  have HL := Lib.hid (And.intro hl hl1)
  clear h1 hd hs hl hl1
  go_enter Try.func3, Try.ntmps3
  go_wp2_with fail
  refine HN.out.mono ?_
  rintro e w1 ⟨hb1, hr⟩
  have HB1 := Lib.hid hb1
  rcases hr with ⟨h0, rfl⟩ | ⟨h0, hdb, rfl⟩ | ⟨h0, hdb, ge, gm, D, rfl, hE⟩
  · obtain ⟨er, her⟩ : ∃ er, er = (texts l).2 := ⟨_, rfl⟩
    rw [← her] at h0 HX ⊢
    have e0 : (er != 0) = true := by simpa using h0
    have ee : (er == er) = true := by simp
    clear hb1 h0 her
    go_wp2_with fail
    refine (HX.out w1 ((H1.out.below HB1.out).more HB1.out.size)).mono ?_
    rintro e w2 ⟨v, rfl, _, hb2⟩
    have HB2 := Lib.hid (HB1.out.trans (hb2.mono HB1.out.size))
    clear hb2
    go_wp2_with fail
    go_returns
    exact ⟨by first | rfl | simp, HB2.out⟩
  · have H0 := Lib.hid h0
    rw [h0] at HX
    rw [hdb] at HDR
    clear hb1 h0 hdb
    go_wp2_with fail
    refine (HX.out w1 ((H1.out.below HB1.out).more HB1.out.size)).mono ?_
    rintro e w2 ⟨v, rfl, _, hb2⟩
    have HB2 := Lib.hid (HB1.out.trans (hb2.mono HB1.out.size))
    clear hb2
    go_wp2_with fail
    refine (HDR.out w2 ((HD.out.below HB2.out).more HB2.out.size)).mono ?_
    rintro e w3 ⟨rfl, rfl⟩
    go_wp2_with fail
    go_returns
    exact ⟨by first | rfl | simp, HB2.out⟩
  · have hn2 : n ≤ 1024 := by rw [← HL.out.1]; exact (texts_valid h0).1
    have HF := Lib.hid (rank_small (inD d) l n hn2)
    have HM := Lib.hid (merge_def (F := fun a b => rankTo (inD d) l a b n) (l := keptTo d l n) (by rw [length_keptTo]; exact hn2) (fun a b ha _ => by
      unfold R13.rank
      rw [length_keptTo]
      exact rank_kept d l n a b ha n (Nat.le_refl _)) s)
    have HG1 := Lib.hid (show AG w w1 ge gm (.slice none 0 0) (.slice none 0 0) 0 D n (fun a b => rankTo (inD d) l a b n) from ⟨HB1.out, Eg.start hE⟩)
    generalize (fun a b => rankTo (inD d) l a b n) = F at HF HG1 HM
    have HRU := Lib.hid (HRT.out hn2)
    obtain ⟨o, ho⟩ : ∃ o, o = R13.mergeAll (keptTo d l n) (bytesI s) := ⟨_, rfl⟩
    rw [← ho] at HRU HM
    rw [h0] at HX
    rw [hdb] at HDR
    clear hb1 hE h0 hdb ho HRT
    go_wp2_with fail
    refine (HX.out w1 ((H1.out.below HB1.out).more HB1.out.size)).mono ?_
    rintro e w2 ⟨v, rfl, _, hb2⟩
    have HG2 := Lib.hid (HG1.out.go hb2)
    clear hb2 HG1
    go_wp2_with fail
    refine (HDR.out w2 ((HD.out.below HG2.out.bel).more HG2.out.bel.size)).mono ?_
    rintro e w3 ⟨rfl, rfl⟩
    go_wp2_with fail
    refine (HS.out _).mono ?_
    rintro e w4 ⟨rfl, rfl⟩
    go_wp2_with fail
    refine (HG2.out.ask HF.out s (by omega)).mono ?_
    rintro e w6 ⟨z, oz, fv6, bv6, rfl, hmz, hg6, hz6, hk6⟩
    obtain rfl : oz = o := by rw [HM.out] at hmz; injection hmz with hmz; exact hmz.symm
    have HG6 := Lib.hid hg6
    obtain ⟨Az, cz, rfl, hlz, haz⟩ := hz6.arr
    have HZ := Lib.hid haz
    clear hmz hg6 hz6 hk6 haz
    go_wp2_with fail
    refine (HRU.out w6 ((H1.out.below HG6.out.bel).more HG6.out.bel.size) ((HD.out.below HG6.out.bel).more HG6.out.bel.size)).mono ?_
    rintro e w7 ⟨v7, rfl, hown7, hb7⟩
    obtain ⟨A7, c7, rfl⟩ := own_form hown7
    have HG7 := Lib.hid (HG6.out.go hb7)
    have HI := Lib.hid (ints_any Az A7 oz.length oz.length cz c7 w7.heap.size oz oz w7 rfl rfl (by omega) (by omega) ((HZ.out.below hb7).more hb7.size) (own_ints (q := .i64) hown7))
    have e9 : decide (oz = oz) = true := by simp
    clear hown7 hb7
    go_wp2_with fail
    refine HI.out.mono ?_
    rintro e w8 ⟨rfl, m7, rfl⟩
    go_wp2_with fail
    go_returns
    exact ⟨by first | rfl | simp, (HG7.out.go (below_drewN (Below.refl _ _) _)).bel⟩
end Go.Proofs.Ytklklmaclaohaaa
