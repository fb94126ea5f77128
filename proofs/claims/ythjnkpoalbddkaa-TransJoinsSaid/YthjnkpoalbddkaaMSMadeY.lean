/- made, of strings. -/
import Derived.Test.YthjnkpoalbddkaaMSStateY
import Derived.Test.YthjnkpoalbddkaaMSTextY
namespace Go.Proofs.Ythjnkpoalbddkaa.MS
open Go.RowKit Go.Maps Go.WideMaps
def mkE : Mk St := ⟨[], [], [], [], [], false⟩
def mk0 (s : St) : Mk St := (mkE.addS s).addT []
theorem MkIn.start (W : World) : MkIn (((W.alloc (.map #[] 0)).alloc (.map #[] 0)).alloc (.cells #[.slice none 0 0, .slice none 0 0, .slice none 0 0, .slice none 0 0, .map (some W.heap.size), .slice none 0 0, .map (some (W.heap.size + 1)), .bool false] 110)) W.heap.size (W.heap.size + 1 + 1) mkE
    (.slice none 0 0) (.slice none 0 0) (.slice none 0 0) (.slice none 0 0) (.slice none 0 0) W.heap.size (W.heap.size + 1) (.map []) (.map []) (fun _ => 0) (fun _ => 0) := by
  have h2 : (W.alloc (.map #[] 0)).heap.size = W.heap.size + 1 := by simp
  have h3 : ((W.alloc (.map #[] 0)).alloc (.map #[] 0)).heap.size = W.heap.size + 1 + 1 := by simp
  refine ⟨by simp; omega, by omega, by omega, by omega, ?_, ?_, ?_, World.ownsRow_nil _ _ _ _, World.ownsRow_nil _ _ _ _, World.ownsRow_nil _ _ _ _, ?_, idx_empty _, ?_, idx_empty _, by omega, fun k hk => (by cases hk), fun k hk => (by cases hk)⟩
  · have := Blk.new ((W.alloc (.map #[] 0)).alloc (.map #[] 0)) 110 [.slice none 0 0, .slice none 0 0, .slice none 0 0, .slice none 0 0, .map (some W.heap.size), .slice none 0 0, .map (some (W.heap.size + 1)), .bool false]
    rw [h3] at this
    exact this
  · exact ⟨World.ownsRow_nil _ _ _ _, fun i hi => absurd hi (by simp [mkE]), fun i hi => absurd hi (by simp [mkE])⟩
  · exact ⟨World.ownsRow_nil _ _ _ _, fun i hi => absurd hi (by simp [mkE]), fun i hi => absurd hi (by simp [mkE])⟩
  · have := World.ownsMap_made (H := Unit) W Try.prog 9 (plainElem Try.prog 3)
    exact (this.alloc _).alloc _
  · have := World.ownsMap_made (H := Unit) (W.alloc (.map #[] 0)) Try.prog 9 (plainElem Try.prog 3)
    rw [h2] at this
    exact this.alloc _
set_option maxRecDepth 100000 in
set_option maxHeartbeats 4000000 in
theorem made_any (W : World) (s : St) (hs : s.length ≤ 1000000) :
    Calls Try.prog 60 #[.string ⟨s.toArray⟩] W fun e W' => ∃ bk va vt gno gtx D1 D2, e = .returned (.pointer (some ⟨bk, 0, none⟩)) ∧ Below W.heap.size W W' ∧ MkIn W' W.heap.size bk (mk0 s) (.slice none 0 0) (.slice none 0 0) (.slice none 0 0) vt va gno gtx D1 D2 (fun _ => 0) (fun _ => 0) := by
  have HK := Lib.hid (MkIn.start W)
  have hmm := @run_makeMap Try.prog
  have hb0 : Below W.heap.size W (((W.alloc (.map #[] 0)).alloc (.map #[] 0)).alloc (.cells #[.slice none 0 0, .slice none 0 0, .slice none 0 0, .slice none 0 0, .map (some W.heap.size), .slice none 0 0, .map (some (W.heap.size + 1)), .bool false] 110)) := (((Below.refl _ _).alloc (Nat.le_refl _) _).alloc (by simp) _).alloc (by simp; omega) _
  have HB := Lib.hid hb0
  have HS := Lib.hid hs
  clear hb0 hs
  go_enter Try.func60, Try.ntmps60
  go_wp2_with fail
  generalize ((W.alloc _).alloc _).alloc _ = W1 at HK HB ⊢
  have hk := HK.out
  generalize W.heap.size + 1 + 1 = bk at HK hk ⊢
  generalize W.heap.size + 1 = gtx at HK hk ⊢
  have HC := Lib.hid (state_any W1 _ _ _ _ _ _ _ _ _ _ _ _ _ _ hk s HS.out (by simp [mkE]))
  clear hk hmm
  refine HC.out.mono ?_
  rintro e W2 ⟨va2, D12, rfl, hb2, h2, _⟩
  have HB2 := Lib.hid (HB.out.trans (hb2.below HB.out.size (fun k hk => by
    rcases hk with rfl | rfl | hk
    · exact HK.out.hbk
    · exact HK.out.hno
    · cases hk)))
  have H2 := Lib.hid h2
  have htl : (mkE.addS s).texts.length ≤ 1000000 := by rw [show (mkE.addS s).texts = [] by unfold Mk.addS; split <;> rfl]; simp
  have HC2 := Lib.hid (text_any W2 _ _ _ _ _ _ _ _ _ _ _ _ _ _ h2 [] (by simp) htl)
  clear hb2 h2 HC htl
  go_wp2_with fail
  refine HC2.out.mono ?_
  rintro e W3 ⟨vt3, D23, rfl, hb3, h3, _⟩
  have HB3 := Lib.hid (HB2.out.trans (hb3.below HB2.out.size (fun k hk => by
    rcases hk with rfl | rfl | hk
    · exact H2.out.hbk
    · exact H2.out.htx
    · exact (H2.out.ot.lt k hk).1)))
  have H3 := Lib.hid h3
  clear hb3 h3 HC2
  go_wp2_with fail
  go_returns
  exact ⟨bk, va2, vt3, W.heap.size, gtx, D12, D23, by first | rfl | simp, HB3.out, H3.out⟩
end Go.Proofs.Ythjnkpoalbddkaa.MS
