/- VmEchoes, with its text laid open. -/
import Derived.Test.YtgejpggbmgiocaaLEchoes
namespace Go.Proofs.Ytgejpggbmgiocaa
open Go.RowKit
attribute [local go_sem ↓] load_p
def codeB : Array Value := #[.int .i64 7, .int .i64 0, .int .i64 0, .int .i64 3, .int .i64 0, .int .i64 17, .int .i64 0, .int .i64 0, .int .i64 0, .int .i64 0, .int .i64 4, .int .i64 0, .int .i64 0, .int .i64 0, .int .i64 0, .int .i64 1, .int .i64 0, .int .i64 0, .int .i64 0, .int .i64 0]
/-- the law's world: the program's code, and its box -/
structure EW (w W : World) : Prop where
  code : CodeIn W W.heap.size (echoPrg w.heap.size) echoC
  bel : Below w.heap.size w W
  blk : PB (w.alloc (.cells codeB 40)) (echoPrg w.heap.size) W
theorem ew_start (w : World) : EW w ((w.alloc (.cells codeB 40)).alloc (.cells (echoPrg w.heap.size).toArray 35)) := by
  have hb : Below (w.alloc (.cells codeB 40)).heap.size (w.alloc (.cells codeB 40)) ((w.alloc (.cells codeB 40)).alloc (.cells (echoPrg w.heap.size).toArray 35)) := (Below.refl _ _).alloc (Nat.le_refl _) _
  refine ⟨code_in (w := w.alloc (.cells codeB 40)) (by simp) (fun j => ?_) hb, ((Below.refl _ _).alloc (Nat.le_refl _) _).trans (hb.mono (by simp)), ⟨hb, by simp, Blk.new _ 35 (echoPrg w.heap.size)⟩⟩
  exact cell_of_row _ _ _ _ _ _ (heap_alloc_new w _)
theorem CodeIn.keep {w W : World} {prg : List Value} {code : List Ins} (h : CodeIn w w.heap.size prg code) (hb : Below w.heap.size w W) : CodeIn W W.heap.size prg code := by
  obtain ⟨⟨A, c, e, ha⟩, hl⟩ := h
  exact ⟨⟨A, c, e, (ha.below hb).more hb.size⟩, hl⟩
theorem EW.go {w W W' : World} (h : EW w W) (hb : Below W.heap.size W W') : EW w W' := ⟨h.code.keep hb, h.bel.trans (hb.mono h.bel.size), h.blk.go hb⟩
theorem EW.load {w W : World} (h : EW w W) : (loadP (.pointer (some ⟨w.heap.size + 1, 0, none⟩))).run Try.prog W = .ok (.agg (echoPrg w.heap.size).toArray) W := by
  have := h.blk.load rfl
  simpa using this
set_option maxRecDepth 100000 in
set_option maxHeartbeats 8000000 in
theorem law_vechoes (s : ByteArray) (less : Int) (w : World) :
    Calls Try.prog 5 #[.string s, .int .i64 less] w fun e w' => e = .returned (.bool true) ∧ Below w.heap.size w w' := by
  have E1 := Lib.hid (ew_start w)
  unfold codeB echoPrg at E1
  by_cases hs : s.size ≤ 4096
  · have e1 : decide ((4096 : Int) < (s.size : Int)) = false := by simp; omega
    go_enter Try.func5, Try.ntmps5
    have hld := E1.out.load
    unfold echoPrg at hld
    go_wp2_with fail
    clear hld
    generalize (w.alloc _).alloc _ = W1 at E1 ⊢
    refine (run_echo w.heap.size s _ W1 E1.out.code hs (by omega) (by omega)).mono ?_
    rintro e w2 ⟨hb2, hr⟩
    have E2 := Lib.hid (E1.out.go hb2)
    clear hb2
    rcases hr with ⟨_, A, q, rfl, hA⟩ | ⟨h9, _⟩
    · have HA := Lib.hid hA
      clear hA
      have hld := E2.out.load
      unfold echoPrg at hld
      go_wp2_with fail
      clear hld
      refine (bytes_any s w2 (by omega)).mono ?_
      rintro e w3 ⟨vb, rfl, hvb, hb3⟩
      have E3 := Lib.hid (E2.out.go hb3)
      obtain ⟨A2, c2, rfl⟩ := own_sl hvb
      have HA3 := Lib.hid ((HA.out.below hb3).more hb3.size)
      have HB3 := Lib.hid (own_ints hvb)
      clear hb3 hvb
      go_wp2_with fail
      have hlb := length_bytesI s
      refine (ints_any A A2 s.size s.size q c2 w3.heap.size (bytesI s) (bytesI s) w3 hlb hlb (by omega) (by omega) HA3.out HB3.out).mono ?_
      rintro e w4 ⟨rfl, m, rfl⟩
      have E4 := Lib.hid (E3.out.go (below_drewN (Below.refl _ _) m))
      have hld := E4.out.load
      unfold echoPrg at hld
      have e2 : decide (bytesI s = bytesI s) = true := by simp
      go_wp2_with fail
      all_goals
        clear hld
        refine (run_echo w.heap.size s _ _ E4.out.code hs (by omega) (by omega)).mono ?_
        rintro e w5 ⟨hb5, hr⟩
        rcases hr with ⟨h9, _⟩ | ⟨_, u, rfl⟩
        · omega
        · have E5 := Lib.hid (E4.out.go hb5)
          clear hb5
          go_wp2_with fail
          go_returns
          exact ⟨by first | rfl | simp, E5.out.bel⟩
    · omega
  · have e1 : decide ((4096 : Int) < (s.size : Int)) = true := by simp; omega
    go_enter Try.func5, Try.ntmps5
    have hld := E1.out.load
    unfold echoPrg at hld
    go_wp2_with fail
    clear hld
    generalize (w.alloc _).alloc _ = W1 at E1 ⊢
    refine (run_long _ _ _ _ _ _ _ _ _ _ _ s W1 (by omega)).mono ?_
    rintro e w2 ⟨rfl, hb2⟩
    have E2 := Lib.hid (E1.out.go hb2)
    clear hb2
    go_wp2_with fail
    go_returns
    exact ⟨by first | rfl | simp, E2.out.bel⟩
end Go.Proofs.Ytgejpggbmgiocaa
