/- The maker's free. -/
import Derived.Test.YtpeoomdfopjlmaaMk
namespace Go.Proofs.Ytpeoomdfopjlmaa
open Go.RowKit

theorem MI.grown_blk {w0 W W' : World} {p S : Nat} {a z : Int} {E : List Ed} {bad : Bool} {v : Value} (h : MI w0 p S a z E bad v W) (hg : W.grownBy W' v.ownBlock) : Blk W' p 50 [.int .i64 (S : Int), .int .i64 a, .int .i64 z, v, .bool bad] :=
  h.blk.same (hg.block p h.lt (fun e => by have := (h.row_lt e.symm).1; omega))

set_option maxRecDepth 100000 in
set_option maxHeartbeats 4000000 in
theorem free_any (w0 : World) (p S : Nat) (a z : Int) (E : List Ed) (v : Value) (W : World) (bad : Bool) (f o : Int) (h : MI w0 p S a z E bad v W) (hE : E.length ≤ 1000000000) :
    Calls Try.prog 29 #[.pointer (some ⟨p, 0, none⟩), .int .i64 f, .int .i64 o] W fun e W' => e = .returned (.tuple #[]) ∧ ∃ v', MI w0 p S a z (E ++ [freeE f o]) bad v' W' ∧ Went p v v' W W' := by
  obtain ⟨i55, hi55, hp55⟩ := Option.map_eq_some_iff.1 info44
  have hz7 : i55.zero.map (fun z => z.cells.size) = some 7 := congrArg Prod.fst hp55
  obtain ⟨z55, hz55, hzc⟩ := Option.map_eq_some_iff.1 hz7
  have hsz55 : i55.size = 7 := congrArg (fun x => x.2.1) hp55
  have hbt55 : i55.bytes = 56 := congrArg (fun x => x.2.2) hp55
  obtain ⟨A, c, rfl⟩ := h.form
  have c3 := h.blk.cell 3
  have c1 := h.blk.frozen 3
  simp only [List.getElem?_cons_zero, List.getElem?_cons_succ] at c3
  have hlt := h.lt
  obtain ⟨n, hn⟩ : ∃ n, n = E.length := ⟨_, rfl⟩
  have HE := Lib.hid (show n ≤ 1000000000 by omega)
  rw [← hn] at c3 h ⊢
  have HN := Lib.hid hn
  have H := Lib.hid h
  have HNEW := Lib.hid (show ∀ j u, (edV (freeE f o))[j]? = some u → (W.alloc (.cells #[.int .i64 f, .int .i64 o, .bool true, .int .u64 0, .int .u64 0, .int .u64 0, .int .u64 0] 55)).cell? ((⟨W.heap.size, 0, none⟩ : Addr).add j) = some u from World.news_of_block (cs := #[.int .i64 f, .int .i64 o, .bool true, .int .u64 0, .int .u64 0, .int .u64 0, .int .u64 0]) (heap_alloc_new _ _))
  have y4 : ∀ u ∈ edV (freeE f o), u.oneCell' = true := by intro u hu; simp [edV] at hu; rcases hu with rfl | rfl | rfl | rfl | rfl | rfl | rfl <;> rfl
  have HY := Lib.hid y4
  clear h hn y4 hE hp55 hz7
  go_enter Try.func29, Try.ntmps29
  go_wp2_with (first
    | (at_builtin
       refine wpList_append_own_at _ rfl (.tmp 11) (.tmp 15) 29 rfl (p + 1) 55 i55 z55 7 56 Try.underlying29 hi55 hz55 hsz55 hbt55 hzc (by omega) (.slice A n c) n (edsV E) rfl (by have h9 := (H.out.alloc (.cells #[.int .i64 f, .int .i64 o, .bool true, .int .u64 0, .int .u64 0, .int .u64 0, .int .u64 0] 55)).own; rw [← HN.out] at h9; exact h9) ⟨_, 0, none⟩ 1 1 (edV (freeE f o)) rfl rfl HNEW.out HY.out (by have := HE.out; unfold maxLen; omega) (by have := HE.out; omega) (by have := H.out.lt; simp; omega) ?_
       intro v' w' h2 h3 h4 h5
       obtain ⟨A', c', rfl⟩ := own_sl h2
       have hm := MI.app (e := freeE f o) (H.out.alloc (.cells #[.int .i64 f, .int .i64 o, .bool true, .int .u64 0, .int .u64 0, .int .u64 0, .int .u64 0] 55)) h3 (by rw [← HN.out]; exact h2) h5
       have hb9 := (H.out.alloc (.cells #[.int .i64 f, .int .i64 o, .bool true, .int .u64 0, .int .u64 0, .int .u64 0, .int .u64 0] 55)).grown_blk h3
       have d3 := hb9.cell 3
       have d4 := hb9.frozen 3
       simp only [List.getElem?_cons_zero, List.getElem?_cons_succ] at d3
       have HM := Lib.hid hm
       clear hm hb9 h2 h3 h4 h5))
  go_returns
  exact ⟨by first | rfl | simp, _, HM.out.1, (Went.alloc _ _).trans HM.out.2⟩
end Go.Proofs.Ytpeoomdfopjlmaa
