/- The maker's part: of any tree. -/
import Derived.Test.YtfjhcoeehjephaaRe2Mc
namespace Go.Proofs.Ytfjhcoeehjephaa
open Go.RowKit
attribute [local go_sem ↓] Go.wp_at_zero Go.wp_at_succ

set_option maxRecDepth 100000 in
set_option maxHeartbeats 16000000 in
theorem part_rep (t : Tr) (hk : t.kind = 4) (hrep : RepAt t) : PartAt t := by
  intro w0 p S a z E v W f o A n c h ht hsh hwf hf ho hfo hS hE
  have e1 : (t.kind == 1) = false := by simp [hk]
  have e2 : (t.kind == 2) = false := by simp [hk]
  have e3 : (t.kind == 3) = false := by simp [hk]
  obtain ⟨W1, hW1⟩ : ∃ W1, W1 = W.alloc (tbox t A n c) := ⟨_, rfl⟩
  have h1 := h.alloc (tbox t A n c)
  have q0 : (W.alloc (tbox t A n c)).cell? ⟨W.heap.size, 0, none⟩ = some (.int .i64 t.kind) := by simp
  have q1 : (W.alloc (tbox t A n c)).cell? ⟨W.heap.size, 1, none⟩ = some (.int .u64 t.s0) := by simp
  have q2 : (W.alloc (tbox t A n c)).cell? ⟨W.heap.size, 2, none⟩ = some (.int .u64 t.s1) := by simp
  have q3 : (W.alloc (tbox t A n c)).cell? ⟨W.heap.size, 3, none⟩ = some (.int .u64 t.s2) := by simp
  have q4 : (W.alloc (tbox t A n c)).cell? ⟨W.heap.size, 4, none⟩ = some (.int .u64 t.s3) := by simp
  have q5 : (W.alloc (tbox t A n c)).cell? ⟨W.heap.size, 5, none⟩ = some (.int .i64 t.lo) := by simp
  have q6 : (W.alloc (tbox t A n c)).cell? ⟨W.heap.size, 6, none⟩ = some (.int .i64 t.hi) := by simp
  have q7 : (W.alloc (tbox t A n c)).cell? ⟨W.heap.size, 7, none⟩ = some (.slice A n c) := by simp
  have hwn := Lib.hid (Went.alloc (p := p) (v := v) W (tbox t A n c))
  rw [← hW1] at h1 q0 q1 q2 q3 q4 q5 q6 q7 hwn
  have c4 := h1.blk.cell 4
  simp only [List.getElem?_cons_zero, List.getElem?_cons_succ] at c4
  have HR := Lib.hid (hrep w0 p S a z E v W1 f o A n c h1 ht hsh hwf hf ho hfo hS hE)
  have HW1 := Lib.hid hW1
  clear hk h ht hsh hwf hf ho hfo hE hS h1 hrep
  go_enter Try.func47, Try.ntmps47
  go_upto_region 1 with (fail)
  rw [← HW1.out]
  clear HW1 hW1
  go_wp2_with (go_at_call 71; refine HR.out.mono ?_; rintro e w4 ⟨rfl, S2, E2, b2, v2, hg2, hm2, ht2⟩; have HG2 := Lib.hid hg2; have HM2 := Lib.hid hm2; have HT2 := Lib.hid ht2; clear hg2 hm2 ht2)
  go_returns
  exact ⟨by first | rfl | simp, S2, E2, b2, v2, HG2.out, HM2.out, hwn.out.trans HT2.out⟩

/-- what the maker's part makes of any tree -/
theorem part_any (t : Tr) : PartAt t := by
  induction t using Tr.ind with
  | h t ih =>
    intro w0 p S a z E v W f o A n c h ht hsh
    have hok := hsh.ok
    have hk : t.kind = 1 ∨ t.kind = 2 ∨ t.kind = 3 ∨ t.kind = 4 := by
      unfold OkT at hok
      omega
    rcases hk with hk | hk | hk | hk
    · exact part_set t hk w0 p S a z E v W f o A n c h ht hsh
    · by_cases h0 : t.kids.length = 0
      · exact part_none t hk h0 w0 p S a z E v W f o A n c h ht hsh
      · exact part_cat t hk h0 ih w0 p S a z E v W f o A n c h ht hsh
    · exact part_alt t hk ih w0 p S a z E v W f o A n c h ht hsh
    · by_cases hh : t.hi < 0
      · exact part_rep t hk (rep_opens t hk hh ih) w0 p S a z E v W f o A n c h ht hsh
      · exact part_rep t hk (rep_shuts t hk hh ih) w0 p S a z E v W f o A n c h ht hsh
end Go.Proofs.Ytfjhcoeehjephaa
