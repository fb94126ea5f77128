/- The reference's over. -/
import Derived.Test.YtfjhcoeehjephaaSx1Md
import Derived.Test.YtfjhcoeehjephaaNfaMd
namespace Go.Proofs.Ytfjhcoeehjephaa
open Go.RowKit
attribute [local go_sem ↓] Go.wp_at_zero Go.wp_at_succ

/-- where a byte leads from marked states, in the edges' order -/
def overL (E : List Ed) (M : List Bool) (b : Nat) : List Int := (E.filter (fun e => !e.free && (M.getD e.src.toNat false && hasE e b))).map Ed.dst
theorem overL_snoc (E : List Ed) (e : Ed) (M : List Bool) (b : Nat) : overL (E ++ [e]) M b = if (!e.free && (M.getD e.src.toNat false && hasE e b)) = true then overL E M b ++ [e.dst] else overL E M b := by
  unfold overL
  rw [List.filter_append, List.map_append]
  by_cases h : (!e.free && (M.getD e.src.toNat false && hasE e b)) = true
  · rw [if_pos h, List.filter_cons_of_pos (p := fun e => !e.free && (M.getD e.src.toNat false && hasE e b)) h]; rfl
  · rw [if_neg h]
    have h2 : (!e.free && (M.getD e.src.toNat false && hasE e b)) = false := by simpa using h
    rw [List.filter_cons_of_neg (p := fun e => !e.free && (M.getD e.src.toNat false && hasE e b)) (by rw [h2]; simp)]
    simp
theorem overL_len (E : List Ed) (M : List Bool) (b : Nat) : (overL E M b).length ≤ E.length := by
  unfold overL
  rw [List.length_map]
  exact List.length_filter_le _ _
theorem own_keptS {w w' : World} {base n size : Nat} {e : TypeId} {v : Value} {xs : List Value} (h : w.ownsRow base e size v n xs) (hb : Below w.heap.size w w') : w'.ownsRow base e size v n xs :=
  own_move h (fun b _ _ ho _ => (hb.block b (Array.getElem?_eq_some_iff.1 ho).1).trans ho)
theorem own_numsS {w : World} {base c n : Nat} {A : Option Addr} {l : List Int} (h : w.ownsRow base 3 1 (.slice A n c) n (numsV .i64 l)) : Arr w w.heap.size 1 A n (NumC .i64 l) := fun hn => by
  obtain ⟨g, off, h1, h2, h3⟩ := (Arr.of_own h) hn
  refine ⟨g, off, h1, h2, fun k j hk hj => (h3 k j hk hj).trans ?_⟩
  have hl : l.length = n := by have := h.1; simp only [numsV, List.length_map] at this; omega
  simp [numsV, NumC, show k < l.length by omega]

set_option maxRecDepth 100000 in
set_option maxHeartbeats 16000000 in
theorem over_any (A : Option Addr) (n c S : Nat) (a z : Int) (E : List Ed) (gM cM : Nat) (M : List Bool) (b : Nat) (w : World) (h : NfaIn w A n ⟨(S : Int), a, z, E⟩) (hr : RightN ⟨(S : Int), a, z, E⟩)
    (hu : ∀ e ∈ E, U64w e.s0 ∧ U64w e.s1 ∧ U64w e.s2 ∧ U64w e.s3) (hM : M.length = S) (hB : Blk w gM 3 (bitsV M)) (hb : b < 256) :
    Calls Try.prog 39 #[.agg #[.int .i64 (S : Int), .int .i64 a, .int .i64 z, .slice A n c], .slice (some ⟨gM, 0, none⟩) S cM, .int .u8 (b : Int)] w fun e w' => ∃ g seen, e = .returned (.slice (some ⟨g, 0, none⟩) S S) ∧ Blk w' g 3 (bitsV seen) ∧ seen.length = S ∧
      (∀ j, j < S → (seen.getD j false = true ↔ Rch E S (overL E M b) (j : Int))) ∧ Below w.heap.size w w' ∧ w.heap.size ≤ g := by
  obtain ⟨i3, hi3, hz3, hsz3, hbt3⟩ := info_parts info3
  have hb0 : Below w.heap.size w (w.alloc (.cells #[.int .i64 (S : Int), .int .i64 a, .int .i64 z, .slice A n c] 24)) := (Below.refl _ _).alloc (Nat.le_refl _) _
  have hx0 := Blk.new w 24 [.int .i64 (S : Int), .int .i64 a, .int .i64 z, .slice A n c]
  have hsw : (w.alloc (.cells #[.int .i64 (S : Int), .int .i64 a, .int .i64 z, .slice A n c] 24)).heap.size = w.heap.size + 1 := by simp
  have hS : S ≤ 2000 := by have : (S : Int) ≤ 2000 := hr.hi; omega
  have hEl : E.length ≤ 16000 := hr.few
  have hln : E.length = n := h.len
  have HH := Lib.hid h
  have HR := Lib.hid hr
  have HU := Lib.hid hu
  have HMB := Lib.hid (And.intro hM hB)
  have HB0 := Lib.hid hb0
  have HX0 := Lib.hid hx0
  have hmade := World.ownsRow_made (w.alloc (.cells #[.int .i64 (S : Int), .int .i64 a, .int .i64 z, .slice A n c] 24)) #[] 0 (base := w.heap.size + 1) (e := 3) (size := 1) (by simp) (by unfold maxLen; omega) (by simp)
  have HMD := Lib.hid hmade
  have hbl := (Below.refl (w.heap.size + 1) (w.alloc (.cells #[.int .i64 (S : Int), .int .i64 a, .int .i64 z, .slice A n c] 24))).alloc (by simp) (.cells #[] 3)
  have HBL := Lib.hid hbl
  have HSW := Lib.hid hsw
  have c3 := (hx0.alloc (.cells #[] 3)).cell 3
  simp only [List.getElem?_cons_zero, List.getElem?_cons_succ] at c3
  clear h hr hu hM hB hb0 hx0 hmade hbl
  go_enter Try.func39, Try.ntmps39
  go_upto_region 3 with (fail)
  obtain ⟨W1, hW1⟩ : ∃ W1, W1 = w.alloc (.cells #[.int .i64 (S : Int), .int .i64 a, .int .i64 z, .slice A n c] 24) := ⟨_, rfl⟩
  rw [← hW1] at HX0 HB0 HMD HBL HSW hsw c3
  rw [hsw] at HMD
  (try rw [← hW1])
  clear hW1 hsw
  generalize W1.alloc (.cells #[] 3) = w2 at HMD HBL c3 ⊢
  clear c3
  go_loopw [7, 14] (fun v iv wr => ∃ k : Nat, iv = .int .i64 (k : Int) ∧ k ≤ n ∧ wr.ownsRow (w.heap.size + 1) 3 1 v (overL (E.take k) M b).length (numsV .i64 (overL (E.take k) M b)) ∧ Below (w.heap.size + 1) W1 wr ∧ w.heap.size + 1 ≤ wr.heap.size) (fun _ iv _ => n - (intOf iv).toNat)
  case atStart => exact ⟨0, rfl, by omega, HMD.out, HBL.out, by have := HBL.out.size; rw [HSW.out] at this; exact this⟩
  case round =>
    obtain ⟨k, rfl, hk, hown, hbe, hsz⟩ := hrel
    obtain ⟨w3, rfl⟩ : ∃ w3 : World, w3 = wr := ⟨_, rfl⟩
    obtain ⟨v, rfl⟩ : ∃ v : Value, v = u7 := ⟨_, rfl⟩
    clear HMD HBL
    have HO := Lib.hid hown
    have HBE := Lib.hid hbe
    have hbw := HB0.out.trans (hbe.mono (by omega))
    have HBW := Lib.hid hbw
    clear hown hbe hbw
    by_cases hlt : k < n
    · have d1 : decide ((k : Int) < (n : Int)) = true := by simp; omega
      obtain ⟨b9, o9, rfl, hbl, p0, p1, p2, p3, p4, p5, p6⟩ := (HH.out.arr.below HBW.out).seven hlt
      have hkl : k < E.length := by omega
      have hem : E.getD k noEd ∈ E := getD_mem hkl
      have htk := take_next E k noEd hkl
      have hov := overL_snoc (E.take k) (E.getD k noEd) M b
      rw [← htk] at hov
      have hE := okE_of HR.out _ hem
      have hq4 := HU.out _ hem
      obtain ⟨e, he⟩ : ∃ e, e = E.getD k noEd := ⟨_, rfl⟩
      simp only at p0 p1 p2 p3 p4 p5 p6
      rw [← he] at p0 p1 p2 p3 p4 p5 p6 hov hE hq4
      have HOV := Lib.hid hov
      clear he htk hem hkl hov
      obtain ⟨x, y, f, s0, s1, s2, s3⟩ := e
      simp only at p0 p1 p2 p3 p4 p5 p6
      have hx0 : 0 ≤ x := hE.1
      have hxS : x < (S : Int) := hE.2.1
      obtain ⟨i, rfl⟩ := Int.eq_ofNat_of_zero_le hx0
      have hi : i < S := by omega
      have HHS := Lib.hid (fun w' => rhas_any s0 s1 s2 s3 hq4.1 hq4.2.1 hq4.2.2.1 hq4.2.2.2 b hb w')
      obtain ⟨hb1, hhb⟩ : ∃ x, x = hasB s0 s1 s2 s3 b := ⟨_, rfl⟩
      rw [← hhb] at HHS
      have HHB := Lib.hid hhb
      clear hhb hq4 hE
      obtain ⟨lv, hlv⟩ : ∃ l, l = overL (E.take k) M b := ⟨_, rfl⟩
      rw [← hlv] at HO HOV
      have hlvl : lv.length ≤ 16000 := by rw [hlv]; exact Nat.le_trans (overL_len _ _ _) (by rw [List.length_take]; omega)
      clear hlv
      go_upto_region 5 with (fail)
      have hblk := Blk.new w3 70 [.int .i64 (i : Int), .int .i64 y, .bool f, .int .u64 s0, .int .u64 s1, .int .u64 s2, .int .u64 s3]
      have HO4 := Lib.hid (HO.out.alloc (.cells #[.int .i64 (i : Int), .int .i64 y, .bool f, .int .u64 s0, .int .u64 s1, .int .u64 s2, .int .u64 s3] 70))
      have HB4 := Lib.hid (HBE.out.alloc hsz (.cells #[.int .i64 (i : Int), .int .i64 y, .bool f, .int .u64 s0, .int .u64 s1, .int .u64 s2, .int .u64 s3] 70))
      have HBW4 := Lib.hid (HBW.out.alloc HBW.out.size (.cells #[.int .i64 (i : Int), .int .i64 y, .bool f, .int .u64 s0, .int .u64 s1, .int .u64 s2, .int .u64 s3] 70))
      obtain ⟨eb, heb⟩ : ∃ eb, eb = w3.heap.size := ⟨_, rfl⟩
      rw [← heb] at hblk ⊢
      change Blk (w3.alloc (.cells #[.int .i64 (i : Int), .int .i64 y, .bool f, .int .u64 s0, .int .u64 s1, .int .u64 s2, .int .u64 s3] 70)) eb 70 _ at hblk
      clear heb p0 p1 p2 p3 p4 p5 p6 hbl HO HBE HBW hsz
      generalize w3.alloc (.cells #[.int .i64 (i : Int), .int .i64 y, .bool f, .int .u64 s0, .int .u64 s1, .int .u64 s2, .int .u64 s3] 70) = w4 at hblk HO4 HB4 HBW4 ⊢
      have HBLK := Lib.hid hblk
      have q0 := hblk.cell 0
      have q1 := hblk.cell 1
      have q2 := hblk.cell 2
      have q3 := hblk.cell 3
      have q4 := hblk.cell 4
      have q5 := hblk.cell 5
      have q6 := hblk.cell 6
      simp only [List.getElem?_cons_zero, List.getElem?_cons_succ] at q0 q1 q2 q3 q4 q5 q6
      clear hblk
      have t0 : w4.cell? ⟨gM, i, none⟩ = some (.int .i64 (if M.getD i false = true then 1 else 0)) := by
        rw [(HMB.out.2.below HBW4.out HMB.out.2.lt).cell]; exact bitsV_get (by rw [HMB.out.1]; exact hi)
      obtain ⟨mi, hmi⟩ : ∃ m, m = M.getD i false := ⟨_, rfl⟩
      rw [← hmi] at t0
      have hsz4 : w.heap.size + 1 ≤ w4.heap.size := by have := HB4.out.size; rw [HSW.out] at this; exact this
      have hcond : (!f && (M.getD ((i : Int).toNat) false && hasE ⟨(i : Int), y, f, s0, s1, s2, s3⟩ b)) = (!f && (mi && hb1)) := by
        rw [hmi, HHB.out]; rfl
      have hstep : overL (E.take (k + 1)) M b = if (!f && (mi && hb1)) = true then lv ++ [y] else lv := by
        rw [HOV.out]
        simp only
        rw [hcond]
      have HST := Lib.hid hstep
      clear hcond hstep hmi
      cases f with
      | true =>
        rw [if_neg (by simp)] at HST
        go_wp2_with fail
        go_roundw
        case rel => exact ⟨k + 1, by go_num, by omega, by rw [HST.out]; exact HO4.out, HB4.out, hsz4⟩
        case measure => simp [intOf]; omega
      | false =>
        cases mi with
        | false =>
          rw [if_neg (by simp)] at HST
          rw [if_neg (by simp)] at t0
          go_wp2_with fail
          go_roundw
          case rel => exact ⟨k + 1, by go_num, by omega, by rw [HST.out]; exact HO4.out, HB4.out, hsz4⟩
          case measure => simp [intOf]; omega
        | true =>
          rw [if_pos rfl] at t0
          have HO5 := Lib.hid (HO4.out.alloc (.cells #[.int .u64 s0, .int .u64 s1, .int .u64 s2, .int .u64 s3] 46))
          have HB5 := Lib.hid (HB4.out.alloc hsz4 (.cells #[.int .u64 s0, .int .u64 s1, .int .u64 s2, .int .u64 s3] 46))
          have hsz5 : w.heap.size + 1 ≤ (w4.alloc (.cells #[.int .u64 s0, .int .u64 s1, .int .u64 s2, .int .u64 s3] 46)).heap.size := by rw [World.size_alloc]; omega
          have p1 := cellAl2 q1 (.cells #[.int .u64 s0, .int .u64 s1, .int .u64 s2, .int .u64 s3] 46)
          cases hb1 with
          | false =>
            rw [if_neg (by simp)] at HST
            go_wp2_with (go_at_call 42; refine (HHS.out _).mono ?_; rintro e w9 ⟨rfl, rfl⟩)
            go_roundw
            case rel => exact ⟨k + 1, by go_num, by omega, by rw [HST.out]; exact HO5.out, HB5.out, hsz5⟩
            case measure => simp [intOf]; omega
          | true =>
            rw [if_pos (by simp)] at HST
            go_upto_region 6 with (go_at_call 42; refine (HHS.out _).mono ?_; rintro e w9 ⟨rfl, rfl⟩)
            generalize w4.alloc (.cells #[.int .u64 s0, .int .u64 s1, .int .u64 s2, .int .u64 s3] 46) = w5 at HO5 HB5 hsz5 p1 ⊢
            clear q0 q1 q2 q3 q4 q5 q6 t0 HO4 HB4 HBW4 HBLK hsz4
            have hcn := cell_one_new w5 (.int .i64 y) 3
            obtain ⟨ml, hml⟩ : ∃ m, m = lv.length := ⟨_, rfl⟩
            obtain ⟨Al, cl, hvl⟩ := own_slice HO5.out
            rw [← hml] at hvl hlvl
            subst hvl
            have HML := Lib.hid hml
            clear hml
            go_wp2_with (first | (at_builtin; (refine wpList_append_lies _ rfl _ _ 36 rfl (w.heap.size + 1) 3 i3 (.int .i64 0) 1 8 Try.underlying36 hi3 hz3 hsz3 hbt3 rfl (by decide) (.slice Al ml cl) ml _ rfl (by have h9 := HO5.out.alloc (.cells #[.int .i64 y] 3); rw [← HML.out] at h9; exact h9) ⟨w5.heap.size, 0, none⟩ 1 1 [.int .i64 y] rfl rfl hcn (by simp [Value.oneCell']) (by omega) (by unfold maxLen; omega) (by omega) (by simp; omega) _ rfl ?_; intro g5 c5 w8 hown5 hgrow5 hat5 _)))
            go_roundw
            case rel =>
              have hb8 := (HB5.out.alloc hsz5 (.cells #[.int .i64 y] 3)).grown hgrow5 (by simp; have := HSW.out; omega) (fun k e => ((HO5.out.alloc (.cells #[.int .i64 y] 3)).lt k e).1)
              refine ⟨k + 1, by go_num, by omega, ?_, hb8, by have := hb8.size; rw [HSW.out] at this; exact this⟩
              rw [HST.out, List.length_append, numsV_snoc, ← HML.out]
              exact hown5
            case measure => simp [intOf]; omega
    · obtain rfl : k = n := by omega
      have d1 : decide ((k : Int) < (k : Int)) = false := by simp
      rw [List.take_of_length_le (by omega)] at HO
      have hx3 := HX0.out.below HBE.out (by have := HX0.out.lt; rw [HSW.out] at this; exact this)
      have q0 := hx3.cell 0
      have q1 := hx3.cell 1
      have q2 := hx3.cell 2
      have q3 := hx3.cell 3
      simp only [List.getElem?_cons_zero, List.getElem?_cons_succ] at q0 q1 q2 q3
      have hLl := overL_len E M b
      obtain ⟨L, hL⟩ : ∃ L, L = overL E M b := ⟨_, rfl⟩
      have HL9 := Lib.hid hL
      rw [← hL] at HO hLl
      obtain ⟨Al, cl, hvl⟩ := own_slice HO.out
      obtain ⟨ml, hml⟩ : ∃ m, m = L.length := ⟨_, rfl⟩
      rw [← hml] at hvl hLl
      subst hvl
      have har := own_numsS (by have h9 := HO.out; rw [← hml] at h9; exact h9)
      have hfr := rfree_new A k c S a z E Al ml cl L w3 (HH.out.keep HBW.out) HR.out hml.symm (by omega) har
      have HFR := Lib.hid hfr
      clear hx3 hLl hL hml har hfr
      go_wp2_with (go_at_call 38; refine HFR.out.mono ?_; rintro e w9 ⟨g9, seen, rfl, hbk, hsl, hiff, hb9, hg9⟩; have HF9 := Lib.hid (And.intro hbk (And.intro hsl (And.intro hiff (And.intro hb9 hg9)))); clear hbk hsl hiff hb9 hg9)
      go_returns
      have hfin := HF9.out
      rw [HL9.out] at hfin
      first
        | exact ⟨g9, seen, by first | rfl | simp, hfin.1, hfin.2.1, hfin.2.2.1, HBW.out.trans (hfin.2.2.2.1.mono HBW.out.size), Nat.le_trans HBW.out.size hfin.2.2.2.2⟩
        | exact ⟨g9, by first | rfl | simp, seen, hfin.1, hfin.2.1, hfin.2.2.1, HBW.out.trans (hfin.2.2.2.1.mono HBW.out.size), Nat.le_trans HBW.out.size hfin.2.2.2.2⟩
end Go.Proofs.Ytfjhcoeehjephaa
