/- The reference's Classes. -/
import Derived.Test.YtfjhcoeehjephaaSx1Md
import Derived.Test.YtfjhcoeehjephaaNameAMd
import Derived.Test.YtfjhcoeehjephaaBxMd
namespace Go.Proofs.Ytfjhcoeehjephaa
open Go.RowKit
attribute [local go_sem ↓] Go.wp_at_zero Go.wp_at_succ
attribute [local go_sem ↓] load_box store_box

/-- classes, byte by byte: each has a least byte -/
structure RCls (l : List Quad) (b : Nat) (ls : List Nat) (cls : Nat → Nat) : Prop where
  lt : ∀ j, j < b → cls j < ls.length
  rep : ∀ j, j < b → alikeB l j (ls.getD (cls j) 0) = true
  least : ∀ c, c < ls.length → ls.getD c 0 < b ∧ cls (ls.getD c 0) = c
  len : ls.length ≤ b
theorem RCls.start (l : List Quad) (cls : Nat → Nat) : RCls l 0 [] cls := ⟨fun j h => absurd h (by omega), fun j h => absurd h (by omega), fun c h => absurd h (by simp), by simp⟩
theorem RCls.old {l : List Quad} {b : Nat} {ls : List Nat} {cls : Nat → Nat} (h : RCls l b ls cls) {k : Nat} (hk : k < ls.length) (ha : alikeB l b (ls.getD k 0) = true) : RCls l (b + 1) ls (fun j => if j = b then k else cls j) := by
  refine ⟨fun j hj => ?_, fun j hj => ?_, fun c hc => ?_, by have := h.len; omega⟩
  · show (if j = b then k else cls j) < _
    split
    · exact hk
    · exact h.lt j (by omega)
  · show alikeB l j (ls.getD (if j = b then k else cls j) 0) = true
    by_cases e : j = b
    · rw [if_pos e, e]; exact ha
    · rw [if_neg e]; exact h.rep j (by omega)
  · obtain ⟨h1, h2⟩ := h.least c hc
    refine ⟨by omega, ?_⟩
    show (if ls.getD c 0 = b then k else cls (ls.getD c 0)) = c
    rw [if_neg (by omega)]; exact h2
theorem alikeB_self (l : List Quad) (b : Nat) : alikeB l b b = true := by unfold alikeB; simp
theorem getD_apN {l : List Nat} {k x : Nat} : (l ++ [x]).getD k 0 = if k < l.length then l.getD k 0 else if k = l.length then x else 0 := by
  by_cases h : k < l.length
  · rw [if_pos h]; simp [List.getD_eq_getElem?_getD, List.getElem?_append_left h]
  · rw [if_neg h]
    by_cases e : k = l.length
    · subst e; rw [if_pos rfl]; simp
    · rw [if_neg e]; simp [List.getD_eq_getElem?_getD, List.getElem?_eq_none (show (l ++ [x]).length ≤ k by simp; omega)]
theorem RCls.new {l : List Quad} {b : Nat} {ls : List Nat} {cls : Nat → Nat} (h : RCls l b ls cls) : RCls l (b + 1) (ls ++ [b]) (fun j => if j = b then ls.length else cls j) := by
  refine ⟨fun j hj => ?_, fun j hj => ?_, fun c hc => ?_, by rw [List.length_append, List.length_singleton]; have := h.len; omega⟩
  · show (if j = b then ls.length else cls j) < _
    rw [List.length_append, List.length_singleton]
    split
    · omega
    · have := h.lt j (by omega); omega
  · show alikeB l j ((ls ++ [b]).getD (if j = b then ls.length else cls j) 0) = true
    rw [getD_apN]
    by_cases e : j = b
    · rw [if_pos e, if_neg (by omega), if_pos rfl, e]; exact alikeB_self l b
    · have := h.lt j (by omega)
      rw [if_neg e, if_pos this]; exact h.rep j (by omega)
  · rw [List.length_append, List.length_singleton] at hc
    rw [getD_apN]
    by_cases e : c < ls.length
    · obtain ⟨h1, h2⟩ := h.least c e
      rw [if_pos e]
      refine ⟨by omega, ?_⟩
      show (if ls.getD c 0 = b then _ else cls (ls.getD c 0)) = c
      rw [if_neg (by omega)]; exact h2
    · obtain rfl : c = ls.length := by omega
      rw [if_neg e, if_pos rfl]
      refine ⟨by omega, ?_⟩
      show (if b = b then ls.length else cls b) = ls.length
      rw [if_pos rfl]
theorem RCls.ok {l : List Quad} {ls : List Nat} {cls : Nat → Nat} (h : RCls l 256 ls cls) : ClsOk cls ls.length l := by
  refine ⟨h.lt, fun c hc => ⟨ls.getD c 0, (h.least c hc).1, (h.least c hc).2⟩, fun b b' hb hb' he q hq => ?_, h.len⟩
  have h1 := h.rep b hb
  have h2 := h.rep b' hb'
  rw [he] at h1
  unfold alikeB at h1 h2
  rw [List.all_eq_true] at h1 h2
  have h3 := h1 q hq
  have h4 := h2 q hq
  simp only [beq_iff_eq] at h3 h4
  rw [h3, h4]
def u8V (ls : List Nat) : List Value := ls.map (fun x => .int .u8 ((x : Nat) : Int))
theorem u8V_snoc (ls : List Nat) (x : Nat) : u8V (ls ++ [x]) = u8V ls ++ [.int .u8 (x : Int)] := by simp [u8V]
/-- what stays -/
structure RC (W : World) (cls : Nat → Nat) (v : Value) (ls : List Nat) (w : World) : Prop where
  bel : Below W.heap.size W w
  b0 : Blk w W.heap.size 26 (bytV (fun _ => 0))
  b1 : Blk w (W.heap.size + 1) 26 (bytV cls)
  own : w.ownsRow (W.heap.size + 2) 5 1 v ls.length (u8V ls)
  sz : W.heap.size + 2 ≤ w.heap.size
section
variable {W w w' : World} {cls : Nat → Nat} {v : Value} {ls : List Nat}
theorem RC.go (h : RC W cls v ls w) (hb : Below w.heap.size w w') : RC W cls v ls w' :=
  ⟨h.bel.trans (hb.mono h.bel.size), h.b0.below hb h.b0.lt, h.b1.below hb h.b1.lt, own_move h.own (fun b _ _ ho _ => (hb.block b (Array.getElem?_eq_some_iff.1 ho).1).trans ho), Nat.le_trans h.sz hb.size⟩
theorem RC.tell (h : RC W cls v ls w) (b k : Nat) : RC W (fun j => if j = b then k else cls j) v ls (w.setCell ⟨W.heap.size + 1, b, none⟩ (.int .u8 (k : Int))) := by
  refine ⟨h.bel.setCell (p := ⟨W.heap.size + 1, b, none⟩) (by show W.heap.size ≤ W.heap.size + 1; omega) _, h.b0.same (Below.heap_setCell _ _ _ _ (by show W.heap.size ≠ W.heap.size + 1; omega)), ?_, own_move h.own (fun g _ e ho _ => (Below.heap_setCell _ _ _ g (by show g ≠ W.heap.size + 1; have := (h.own.lt g e).1; omega)).trans ho), by rw [World.size_setCell]; exact h.sz⟩
  rw [← bytV_set]; exact h.b1.set b _
theorem RC.push (h : RC W cls v ls w) {g c x : Nat} (hown : w'.ownsRow (W.heap.size + 2) 5 1 (.slice (some ⟨g, 0, none⟩) (ls.length + 1) c) (ls.length + 1) (u8V ls ++ [.int .u8 (x : Int)])) (hg : w.grownBy w' v.ownBlock) :
    RC W cls (.slice (some ⟨g, 0, none⟩) (ls.length + 1) c) (ls ++ [x]) w' := by
  have hlo : ∀ k, v.ownBlock = some k → W.heap.size + 2 ≤ k := fun k e => (h.own.lt k e).1
  refine ⟨h.bel.grown hg h.bel.size (fun k e => by have := hlo k e; omega), h.b0.same (hg.block _ h.b0.lt (fun e => by have := hlo _ e.symm; omega)), h.b1.same (hg.block _ h.b1.lt (fun e => by have := hlo _ e.symm; omega)), ?_, Nat.le_trans h.sz hg.size⟩
  rw [List.length_append, List.length_singleton, u8V_snoc]; exact hown
end
set_option maxRecDepth 100000 in
theorem build26_nil (W : World) : (Instr.build 26 #[]).run Try.prog W = .ok (.agg zs26) W := run_build W 26 #[] _ (by kernel_rfl)

set_option maxRecDepth 100000 in
set_option maxHeartbeats 16000000 in
theorem rclasses_any (A : Option Addr) (n cp : Nat) (l : List Quad) (W : World) (hn : n ≤ 16000) (hl : l.length = n) (hq : ∀ q ∈ l, q.ok) (ha : Arr W W.heap.size 4 A n (QdC l)) :
    Calls Try.prog 37 #[.slice A n cp] W fun e w' => ∃ cls many, ClsOk cls many l ∧ e = .returned (.tuple #[.agg (bytV cls).toArray, .int .i64 (many : Int)]) ∧ Below W.heap.size W w' := by
  obtain ⟨i5, hi5, hz5, hsz5, hbt5⟩ := info_parts info5
  have hzV := zeroV26
  have hbd := build26_nil
  have hnew : Blk ((W.alloc (.cells zs26 26)).alloc (.cells zs26 26)) (W.heap.size + 1) 26 (bytV (fun _ => 0)) := by
    have := Blk.new (W.alloc (.cells zs26 26)) 26 (bytV (fun _ => 0))
    rw [World.size_alloc] at this
    exact this
  have hst : (storeBox (.pointer (some ⟨W.heap.size + 1, 0, none⟩)) (.agg zs26)).run Try.prog ((W.alloc (.cells zs26 26)).alloc (.cells zs26 26)) = .ok () (((W.alloc (.cells zs26 26)).alloc (.cells zs26 26)).setRow (W.heap.size + 1) zs26) := store26 (f := fun _ => 0) hnew
  have hb2 : Below W.heap.size W (((W.alloc (.cells zs26 26)).alloc (.cells zs26 26)).setRow (W.heap.size + 1) zs26) := below_setRow (((Below.refl _ _).alloc (Nat.le_refl _) _).alloc (by simp) _) (by omega) _
  have h0 : Blk (((W.alloc (.cells zs26 26)).alloc (.cells zs26 26)).setRow (W.heap.size + 1) zs26) W.heap.size 26 (bytV (fun _ => 0)) := ((Blk.new W 26 (bytV (fun _ => 0))).alloc _).row_other _ (by omega)
  have h1 : Blk (((W.alloc (.cells zs26 26)).alloc (.cells zs26 26)).setRow (W.heap.size + 1) zs26) (W.heap.size + 1) 26 (bytV (fun _ => 0)) := by
    have := hnew.row zs26; simpa [zs26] using this
  have hs2 : (((W.alloc (.cells zs26 26)).alloc (.cells zs26 26)).setRow (W.heap.size + 1) zs26).heap.size = W.heap.size + 2 := by simp [World.setRow]
  have hrc : RC W (fun _ => 0) (.slice (some ⟨W.heap.size + 2, 0, none⟩) 0 0) [] ((((W.alloc (.cells zs26 26)).alloc (.cells zs26 26)).setRow (W.heap.size + 1) zs26).alloc (.cells #[] 5)) := by
    generalize ((W.alloc (.cells zs26 26)).alloc (.cells zs26 26)).setRow (W.heap.size + 1) zs26 = w2 at hb2 h0 h1 hs2
    refine ⟨hb2.alloc hb2.size _, h0.alloc _, h1.alloc _, ?_, by rw [World.size_alloc]; omega⟩
    have := World.ownsRow_made w2 #[] 0 (base := W.heap.size + 2) (e := 5) (size := 1) (by omega) (by unfold maxLen; omega) (by simp)
    rw [hs2] at this
    exact this
  have HRC := Lib.hid hrc
  have HAL := Lib.hid (fun (b c : Nat) (hb : b < 256) (hc : c < 256) (w' : World) (hb9 : Below W.heap.size W w') => alike_any A n cp l b c hb hc w' (by omega) hl hq ((ha.below hb9).more hb9.size))
  have HL := Lib.hid hl
  clear hl hq ha hrc hnew hb2 h0 h1
  go_enter Try.func37, Try.ntmps37
  go_upto_region 4 with (fail)
  clear hst hbd
  (try rw [hs2])
  generalize (((W.alloc (.cells zs26 26)).alloc (.cells zs26 26)).setRow (W.heap.size + 1) zs26).alloc (.cells #[] 5) = w1 at HRC ⊢
  clear hs2
  go_loopw [5, 6] (fun v bv wr => ∃ (b : Nat) (ls : List Nat) (cls : Nat → Nat), bv = .int .i64 (b : Int) ∧ b ≤ 256 ∧ RC W cls v ls wr ∧ RCls l b ls cls) (fun _ bv _ => 256 - (intOf bv).toNat)
  case atStart => exact ⟨0, [], fun _ => 0, rfl, by omega, HRC.out, RCls.start l _⟩
  case round =>
    clear HRC
    obtain ⟨b, ls, cls, rfl, hb, hrc, hcl⟩ := hrel
    obtain ⟨w3, rfl⟩ : ∃ w3 : World, w3 = wr := ⟨_, rfl⟩
    obtain ⟨ln, hln⟩ : ∃ ln, ln = ls.length := ⟨_, rfl⟩
    obtain ⟨Av, cv, hv⟩ := own_slice hrc.own
    rw [← hln] at hv
    have hl256 : ln ≤ 256 := by rw [hln]; exact Nat.le_trans hcl.len hb
    subst hv
    have HR := Lib.hid hrc
    have HC := Lib.hid hcl
    have HLN := Lib.hid hln
    clear hrc hcl hln
    by_cases hlt : b < 256
    · have d1 : decide ((b : Int) < 256) = true := by simp; omega
      have hw8 : (b : Int) % 256 = (b : Int) := by omega
      have hw9 : IntKind.u8.wrap (b : Int) = (b : Int) := IntWalk.u8_in _ (by omega)
      go_upto_region 8 with (fail)
      go_loopw [7, 18] (fun kv iv wr => ∃ (q : Nat), iv = .int .i64 (q : Int) ∧ q ≤ ln ∧ RC W cls (.slice Av ln cv) ls wr ∧ (kv = .int .i64 (-1) ∨ ∃ kk, kk < ln ∧ kv = .int .i64 (kk : Int) ∧ alikeB l b (ls.getD kk 0) = true)) (fun _ iv _ => ln - (intOf iv).toNat)
      case atStart => exact ⟨0, rfl, by omega, HR.out, .inl rfl⟩
      case round =>
        clear HR
        obtain ⟨q, rfl, hq, hrc, hkv⟩ := hrel
        obtain ⟨w4, rfl⟩ : ∃ w4 : World, w4 = wr := ⟨_, rfl⟩
        have HR := Lib.hid hrc
        clear hrc
        by_cases hlq : q < ln
        · have d2 : decide ((q : Int) < (ln : Int)) = true := by simp; omega
          have har := HR.out.own
          rw [← HLN.out] at har
          obtain ⟨bl, ol, rfl, _, s0⟩ := (Arr.of_own har).one hlq
          have hql : q < ls.length := by rw [← HLN.out]; exact hlq
          rw [show (u8V ls).getD q undef = .int .u8 ((ls.getD q 0 : Nat) : Int) by simp [u8V, hql]] at s0
          have hx9 := (HC.out.least q hql).1
          obtain ⟨x, hx⟩ : ∃ x, x = ls.getD q 0 := ⟨_, rfl⟩
          rw [← hx] at s0 hx9
          have hal := HAL.out b x hlt (by omega) w4 HR.out.bel
          obtain ⟨r, hr⟩ : ∃ r, r = alikeB l b x := ⟨_, rfl⟩
          rw [← hr] at hal
          have HA2 := Lib.hid hal
          have HRX := Lib.hid (And.intro hr hx)
          clear har hal hr hx hql
          rcases hkv with rfl | ⟨kk, hkk, rfl, hka⟩
          · cases r with
            | true =>
              go_wp2_with (go_at_call 61; refine HA2.out.mono ?_; rintro e w5 ⟨rfl, hb5⟩; have HR5 := Lib.hid (HR.out.go hb5); clear hb5)
              go_roundw
              case rel => exact ⟨q + 1, by go_num, by omega, HR5.out, .inr ⟨q, hlq, rfl, by rw [← HRX.out.2, ← HRX.out.1]⟩⟩
              case measure => simp [intOf]; omega
            | false =>
              go_wp2_with (go_at_call 61; refine HA2.out.mono ?_; rintro e w5 ⟨rfl, hb5⟩; have HR5 := Lib.hid (HR.out.go hb5); clear hb5)
              go_roundw
              case rel => exact ⟨q + 1, by go_num, by omega, HR5.out, .inl rfl⟩
              case measure => simp [intOf]; omega
          · have d3 : decide ((kk : Int) < 0) = false := by simp
            have HKA := Lib.hid (And.intro hkk hka)
            clear hka
            go_wp2_with fail
            go_roundw
            case rel => exact ⟨q + 1, by go_num, by omega, HR.out, .inr ⟨kk, HKA.out.1, rfl, HKA.out.2⟩⟩
            case measure => simp [intOf]; omega
        · obtain rfl : q = ln := by omega
          have d2 : decide ((q : Int) < (q : Int)) = false := by simp
          rcases hkv with rfl | ⟨kk, hkk, rfl, hka⟩
          · have hcn := cell_one_new w4 (.int .u8 (b : Int)) 5
            have hsz := HR.out.sz
            have hqb : q ≤ b := by rw [HLN.out]; exact HC.out.len
            have hw18 : (q : Int) % 256 = (q : Int) := by omega
            have hw19 : IntKind.u8.wrap (q : Int) = (q : Int) := IntWalk.u8_in _ (by omega)
            go_upto_region 16 with (at_builtin; (refine wpList_append_lies _ rfl _ _ 75 rfl (W.heap.size + 2) 5 i5 (.int .u8 0) 1 1 Try.underlying75 hi5 hz5 hsz5 hbt5 rfl (by decide) (.slice Av q cv) q _ rfl (by have h9 := HR.out.own.alloc (.cells #[.int .u8 (b : Int)] 5); rw [← HLN.out] at h9; exact h9) ⟨w4.heap.size, 0, none⟩ 1 1 [.int .u8 (b : Int)] rfl rfl hcn (by simp [Value.oneCell']) (by omega) (by unfold maxLen; omega) (by omega) (by simp; omega) _ rfl ?_; intro g5 c5 w5 hown5 hgrow5 hat5 _))
            have hr5 := (HR.out.go ((Below.refl w4.heap.size w4).alloc (Nat.le_refl _) (.cells #[.int .u8 (b : Int)] 5))).push (g := g5) (c := c5) (x := b) (by rw [← HLN.out]; exact hown5) hgrow5
            rw [← HLN.out] at hr5
            have HR5 := Lib.hid hr5
            have y0 := hr5.b1.frozen b
            have y1 := hr5.b1.cell b
            rw [bytV_get _ hlt] at y1
            clear hr5 hown5 hgrow5 hat5 hcn
            go_wp2_with fail
            go_roundw
            case rel =>
              refine ⟨b + 1, ls ++ [b], _, by go_num, by omega, HR5.out.tell b q, ?_⟩
              rw [HLN.out]; exact HC.out.new
            case measure => simp [intOf]; omega
          · have d3 : decide ((kk : Int) < 0) = false := by simp
            have hkb : kk < 256 := by omega
            have hw18 : (kk : Int) % 256 = (kk : Int) := by omega
            have hw19 : IntKind.u8.wrap (kk : Int) = (kk : Int) := IntWalk.u8_in _ (by omega)
            have HKA := Lib.hid (And.intro hkk hka)
            have y0 := HR.out.b1.frozen b
            have y1 := HR.out.b1.cell b
            rw [bytV_get _ hlt] at y1
            clear hka
            go_wp2_with fail
            go_roundw
            case rel =>
              exact ⟨b + 1, ls, _, by go_num, by omega, HR.out.tell b kk, HC.out.old (by rw [← HLN.out]; exact HKA.out.1) HKA.out.2⟩
            case measure => simp [intOf]; omega
    · have hb6 : b = 256 := by omega
      have d1 : decide ((b : Int) < 256) = false := by simp; omega
      have hcl := HC.out
      rw [hb6] at hcl
      have HOK := Lib.hid hcl.ok
      have hld := load26 HR.out.b1
      have hst := store26 (f := cls) HR.out.b0
      clear hcl hb6
      go_wp2_with fail
      (try simp only [Exit.inBlock, Exit.then])
      refine bodyPost_ret (res26 rfl rfl rfl (by have h9 := HR.out.b0.row (bytV cls).toArray; simpa using h9)) rfl ?_
      exact ⟨cls, ls.length, HOK.out, by rw [← HLN.out]; first | rfl | simp, below_setRow HR.out.bel (Nat.le_refl _) _⟩
end Go.Proofs.Ytfjhcoeehjephaa
