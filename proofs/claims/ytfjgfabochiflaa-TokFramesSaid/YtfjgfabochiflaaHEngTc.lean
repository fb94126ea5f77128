/- HEng, HNew of this seat, in one text. -/
import Derived.Test.YtfjgfabochiflaaHMTTc
import Derived.Test.YtfjgfabochiflaaHKeyTc
import Derived.Test.YtfjgfabochiflaaHCom
import Derived.OwnWalk
import Derived.Lib.OwnBridge
import Derived.Deep.RegionHeld3
/- heap.New: an engine of merges, some of them left out. -/
namespace Go.Proofs.Ytfjgfabochiflaa.H14
open Go.RowKit Go.Maps Go.WideMaps

def PairC (l : List (Int × Int)) (k j : Nat) : Value := .int .i64 (if j = 0 then (l.getD k (0,0)).1 else (l.getD k (0,0)).2)
/-- a pair's rank, among the first k merges that are not left out -/
def rankTo (dr : Nat → Bool) (l : List (Int × Int)) (a b : Int) : Nat → Option Nat
  | 0 => none
  | n + 1 => match rankTo dr l a b n with
    | some k => some k
    | none => if dr n = false ∧ l.getD n (0, 0) = (a, b) then some n else none
theorem rankTo_out {dr : Nat → Bool} {l : List (Int × Int)} {k : Nat} (h : dr k = true) (a b : Int) : rankTo dr l a b (k + 1) = rankTo dr l a b k := by
  rw [rankTo]
  cases hr : rankTo dr l a b k with
  | some m => rfl
  | none => dsimp only; rw [if_neg (by rw [h]; simp)]
theorem rankTo_old {dr : Nat → Bool} {l : List (Int × Int)} {k : Nat} (h : (rankTo dr l (l.getD k (0,0)).1 (l.getD k (0,0)).2 k).isSome = true) (a b : Int) : rankTo dr l a b (k + 1) = rankTo dr l a b k := by
  rw [rankTo]
  cases hr : rankTo dr l a b k with
  | some m => rfl
  | none =>
    dsimp only
    rw [if_neg]
    rintro ⟨_, e⟩
    rw [e] at h
    dsimp only at h
    rw [hr] at h
    cases h
theorem rankTo_new {dr : Nat → Bool} {l : List (Int × Int)} {k : Nat} (hd : dr k = false) (h : (rankTo dr l (l.getD k (0,0)).1 (l.getD k (0,0)).2 k).isSome = false) (a b : Int) : rankTo dr l a b (k + 1) = if a = (l.getD k (0,0)).1 ∧ b = (l.getD k (0,0)).2 then some k else rankTo dr l a b k := by
  rw [rankTo]
  by_cases e : a = (l.getD k (0,0)).1 ∧ b = (l.getD k (0,0)).2
  · have : rankTo dr l a b k = none := by rw [e.1, e.2]; simpa using h
    rw [this]
    dsimp only
    rw [if_pos ⟨hd, by rw [e.1, e.2]⟩, if_pos e]
  · rw [if_neg e]
    cases hr : rankTo dr l a b k with
    | some m => rfl
    | none =>
      dsimp only
      rw [if_neg]
      rintro ⟨_, e2⟩
      exact e (by rw [e2]; exact ⟨rfl, rfl⟩)
set_option maxRecDepth 100000 in
theorem wpList_lookup_ranks (w : World) {ops : Array Oper} {rest : List Oper} {o : Oper} {a : Act} {Q : Exit → Act → World → Prop}
    (hgd : o.guard = none) (m x : Operand) (hop : o.op = Op.lookup 160 m x true) (g n : Nat) (D : DataW Unit) (F : Int → Int → Option Nat) (hm : a.eval m = .map (some g))
    (hown : w.ownsMap Try.prog 94 (plainElem Try.prog 3) g n D) (hR : Ranks D F) (p q : Int) (hp : I64 p) (hq : I64 q) (hx : a.eval x = .agg #[.int .i64 p, .int .i64 q])
    (iv : Int) (ok : Bool) (hiv : (match F p q with | some k => (k : Int) | none => 0) = iv) (hok : (F p q).isSome = ok)
    (h : wpList Try.prog ops Q rest (a.put o.dst (.tuple #[.int .i64 iv, .bool ok])) w) :
    wpList Try.prog ops Q (o :: rest) a w := by
  refine wpList_plain hgd fun K' hK' => ?_
  have hrun : (Instr.lookup 160 (.map (some g)) (.agg #[.int .i64 p, .int .i64 q]) true).run Try.prog w = .ok (.tuple #[.int .i64 iv, .bool ok]) w := by
    rw [← hiv, ← hok]
    exact ranks_lookup hown hR p q hp hq
  unfold Oper.wp
  simp [execOp, hop, hm, hx, hrun, Result.andThen]
  exact hK' _ _ h
theorem i64_of (a : Int) (h0 : 0 ≤ a) (h1 : a < 9223372036854775807) : I64 a := by
  unfold I64
  exact WalkArith.wf_i64 (by omega)
/-- merge.Right -/
theorem right_any (A : Option Addr) (n c : Nat) (l : List (Int × Int)) (w : World) (hl : l.length = n) (hn : n ≤ 140737488355328) (h1 : Arr w w.heap.size 2 A n (PairC l)) :
    Calls Try.prog 67 #[.slice A n c] w fun e w' => e = .returned (.int .i64 (texts l).2) ∧ Below w.heap.size w w' := by
  go_enter Try.func67, Try.ntmps67
  go_wp2_with fail
  refine (mtexts_any A n c l w hl hn h1).mono ?_
  rintro e w' ⟨v, rfl, _, hb⟩
  go_wp2_with fail
  go_returns
  exact ⟨by first | rfl | simp, hb⟩
/-- slices.BinarySearch in no numbers -/
theorem bs_nil (x : Int) (w : World) : Calls Try.prog 91 #[.slice none 0 0, .int .i64 x] w fun e w' => e = .returned (.tuple #[.int .i64 0, .bool false]) ∧ w' = w := by
  go_enter Try.func91, Try.ntmps91
  go_wp2_with fail
  refine wp_loop_rounds 1 ?_
  rw [rounds_succ]
  go_wp2_with fail
  go_returns
  exact ⟨by first | rfl | simp, rfl⟩
end Go.Proofs.Ytfjgfabochiflaa.H14
/- heap.New with no merge left out. -/
namespace Go.Proofs.Ytfjgfabochiflaa.H14
open Go.RowKit Go.Maps Go.WideMaps
theorem below_by {B : Nat} {w0 w w' : World} {g : Nat} (h : Below B w0 w) (hB : B ≤ w.heap.size) (hg : w.grownBy w' (some g)) (hb : B ≤ g) : Below B w0 w' :=
  h.grown hg hB (fun k hk => by cases hk; exact hb)

def noDrop (_ : Nat) : Bool := false
theorem goTexts_valid : ∀ (ms : List (Int × Int)) (k : Nat) (out o : List Txt), goTexts k out ms = some o → ∀ j, j < ms.length → 0 ≤ (ms.getD j (0,0)).1 ∧ (ms.getD j (0,0)).1 < 256 + (k + j : Nat) ∧ 0 ≤ (ms.getD j (0,0)).2 ∧ (ms.getD j (0,0)).2 < 256 + (k + j : Nat)
  | [], _, _, _, _, j, hj => absurd hj (by simp)
  | m :: ms, k, out, o, h, j, hj => by
    rw [goTexts] at h
    split at h
    · cases h
    · rename_i hv
      dsimp only at h
      split at h
      · cases h
      · match j with
        | 0 => simp; omega
        | j + 1 =>
          have := goTexts_valid ms _ _ _ h j (by simpa using hj)
          simp only [List.getD_cons_succ]
          omega
theorem texts_valid {l : List (Int × Int)} (h : (texts l).2 = 0) : l.length ≤ 1024 ∧ ∀ j, j < l.length → 0 ≤ (l.getD j (0,0)).1 ∧ (l.getD j (0,0)).1 < 256 + (j : Nat) ∧ 0 ≤ (l.getD j (0,0)).2 ∧ (l.getD j (0,0)).2 < 256 + (j : Nat) := by
  unfold texts at h
  split at h
  · cases h
  · rename_i hl
    cases hg : goTexts 0 baseTexts l with
    | none => rw [hg] at h; cases h
    | some o =>
      refine ⟨by omega, fun j hj => ?_⟩
      have := goTexts_valid l 0 baseTexts o hg j hj
      omega
/-- an engine in memory: its box, its map -/
structure EngIn (w : World) (B ge gm : Nat) (free : Value) (D : DataW Unit) (k : Nat) (F : Int → Int → Option Nat) : Prop where
  geB : B ≤ ge
  gmB : B ≤ gm
  ne : ge ≠ gm
  box : Blk w ge 169 [.map (some gm), .int .i32 0, .int .u32 0, free]
  map : w.ownsMap Try.prog 94 (plainElem Try.prog 3) gm k D
  rk : Ranks D F
set_option maxRecDepth 100000 in
set_option maxHeartbeats 4000000 in
theorem new_nil (A : Option Addr) (n c : Nat) (l : List (Int × Int)) (w : World) (hl : l.length = n) (hn : n ≤ 140737488355328) (h1 : Arr w w.heap.size 2 A n (PairC l)) :
    Calls Try.prog 61 #[.slice A n c, .slice none 0 0] w fun e w' => Below w.heap.size w w' ∧
      (((texts l).2 ≠ 0 ∧ e = .returned (.tuple #[.pointer none, .int .i64 (texts l).2])) ∨
       ((texts l).2 = 0 ∧ ∃ ge gm D, e = .returned (.tuple #[.pointer (some ⟨ge, 0, none⟩), .int .i64 0]) ∧ EngIn w' w.heap.size ge gm (.slice none 0 0) D n (fun a b => rankTo noDrop l a b n))) := by
  have HR := Lib.hid (right_any A n c l w hl hn h1)
  have H1 := Lib.hid h1
  have HBS := Lib.hid (fun x W => bs_nil x W)
  clear h1
  have hmm := @run_makeMap Try.prog
  obtain ⟨er, her⟩ : ∃ er, er = (texts l).2 := ⟨_, rfl⟩
  rw [← her] at HR ⊢
  have HER := Lib.hid her
  clear her
  go_enter Try.func61, Try.ntmps61
  go_wp2_with fail
  refine HR.out.mono ?_
  rintro e w1 ⟨rfl, hb1⟩
  have HB1 := Lib.hid hb1
  clear hb1
  by_cases h0 : er = 0
  · subst h0
    have hv := texts_valid HER.out.symm
    have HV := Lib.hid hv.2
    have hn2 : n ≤ 1024 := by rw [← hl]; exact hv.1
    clear hv
    go_wp2_with fail
    refine wp_loop_rounds 1 ?_
    rw [rounds_succ]
    go_wp2_with fail
    obtain ⟨gm, hgm⟩ : ∃ gm, gm = w1.heap.size := ⟨_, rfl⟩
    obtain ⟨ge, hge⟩ : ∃ ge, ge = w1.heap.size + 1 := ⟨_, rfl⟩
    have hbx : Blk ((w1.alloc (.map #[] 0)).alloc (.cells #[.map (some w1.heap.size), .int .i32 0, .int .u32 0, .slice none 0 0] 169)) ge 169 [.map (some gm), .int .i32 0, .int .u32 0, .slice none 0 0] := by
      rw [hge, hgm, show w1.heap.size + 1 = (w1.alloc (.map #[] 0)).heap.size by simp]
      exact Blk.new _ 169 [.map (some w1.heap.size), .int .i32 0, .int .u32 0, .slice none 0 0]
    have hmp : ((w1.alloc (.map #[] 0)).alloc (.cells #[.map (some w1.heap.size), .int .i32 0, .int .u32 0, .slice none 0 0] 169)).ownsMap Try.prog 94 (plainElem (H := Unit) Try.prog 3) gm 0 (.map []) := by
      rw [hgm]
      exact (World.ownsMap_made _ _ _ _).alloc _
    have hbl : Below w.heap.size w ((w1.alloc (.map #[] 0)).alloc (.cells #[.map (some w1.heap.size), .int .i32 0, .int .u32 0, .slice none 0 0] 169)) := (HB1.out.alloc HB1.out.size _).alloc (by have := HB1.out.size; simp; omega) _
    have hgmB : w.heap.size ≤ gm := by have := HB1.out.size; omega
    have hgeB : w.heap.size ≤ ge := by omega
    have HNE := Lib.hid (show ge ≠ gm by omega)
    rw [← hge]
    generalize (w1.alloc _).alloc _ = w2 at hbx hmp hbl ⊢
    clear hgm hge
    have HBX := Lib.hid (And.intro hbx (And.intro hmp hbl))
    clear hbx hmp hbl
    go_loopw [55] (fun i wr => ∃ (k : Nat) (D : DataW Unit), k ≤ n ∧ i = .int .i64 k ∧ Below w.heap.size w wr ∧ Blk wr ge 169 [.map (some gm), .int .i32 0, .int .u32 0, .slice none 0 0] ∧ wr.ownsMap Try.prog 94 (plainElem Try.prog 3) gm k D ∧ Ranks D (fun a b => rankTo noDrop l a b k)) (fun i _ => n - (intOf i).toNat)
    case atStart => exact ⟨0, .map [], by omega, rfl, HBX.out.2.2, HBX.out.1, HBX.out.2.1, ranks_empty⟩
    case round =>
      obtain ⟨k, D, hk, rfl, hbw, hbx, hmap, hR⟩ := hrel
      have HRK := Lib.hid hR
      have hsw := hbw.size
      have hgml := hmap.lt
      have hgel := hbx.lt
      clear hR
      by_cases hlt : k < n
      · obtain ⟨b, off, rfl, hadlt, hc0, hc1⟩ := (H1.out.below hbw).two hlt
        simp only [PairC, reduceIte, Nat.succ_ne_zero] at hc0 hc1
        obtain ⟨m1, hm1⟩ : ∃ m1, m1 = (l.getD k (0,0)).1 := ⟨_, rfl⟩
        obtain ⟨m2, hm2⟩ : ∃ m2, m2 = (l.getD k (0,0)).2 := ⟨_, rfl⟩
        rw [← hm1] at hc0
        rw [← hm2] at hc1
        have hv := HV.out k (by omega)
        rw [← hm1, ← hm2] at hv
        have HI1 := Lib.hid (i64_of m1 hv.1 (by omega))
        have HI2 := Lib.hid (i64_of m2 hv.2.2.1 (by omega))
        have HM := Lib.hid (And.intro hm1 hm2)
        clear hm1 hm2 hv
        obtain ⟨W3, hW3⟩ : ∃ W3, W3 = wr.alloc (.cells #[.int .i64 m1, .int .i64 m2] 94) := ⟨_, rfl⟩
        have hq0 : W3.cell? ⟨ge, 0, none⟩ = some (.map (some gm)) := by rw [hW3]; exact (hbx.alloc _).cell 0
        have hy0 : W3.cell? ⟨wr.heap.size, 0, none⟩ = some (.int .i64 m1) := by rw [hW3]; exact (Blk.new wr 94 [.int .i64 m1, .int .i64 m2]).cell 0
        have hy1 : W3.cell? ⟨wr.heap.size, 1, none⟩ = some (.int .i64 m2) := by rw [hW3]; exact (Blk.new wr 94 [.int .i64 m1, .int .i64 m2]).cell 1
        have hm3 := hmap.alloc (.cells #[.int .i64 m1, .int .i64 m2] 94)
        rw [← hW3] at hm3
        cases hrk : rankTo noDrop l m1 m2 k with
        | some r =>
          have hlook : ∀ nq, (Instr.lookup 160 (.map (some gm)) (.agg #[.int .i64 m1, .int .i64 m2]) true).run Try.prog (W3.drewN nq) = .ok (.tuple #[.int .i64 (r : Int), .bool true]) (W3.drewN nq) := fun nq => by
            rw [ranks_lookup (map_drewN hm3 nq) HRK.out m1 m2 HI1.out HI2.out, hrk]; rfl
          have HRR := Lib.hid hrk
          clear hrk
          go_wp2_with (go_at_call 91; refine (HBS.out _ _).mono ?_; rintro e w' ⟨rfl, rfl⟩)
          rw [← hW3]
          have HW3 := Lib.hid hW3
          clear hW3
          go_quiet (fail)
          go_wp2_with fail
          go_roundw
          case rel =>
            have e : (fun a b => rankTo noDrop l a b (k + 1)) = fun a b => rankTo noDrop l a b k := by
              funext a b
              exact rankTo_old (by rw [← HM.out.1, ← HM.out.2, HRR.out]; rfl) a b
            refine ⟨k + 1, D, by omega, by go_num, ?_, ?_, ?_, ?_⟩
            · rw [HW3.out]; exact below_drewN (hbw.alloc hsw _) _
            · rw [HW3.out]; exact (hbx.alloc _).drewN _
            · exact (map_drewN hm3 _).mono (by omega)
            · rw [e]; exact HRK.out
          case measure => simp [intOf]; omega
        | none =>
          have hlook : ∀ nq, (Instr.lookup 160 (.map (some gm)) (.agg #[.int .i64 m1, .int .i64 m2]) true).run Try.prog (W3.drewN nq) = .ok (.tuple #[.int .i64 (0 : Int), .bool false]) (W3.drewN nq) := fun nq => by
            rw [ranks_lookup (map_drewN hm3 nq) HRK.out m1 m2 HI1.out HI2.out, hrk]; rfl
          have HRR := Lib.hid hrk
          clear hrk
          go_wp2_with (go_at_call 91; refine (HBS.out _ _).mono ?_; rintro e w' ⟨rfl, rfl⟩)
          rw [← hW3]
          have HW3 := Lib.hid hW3
          clear hW3
          go_quiet (fail)
          clear hlook
          have hq9 : (W3.drewN nq).cell? ⟨ge, 0, none⟩ = some (.map (some gm)) := hq0
          have hy8 : (W3.drewN nq).cell? ⟨wr.heap.size, 0, none⟩ = some (.int .i64 m1) := hy0
          have hy9 : (W3.drewN nq).cell? ⟨wr.heap.size, 1, none⟩ = some (.int .i64 m2) := hy1
          have hm4 := map_drewN hm3 nq
          have hb4 : Below w.heap.size w (W3.drewN nq) := by rw [HW3.out]; exact below_drewN (hbw.alloc hsw _) _
          have hx4 : Blk (W3.drewN nq) ge 169 [.map (some gm), .int .i32 0, .int .u32 0, .slice none 0 0] := by rw [HW3.out]; exact (hbx.alloc _).drewN _
          generalize W3.drewN nq = W4 at hq9 hy8 hy9 hm4 hb4 hx4 ⊢
          clear hq0 hy0 hy1 hm3
          have hmd : W4.drew.ownsMap Try.prog 94 (plainElem (H := Unit) Try.prog 3) gm k D := map_drewN hm4 1
          have hbd : Below w.heap.size w W4.drew := below_drewN hb4 1
          have hxd : Blk W4.drew ge 169 [.map (some gm), .int .i32 0, .int .u32 0, .slice none 0 0] := hx4.drewN 1
          obtain ⟨w5, hrun, hm5, hg5⟩ := hmd.update keyed43 Try.underlying160 (by unfold maxLen; omega) (keyOf43 m1 m2 HI1.out HI2.out) (plainElem_int (H := Unit) Try.underlying3 (i64_of (k : Int) (by omega) (by omega)))
          have hb5 := below_by hbd (by have := hb4.size; simpa using this) hg5 hgmB
          have hx5 : Blk w5 ge 169 [.map (some gm), .int .i32 0, .int .u32 0, .slice none 0 0] := (hg5.block ge hxd.lt (fun e9 => HNE.out (Option.some.inj e9))).trans hxd
          have H5 := Lib.hid (And.intro hm5 (And.intro hb5 hx5))
          clear hm4 hb4 hx4 hmd hbd hxd hm5 hg5 hb5 hx5
          go_wp2_with fail
          go_region
          go_wp2_with fail
          go_roundw
          case rel =>
            have e : (fun a b => rankTo noDrop l a b (k + 1)) = fun a b => if a = m1 ∧ b = m2 then some k else rankTo noDrop l a b k := by
              funext a b
              rw [rankTo_new rfl (by rw [← HM.out.1, ← HM.out.2, HRR.out]; rfl) a b, HM.out.1, HM.out.2]
            exact ⟨k + 1, _, by omega, by go_num, H5.out.2.1, H5.out.2.2, H5.out.1, by rw [e]; exact ranks_put HRK.out m1 m2 HI1.out HI2.out k⟩
          case measure => simp [intOf]; omega
      · have hk2 : k = n := by omega
        subst hk2
        have H6 := Lib.hid (show EngIn wr w.heap.size ge gm (.slice none 0 0) D k (fun a b => rankTo noDrop l a b k) from ⟨hgeB, hgmB, HNE.out, hbx, hmap, HRK.out⟩)
        clear hbx hmap
        go_wp2_with fail
        go_returns
        exact ⟨hbw, ge, by first | rfl | simp, gm, D, H6.out⟩
  · have e0 : (er == 0) = false := by simpa using h0
    go_wp2_with fail
    go_returns
    exact ⟨HB1.out, .inl ⟨h0, by first | rfl | simp⟩⟩
end Go.Proofs.Ytfjgfabochiflaa.H14
