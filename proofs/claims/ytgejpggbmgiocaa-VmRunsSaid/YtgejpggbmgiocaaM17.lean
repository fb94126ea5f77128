/- RMerge of this seat, in one text. -/
import Derived.Test.YtgejpggbmgiocaaM15
import Derived.Deep.RegionHeld3
/- The reference's Merge: what it gives. -/
namespace Go.Proofs.Ytgejpggbmgiocaa
open Go.RowKit
/-- what is put for the first k of a list behind a merge -/
def builtM (l : List Int) (a : Nat) (x : Int) (k : Nat) : List Int := (List.range k).flatMap fun i => if i = a then [x] else if i = a + 1 then [] else [l.getD i 0]
theorem builtM_succ (l : List Int) (a : Nat) (x : Int) (k : Nat) : builtM l a x (k + 1) = builtM l a x k ++ (if k = a then [x] else if k = a + 1 then [] else [l.getD k 0]) := by
  unfold builtM
  rw [List.range_succ, List.flatMap_append]
  simp
theorem builtM_eq (l : List Int) (a : Nat) (x : Int) : ∀ k, k ≤ l.length → builtM l a x k = if k ≤ a then l.take k else if k = a + 1 then l.take a ++ [x] else l.take a ++ x :: (l.drop (a + 2)).take (k - a - 2) := fun k => by
  induction k with
  | zero => intro _; simp [builtM]
  | succ k ih =>
    intro hk
    rw [builtM_succ, ih (by omega)]
    rcases (by omega : k < a ∨ k = a ∨ k = a + 1 ∨ a + 1 < k) with h | h | h | h
    · rw [if_pos (by omega), if_neg (by omega), if_neg (by omega), if_pos (by omega), List.take_succ_eq_append_getElem (by omega)]
      simp [show k < l.length by omega]
    · subst h
      rw [if_pos (by omega), if_pos rfl, if_neg (by omega), if_pos rfl]
    · subst h
      rw [if_neg (by omega), if_pos rfl, if_neg (by omega), if_pos rfl, if_neg (by omega), if_neg (by omega)]
      simp
      omega
    · rw [if_neg (by omega), if_neg (by omega), if_neg (by omega), if_neg (by omega), if_neg (by omega), if_neg (by omega)]
      have e : k + 1 - a - 2 = (k - a - 2) + 1 := by omega
      have hd : k - a - 2 < (l.drop (a + 2)).length := by rw [List.length_drop]; omega
      rw [e, List.take_succ_eq_append_getElem hd]
      simp [show a + 2 + (k - a - 2) = k by omega, show k < l.length by omega]
theorem builtM_all (l : List Int) (a : Nat) (x : Int) (h : a + 1 < l.length) : builtM l a x l.length = mergeAt l a x := by
  rw [builtM_eq l a x l.length (Nat.le_refl _), if_neg (by omega)]
  unfold mergeAt
  by_cases e : l.length = a + 1
  · omega
  · rw [if_neg e]
    congr 2
    rw [List.take_of_length_le]
    rw [List.length_drop]; omega
theorem length_builtM (l : List Int) (a : Nat) (x : Int) (k : Nat) : (builtM l a x k).length ≤ k := by
  induction k with
  | zero => simp [builtM]
  | succ k ih =>
    rw [builtM_succ, List.length_append]
    have : (if k = a then [x] else if k = a + 1 then [] else [l.getD k 0]).length ≤ 1 := by split <;> (try split) <;> simp
    omega
/-- the search for the pair: what it holds when k pairs are seen -/
def Seen (S K V : List Int) (cur : List Int) (k : Nat) (at_ best : Value) : Prop :=
  match bestTo (hget S K V) cur k with
  | none => at_ = .int .i64 (-1) ∧ best = .int .u64 0
  | some (a, r, x) => at_ = .int .i64 a ∧ best = .int .u64 (r * 4294967296 + x)
theorem hget_val {S K V : List Int} {a b r x : Int} (h : hget S K V a b = some (r, x)) : (hashGet mix S K V (a * 4294967296 + b)).2 = true ∧ (hashGet mix S K V (a * 4294967296 + b)).1 = r * 4294967296 + x := by
  unfold hget at h
  split at h
  · rename_i h9
    cases h
    refine ⟨h9, ?_⟩
    omega
  · cases h
theorem mergeAt_range {l : List Int} {a : Nat} {x signs : Int} (h : ∀ j, j < l.length → 0 ≤ l.getD j 0 ∧ l.getD j 0 < signs) (hx : 0 ≤ x) (hs : x < signs) : ∀ j, j < (mergeAt l a x).length → 0 ≤ (mergeAt l a x).getD j 0 ∧ (mergeAt l a x).getD j 0 < signs := by
  have hm : ∀ y ∈ l, 0 ≤ y ∧ y < signs := fun y hy => by
    obtain ⟨j, hj, rfl⟩ := List.getElem_of_mem hy
    have := h j hj
    simpa [hj] using this
  intro j hj
  have hmem : (mergeAt l a x).getD j 0 ∈ mergeAt l a x := by simp [hj]
  unfold mergeAt at hmem ⊢
  rcases List.mem_append.mp hmem with h9 | h9
  · exact hm _ (List.mem_of_mem_take h9)
  · rcases List.mem_cons.mp h9 with h8 | h8
    · rw [h8]; exact ⟨hx, hs⟩
    · exact hm _ (List.mem_of_mem_drop h8)
/-- the reference's memory: the hash in its box B, and a row of signs -/
structure RM (w0 : World) (A0 A1 A2 : Option Addr) (n0 n1 n2 c0 c1 c2 : Nat) (S K V : List Int) (B : Nat) (W : World) (v : Value) (cur : List Int) : Prop where
  bel : Below B w0 W
  hin : HashIn w0 A0 A1 A2 n0 n1 n2 S K V
  hB : w0.heap.size = B
  hv : Under 18446744073709551616 V
  hb : Blk W B 25 [.slice A0 n0 c0, .slice A1 n1 c1, .slice A2 n2 c2]
  own : W.ownsRow (B + 1) 3 1 v cur.length (numsV .i64 cur)
section
variable {w0 : World} {A0 A1 A2 : Option Addr} {n0 n1 n2 c0 c1 c2 : Nat} {S K V : List Int} {B : Nat} {W W' : World} {v v' : Value} {cur cur' : List Int}
theorem RM.go (h : RM w0 A0 A1 A2 n0 n1 n2 c0 c1 c2 S K V B W v cur) (hb : Below W.heap.size W W') : RM w0 A0 A1 A2 n0 n1 n2 c0 c1 c2 S K V B W' v cur :=
  ⟨h.bel.trans (hb.mono (Nat.le_of_lt h.hb.lt)), h.hin, h.hB, h.hv, h.hb.below hb h.hb.lt, own_move h.own (fun b _ e ho _ => (hb.block b (h.own.lt b e).2).trans ho)⟩
theorem RM.hash (h : RM w0 A0 A1 A2 n0 n1 n2 c0 c1 c2 S K V B W v cur) : HashIn W A0 A1 A2 n0 n1 n2 S K V := h.hin.keep (by rw [h.hB]; exact h.bel)
theorem RM.row (h : RM w0 A0 A1 A2 n0 n1 n2 c0 c1 c2 S K V B W v cur) (hb : Below (B + 1) W W') (ho : W'.ownsRow (B + 1) 3 1 v' cur'.length (numsV .i64 cur')) : RM w0 A0 A1 A2 n0 n1 n2 c0 c1 c2 S K V B W' v' cur' :=
  ⟨h.bel.trans (hb.mono (by omega)), h.hin, h.hB, h.hv, h.hb.below hb (by omega), ho⟩
theorem RM.drew (h : RM w0 A0 A1 A2 n0 n1 n2 c0 c1 c2 S K V B W v cur) : RM w0 A0 A1 A2 n0 n1 n2 c0 c1 c2 S K V B W.drew v cur := h.go (Below.refl _ _).drew
end
theorem own_up {W : World} {b b' n size : Nat} {e : TypeId} {v : Value} {xs : List Value} (h : W.ownsRow b e size v n xs) (hb : b' ≤ b) : W.ownsRow b' e size v n xs :=
  ⟨h.1, h.2.imp id (fun ⟨g, cap, cur, hv, hg, r⟩ => ⟨g, cap, cur, hv, by omega, r⟩)⟩
def lenOf2 : Value → Nat
  | .slice _ n _ => n
  | _ => 0
set_option maxRecDepth 100000 in
set_option maxHeartbeats 8000000 in
theorem rmerge_any (A0 A1 A2 AL : Option Addr) (n0 n1 n2 c0 c1 c2 n cL : Nat) (S K V l : List Int) (signs : Int) (w : World) (h : HashIn w A0 A1 A2 n0 n1 n2 S K V) (hv : Under 18446744073709551616 V)
    (hs0 : 0 ≤ signs) (hs1 : signs ≤ 65536) (hn : n ≤ 262144) (hl : l.length = n) (hL : Arr w w.heap.size 1 AL n (IntC l)) :
    Calls Try.prog 8 #[.agg #[.slice A0 n0 c0, .slice A1 n1 c1, .slice A2 n2 c2], .int .i64 signs, .slice AL n cL] w (MRes (if badId signs l = true then none else mergeF (hget S K V) signs l) w) := by
  obtain ⟨B, hB⟩ : ∃ B, B = w.heap.size := ⟨_, rfl⟩
  have HB := Lib.hid hB
  have hM0 : RM w A0 A1 A2 n0 n1 n2 c0 c1 c2 S K V B ((w.alloc (.cells #[.slice A0 n0 c0, .slice A1 n1 c1, .slice A2 n2 c2] 25)).alloc (.cells #[] 3)) (.slice (some ⟨B + 1, 0, none⟩) 0 0) [] := by
    refine ⟨by rw [hB]; exact ((Below.refl _ _).alloc (Nat.le_refl _) _).alloc (by simp) _, h, hB.symm, hv, by rw [hB]; exact (Blk.new w 25 [.slice A0 n0 c0, .slice A1 n1 c1, .slice A2 n2 c2]).alloc _, ?_⟩
    have := World.ownsRow_made (base := B + 1) (size := 1) (e := 3) (w.alloc (.cells #[.slice A0 n0 c0, .slice A1 n1 c1, .slice A2 n2 c2] 25)) #[] 0 (by rw [hB]; simp) (by simp [maxLen]) rfl
    rw [show (w.alloc (.cells #[.slice A0 n0 c0, .slice A1 n1 c1, .slice A2 n2 c2] 25)).heap.size = B + 1 by rw [hB]; simp] at this
    exact this
  have HM0 := Lib.hid hM0
  have HL := Lib.hid hL
  have HV := Lib.hid hv
  obtain ⟨R, hR⟩ : ∃ R, R = (if badId signs l = true then none else mergeF (hget S K V) signs l) := ⟨_, rfl⟩
  have HR := Lib.hid hR
  rw [← hR]
  clear h hL hv hR hM0
  obtain ⟨i3, hi3, hz3, hsz3, hbt3⟩ := info_parts info3
  go_enter Try.func8, Try.ntmps8
  go_upto_block 0 with (fail)
  rw [← hB]
  generalize (w.alloc _).alloc _ = w1 at HM0 ⊢
  clear hB
  go_cut [8, 10] from 20 (fun v _x wx => (∀ j, j < n → 0 ≤ l.getD j 0 ∧ l.getD j 0 < signs) ∧ RM w A0 A1 A2 n0 n1 n2 c0 c1 c2 S K V B wx v l)
  case first =>
    as_aux_lemma =>
      go_wp2_with fail
      go_loopw [8, 23] (fun v i wr => ∃ k : Nat, k ≤ n ∧ i = .int .i64 k ∧ (∀ j, j < k → 0 ≤ l.getD j 0 ∧ l.getD j 0 < signs) ∧ RM w A0 A1 A2 n0 n1 n2 c0 c1 c2 S K V B wr v (l.take k)) (fun _ i _ => n - (intOf i).toNat)
      case atStart => exact ⟨0, by omega, rfl, fun j hj => by omega, HM0.out⟩
      case round =>
        obtain ⟨k, hk, rfl, hpos, hM⟩ := hrel
        have H := Lib.hid hM
        have HP := Lib.hid hpos
        clear hM hpos
        by_cases hlt : k < n
        · obtain ⟨b, o, rfl, hbB, hc⟩ := HL.out.one hlt
          have hc := (H.out.bel.cell (p := ⟨b, o + k, none⟩) (by show b < B; rw [HB.out]; exact hbB)).trans hc
          unfold IntC at hc
          obtain ⟨x, hx⟩ : ∃ x, x = l.getD k 0 := ⟨_, rfl⟩
          rw [← hx] at hc
          have HX := Lib.hid hx
          clear hx
          by_cases hx0 : x < 0
          · have e1 : decide (x < 0) = true := by simpa using hx0
            have hbad := badId_yes (signs := signs) (l := l) (k := k) (by rw [hl]; exact hlt) (.inl (by rw [← HX.out]; exact hx0))
            have HBAD := Lib.hid hbad
            clear hbad
            go_wp2_with fail
            go_returns
            rw [HR.out, if_pos HBAD.out]
            exact ⟨by rw [← HB.out]; exact H.out.bel, rfl⟩
          · have e1 : decide (x < 0) = false := by simpa using hx0
            by_cases hx1 : signs ≤ x
            · have e2 : decide (signs ≤ x) = true := by simpa using hx1
              have hbad := badId_yes (signs := signs) (l := l) (k := k) (by rw [hl]; exact hlt) (.inr (by rw [← HX.out]; exact hx1))
              have HBAD := Lib.hid hbad
              clear hbad
              go_wp2_with fail
              go_returns
              rw [HR.out, if_pos HBAD.out]
              exact ⟨by rw [← HB.out]; exact H.out.bel, rfl⟩
            · have e2 : decide (signs ≤ x) = false := by simpa using hx1
              have hrl : (l.take k).length = k := by rw [List.length_take, hl]; omega
              have ho := H.out.own
              rw [hrl] at ho
              have HO := Lib.hid ho
              have hlt9 := H.out.hb.lt
              obtain ⟨A, cp, rfl⟩ := own_sl ho
              clear ho
              go_wp2_with (first
                | (at_builtin; refine wpList_app1 wr _ rfl (.tmp 34) (.tmp 36) 26 rfl (B + 1) 3 i3 _ 8 Try.underlying26 hi3 hz3 hsz3 hbt3 rfl _ k (numsV .i64 (l.take k)) rfl (HO.out.alloc _) ((Below.refl _ _).alloc (by omega) _) (.int .i64 x) _ rfl (by go_simp) rfl (by omega) (by unfold maxLen; omega) (by simp; omega) ?_; intro v1 w11 hown1 hb1 hg1))
              go_roundw
              case rel =>
                refine ⟨k + 1, by omega, by go_num, fun j hj => ?_, ?_⟩
                · by_cases e : j = k
                  · subst e; rw [← HX.out]; omega
                  · exact HP.out j (by omega)
                · refine H.out.row hb1 ?_
                  rw [List.length_take, hl, Nat.min_eq_left (by omega), getD_take _ _ (by rw [hl]; exact hlt), numsV_snoc, ← HX.out]
                  exact hown1
              case measure => simp [intOf]; omega
        · obtain rfl : n = k := by omega
          go_wp2_with fail
          go_meet
          refine ⟨HP.out, ?_⟩
          have := H.out
          rw [List.take_of_length_le (by omega)] at this
          exact this
  case rest =>
    obtain ⟨hpos, hM⟩ := hcut
    have hR0 : R = mergeF (hget S K V) signs l := by rw [HR.out, badId_no (fun j hj => hpos j (by rw [hl] at hj; exact hj)), if_neg (by simp)]
    have HR0 := Lib.hid hR0
    have HM := Lib.hid hM
    have HP := Lib.hid (show ∀ j, j < l.length → 0 ≤ l.getD j 0 ∧ l.getD j 0 < signs by rw [hl]; exact hpos)
    clear hpos hM hR0 HR HM0
    go_wp2_with fail
    go_loopw [8] (fun v wq => ∃ cur, RM w A0 A1 A2 n0 n1 n2 c0 c1 c2 S K V B wq v cur ∧ (∀ j, j < cur.length → 0 ≤ cur.getD j 0 ∧ cur.getD j 0 < signs) ∧ cur.length ≤ n ∧ mergeF (hget S K V) signs cur = mergeF (hget S K V) signs l) (fun v _ => lenOf2 v)
    case atStart => exact ⟨l, HM.out, HP.out, by omega, rfl⟩
    case round =>
      obtain ⟨cur, hM, hP, hcl, hval⟩ := hrel
      have H := Lib.hid hM
      have HPC := Lib.hid hP
      have HVAL := Lib.hid hval
      obtain ⟨A, cp, rfl⟩ := own_sl hM.own
      obtain ⟨m, hm⟩ : ∃ m, m = cur.length := ⟨_, rfl⟩
      have hown := hM.own
      rw [← hm] at hown hcl ⊢
      have HO := Lib.hid hown
      have HMC := Lib.hid hm
      clear hM hP hval hown hm
      obtain ⟨w2, rfl⟩ : ∃ w2 : World, w2 = wr := ⟨_, rfl⟩
      go_upto_block 4 with (fail)
      go_cut [11, 12, 13, 14, 15] from 39 to 77 (fun va vb _x _y _z wx => Seen S K V cur (m - 1) va vb ∧ RM w A0 A1 A2 n0 n1 n2 c0 c1 c2 S K V B wx (.slice A m cp) cur)
      case first =>
        go_wp2_with fail
        go_loopw [11, 12, 13] (fun va vb i wq => ∃ k : Nat, (k = 0 ∨ k + 1 ≤ m) ∧ i = .int .i64 k ∧ Seen S K V cur k va vb ∧ RM w A0 A1 A2 n0 n1 n2 c0 c1 c2 S K V B wq (.slice A m cp) cur) (fun _ _ i _ => m - (intOf i).toNat)
        case atStart => exact ⟨0, .inl rfl, rfl, ⟨rfl, rfl⟩, by have := H.out; rw [← HMC.out] at this; exact this⟩
        case round =>
          obtain ⟨k, hk, rfl, hseen, hM⟩ := hrel
          have H3 := Lib.hid hM
          have HS := Lib.hid hseen
          clear hM hseen
          by_cases hlt : k + 1 < m
          · have ho3 := H3.out.own
            rw [← HMC.out] at ho3
            obtain ⟨g, cap, hfo, _⟩ := ho3.form (by omega)
            injection hfo with hfo1 hfo2 hfo3
            subst hfo1
            clear hfo2 hfo3 cap ho3
            have hcx : ∀ W, RM w A0 A1 A2 n0 n1 n2 c0 c1 c2 S K V B W (.slice (some ⟨g, 0, none⟩) m cp) cur → W.cell? ⟨g, k, none⟩ = some (.int .i64 (cur.getD k 0)) := fun W h => by
              have ho := h.own
              rw [← HMC.out] at ho
              rw [ho.cellAt k (by omega)]
              simp [numsV, show k < cur.length by have := HMC.out; omega]
            have hcy : ∀ W, RM w A0 A1 A2 n0 n1 n2 c0 c1 c2 S K V B W (.slice (some ⟨g, 0, none⟩) m cp) cur → W.cell? ⟨g, k + 1, none⟩ = some (.int .i64 (cur.getD (k + 1) 0)) := fun W h => by
              have ho := h.own
              rw [← HMC.out] at ho
              rw [ho.cellAt (k + 1) (by omega)]
              simp [numsV, show k + 1 < cur.length by have := HMC.out; omega]
            have hq0 : ∀ W, RM w A0 A1 A2 n0 n1 n2 c0 c1 c2 S K V B W (.slice (some ⟨g, 0, none⟩) m cp) cur → W.cell? ⟨B, 0, none⟩ = some (.slice A0 n0 c0) := fun W h => h.hb.cell 0
            have hq1 : ∀ W, RM w A0 A1 A2 n0 n1 n2 c0 c1 c2 S K V B W (.slice (some ⟨g, 0, none⟩) m cp) cur → W.cell? ⟨B, 1, none⟩ = some (.slice A1 n1 c1) := fun W h => h.hb.cell 1
            have hq2 : ∀ W, RM w A0 A1 A2 n0 n1 n2 c0 c1 c2 S K V B W (.slice (some ⟨g, 0, none⟩) m cp) cur → W.cell? ⟨B, 2, none⟩ = some (.slice A2 n2 c2) := fun W h => h.hb.cell 2
            obtain ⟨x, hx⟩ : ∃ x, x = cur.getD k 0 := ⟨_, rfl⟩
            obtain ⟨y, hy⟩ : ∃ y, y = cur.getD (k + 1) 0 := ⟨_, rfl⟩
            have hxr := HPC.out k (by have := HMC.out; omega)
            have hyr := HPC.out (k + 1) (by have := HMC.out; omega)
            rw [← hx] at hcx hxr
            rw [← hy] at hcy hyr
            have HXY := Lib.hid (And.intro hx hy)
            have hG := fun W (h : RM w A0 A1 A2 n0 n1 n2 c0 c1 c2 S K V B W (.slice (some ⟨g, 0, none⟩) m cp) cur) => h.hash.rget c0 c1 c2 (x * 4294967296 + y)
            obtain ⟨rr, hrr⟩ : ∃ r, r = hashGet mix S K V (x * 4294967296 + y) := ⟨_, rfl⟩
            have hrb := hashGet_bd (S := S) (K := K) HV.out (x * 4294967296 + y)
            have hbt : bestTo (hget S K V) cur (k + 1) = match (if rr.2 = true then some (rr.1 / 4294967296, rr.1 % 4294967296) else none : Option (Int × Int)), bestTo (hget S K V) cur k with
                | none, b => b
                | some (r, x), none => some (k, r, x)
                | some (r, x), some (a, r', x') => if r < r' then some (k, r, x) else some (a, r', x') := by
              rw [hrr]
              conv => lhs; unfold bestTo
              rw [← hx, ← hy]
              unfold hget
              rfl
            rw [← hrr] at hG hrb
            have HG := Lib.hid hG
            have HBT := Lib.hid hbt
            clear hG hrr hbt
            obtain ⟨v, is⟩ := rr
            simp only at hrb
            have hw1 : IntKind.i64.wrap ((k : Int) + 1) = (k : Int) + 1 := IntWalk.i64_in _ ⟨by omega, by omega⟩
            have hw2 : IntKind.u64.wrap x = x := wrap_u64_in _ (by omega) (by omega)
            have hw3 : IntKind.u64.wrap y = y := wrap_u64_in _ (by omega) (by omega)
            have hw4 : IntKind.u64.wrap (x * 4294967296) = x * 4294967296 := wrap_u64_in _ (by omega) (by omega)
            have hw5 : IntKind.u64.wrap (x * 4294967296 + y) = x * 4294967296 + y := wrap_u64_in _ (by omega) (by omega)
            have hw6 : ((k : Int) + 1).toNat = k + 1 := by omega
            have i0 : (0 : Int) ≤ (k : Int) + 1 := by omega
            have i1 : (k : Int) + 1 < (m : Int) := by omega
            have i2 : (k : Int) < (m : Int) := by omega
            have HS0 := HS.out
            clear hx hy
            obtain ⟨bt, hbt⟩ : ∃ b, b = bestTo (hget S K V) cur k := ⟨_, rfl⟩
            have hspec := bestTo_spec (get := hget S K V) cur k
            unfold Seen at HS0
            rw [← hbt] at HS0 hspec
            have HBK := Lib.hid hbt
            have HSP := Lib.hid hspec
            have HS1 := Lib.hid HS0
            clear HS0 hbt hspec
            go_wp2_with fail
            go_region_held3 (fun W => RM w A0 A1 A2 n0 n1 n2 c0 c1 c2 S K V B W (.slice (some ⟨g, 0, none⟩) m cp) cur)
              (first
                | assumption
                | exact M9
                | exact H3.out.drew)
              (first
                | (go_at_call 18; refine (HG.out _ (by assumption)).mono ?_; rintro e w3 ⟨rfl, hb3⟩; have M9 : RM w A0 A1 A2 n0 n1 n2 c0 c1 c2 S K V B w3 (.slice (some ⟨g, 0, none⟩) m cp) cur := RM.go (by assumption) hb3))
            have H4 := Lib.hid M9
            clear hb3 HG hcx hcy hq0 hq1 hq2 hw1 hw2 hw3 hw4 hw5 hw6 i0
            have hx0 : k + 1 ≤ m := by omega
            cases is with
            | false =>
              have hn : bestTo (hget S K V) cur (k + 1) = bt := by
                rw [HBT.out, if_neg (by simp), HBK.out]
              have HN := Lib.hid hn
              clear hn
              cases bt with
              | none =>
                obtain ⟨rfl, rfl⟩ := HS1.out
                go_wp2_with fail
                go_roundw
                case rel => exact ⟨k + 1, .inr (by omega), by go_num, by unfold Seen; rw [HN.out]; exact ⟨rfl, rfl⟩, H4.out⟩
                case measure => simp [intOf]; omega
              | some bb =>
                obtain ⟨a, r, z⟩ := bb
                obtain ⟨rfl, rfl⟩ := HS1.out
                go_wp2_with fail
                go_roundw
                case rel => exact ⟨k + 1, .inr (by omega), by go_num, by unfold Seen; rw [HN.out]; exact ⟨rfl, rfl⟩, H4.out⟩
                case measure => simp [intOf]; omega
            | true =>
              have hv1 : IntKind.u64.wrap (v.tdiv 4294967296) = v / 4294967296 := wrap_tdiv v 4294967296 hrb.1 hrb.2 (by decide)
              have hv2 : v / 4294967296 * 4294967296 + v % 4294967296 = v := by omega
              cases bt with
              | none =>
                have hn : bestTo (hget S K V) cur (k + 1) = some (k, v / 4294967296, v % 4294967296) := by
                  rw [HBT.out, if_pos rfl, ← HBK.out]
                have HN := Lib.hid (And.intro hn hv2)
                clear hn hv2
                obtain ⟨rfl, rfl⟩ := HS1.out
                go_wp2_with fail
                go_roundw
                case rel => exact ⟨k + 1, .inr (by omega), by go_num, by unfold Seen; rw [HN.out.1]; exact ⟨rfl, by rw [HN.out.2]⟩, H4.out⟩
                case measure => simp [intOf]; omega
              | some bb =>
                obtain ⟨a, r, z⟩ := bb
                obtain ⟨rfl, rfl⟩ := HS1.out
                have hsp := HSP.out
                simp only at hsp
                have hrz := hget_bd HV.out hsp.2.1
                have hb1 : IntKind.u64.wrap ((r * 4294967296 + z).tdiv 4294967296) = r := by
                  rw [wrap_tdiv _ 4294967296 (by omega) (by omega) (by decide)]
                  omega
                have ha0 : decide ((a : Int) < 0) = false := by simp
                have hal : a < k := hsp.1
                by_cases hlt2 : v / 4294967296 < r
                · have hn : bestTo (hget S K V) cur (k + 1) = some (k, v / 4294967296, v % 4294967296) := by
                    rw [HBT.out, if_pos rfl, ← HBK.out]
                    simp only
                    rw [if_pos hlt2]
                  have d2 : decide (v / 4294967296 < r) = true := by simpa using hlt2
                  have HN := Lib.hid (And.intro hn hv2)
                  clear hn hv2 hsp hrz
                  go_wp2_with fail
                  go_roundw
                  case rel => exact ⟨k + 1, .inr (by omega), by go_num, by unfold Seen; rw [HN.out.1]; exact ⟨rfl, by rw [HN.out.2]⟩, H4.out⟩
                  case measure => simp [intOf]; omega
                · have hn : bestTo (hget S K V) cur (k + 1) = some (a, r, z) := by
                    rw [HBT.out, if_pos rfl, ← HBK.out]
                    simp only
                    rw [if_neg hlt2]
                  have d2 : decide (v / 4294967296 < r) = false := by simpa using hlt2
                  have HN := Lib.hid hn
                  clear hn hv2 hsp hrz
                  go_wp2_with fail
                  go_roundw
                  case rel => exact ⟨k + 1, .inr (by omega), by go_num, by unfold Seen; rw [HN.out]; exact ⟨rfl, rfl⟩, H4.out⟩
                  case measure => simp [intOf]; omega
          · have hkm : k = m - 1 := by omega
            have HKM := Lib.hid hkm
            clear hkm
            go_wp2_with fail
            go_meet
            exact ⟨by rw [← HKM.out]; exact HS.out, H3.out⟩
      case rest =>
        obtain ⟨hseen, hM⟩ := hcut
        obtain ⟨w4, rfl⟩ : ∃ w4 : World, w4 = wc := ⟨_, rfl⟩
        obtain ⟨bt, hbt⟩ : ∃ b, b = bestOf (hget S K V) cur := ⟨_, rfl⟩
        have hb0 : bestTo (hget S K V) cur (m - 1) = bt := by rw [hbt, HMC.out]; rfl
        unfold Seen at hseen
        rw [hb0] at hseen
        have H4 := Lib.hid hM
        have HBT := Lib.hid hbt
        clear hM hb0 H HO
        cases bt with
        | none =>
          obtain ⟨rfl, rfl⟩ := hseen
          have hr : R = some cur := by rw [HR0.out, ← HVAL.out, mergeF_none HBT.out.symm]
          subst hr
          have ho := H4.out.own
          rw [← HMC.out] at ho
          have HO4 := Lib.hid ho
          clear ho hbt
          go_wp2_with fail
          go_returns
          refine ⟨by rw [← HB.out]; exact H4.out.bel, A, cp, by rw [← HMC.out]; first | rfl | simp, ?_⟩
          rw [← HMC.out]
          exact ⟨own_ints HO4.out, own_nilA HO4.out⟩
        | some bb =>
          obtain ⟨a, r, x⟩ := bb
          obtain ⟨rfl, rfl⟩ := hseen
          have hat := bestOf_at HBT.out.symm
          have hrx := hget_bd HV.out hat.2
          have hal : a + 1 < m := by have := HMC.out; omega
          have hms := mergeF_some (signs := signs) HBT.out.symm
          have hm1 : (r * 4294967296 + x).tmod 4294967296 = x := by rw [Int.tmod_eq_emod_of_nonneg (by omega)]; omega
          have hm2 : IntKind.u64.wrap x = x := wrap_u64_in _ (by omega) (by omega)
          have hm3 : wrap64 x = x := IntWalk.wrap64_in x ⟨by omega, by omega⟩
          have ha0 : decide ((a : Int) < 0) = false := by simp
          by_cases hsx : signs ≤ x
          · have d1 : decide (signs ≤ x) = true := by simpa using hsx
            have hr : R = none := by rw [HR0.out, ← HVAL.out, hms, if_pos hsx]
            subst hr
            clear hat hrx hms hbt
            go_wp2_with fail
            go_returns
            exact ⟨by rw [← HB.out]; exact H4.out.bel, rfl⟩
          · have d1 : decide (signs ≤ x) = false := by simpa using hsx
            rw [if_neg hsx] at hms
            have hall := builtM_all cur a x (by have := HMC.out; omega)
            rw [← HMC.out] at hall
            have hlen := length_mergeAt (x := x) hat.1
            have hrg := mergeAt_range HPC.out (a := a) hrx.2.2.1 (by omega : x < signs)
            have HMS := Lib.hid (And.intro hms (And.intro hall (And.intro hlen hrg)))
            have HRX := Lib.hid (And.intro hat hrx)
            clear hat hrx hms hbt hall hlen hrg
            have hB4 := H4.out.hb.lt
            have hown0 : (w4.alloc (.cells #[] 3)).ownsRow w4.heap.size 3 1 (.slice (some ⟨w4.heap.size, 0, none⟩) 0 0) 0 (numsV .i64 (builtM cur a x 0)) := World.ownsRow_made (base := w4.heap.size) (size := 1) (e := 3) w4 #[] 0 (Nat.le_refl _) (by simp [maxLen]) rfl
            have HOWN0 := Lib.hid hown0
            clear hown0
            go_upto_block 6 with (fail)
            rw [hm3]
            go_cut [17, 18, 19] from 87 to 110 (fun v _x _y wx => ∃ mm, mm = (mergeAt cur a x).length ∧ wx.ownsRow w4.heap.size 3 1 v mm (numsV .i64 (mergeAt cur a x)) ∧ Below w4.heap.size w4 wx)
            case first =>
              go_wp2_with fail
              go_loopw [17, 90] (fun v i wq => ∃ (k t : Nat), k ≤ m ∧ i = .int .i64 k ∧ t = (builtM cur a x k).length ∧ wq.ownsRow w4.heap.size 3 1 v t (numsV .i64 (builtM cur a x k)) ∧ Below w4.heap.size w4 wq) (fun _ i _ => m - (intOf i).toNat)
              case atStart => exact ⟨0, 0, by omega, rfl, rfl, HOWN0.out, (Below.refl _ _).alloc (Nat.le_refl _) _⟩
              case round =>
                obtain ⟨k, t, hk, rfl, ht, hown, hbel⟩ := hrel
                have HOW := Lib.hid hown
                have HBE := Lib.hid hbel
                have HT := Lib.hid ht
                have htk : t ≤ k := by rw [ht]; exact length_builtM _ _ _ _
                have hsz := hbel.size
                clear hbel ht
                by_cases hlt : k < m
                · have ho3 := (H4.out.go HBE.out).own
                  rw [← HMC.out] at ho3
                  obtain ⟨g, cap, hfo, _⟩ := ho3.form (by omega)
                  injection hfo with hfo1 hfo2 hfo3
                  subst hfo1
                  have hcx := ho3.cellAt k (by omega)
                  rw [show (numsV .i64 cur)[k]? = some (.int .i64 (cur.getD k 0)) by simp [numsV, show k < cur.length by have := HMC.out; omega]] at hcx
                  obtain ⟨y, hy⟩ : ∃ y, y = cur.getD k 0 := ⟨_, rfl⟩
                  rw [← hy] at hcx
                  have HY := Lib.hid hy
                  obtain ⟨A9, cp9, rfl⟩ := own_sl hown
                  clear hfo2 hfo3 cap ho3 hy hown
                  by_cases hka : k = a
                  · have d2 : ((k : Int) == (a : Int)) = true := by simp; omega
                    have HKA := Lib.hid hka
                    clear hka
                    go_wp2_with (first
                      | (at_builtin; refine wpList_app1 w4 _ rfl (.tmp 98) (.tmp 100) 26 rfl w4.heap.size 3 i3 _ 8 Try.underlying26 hi3 hz3 hsz3 hbt3 rfl _ t (numsV .i64 (builtM cur a x k)) rfl (HOW.out.alloc _) (HBE.out.alloc hsz _) (.int .i64 x) _ rfl (by go_simp) rfl (by omega) (by unfold maxLen; omega) (by have := hsz; simp; omega) ?_; intro v1 w11 hown1 hb1 hg1))
                    go_roundw
                    case rel => exact ⟨k + 1, t + 1, by omega, by go_num, by rw [builtM_succ, if_pos HKA.out, List.length_append, ← HT.out]; rfl, by rw [builtM_succ, if_pos HKA.out, numsV_snoc]; exact hown1, hb1⟩
                    case measure => simp [intOf]; omega
                  · have d2 : ((k : Int) == (a : Int)) = false := by simp; omega
                    by_cases hka1 : k = a + 1
                    · have d3 : ((k : Int) != (a : Int) + 1) = false := by simp; omega
                      have HK := Lib.hid (And.intro hka hka1)
                      clear hka hka1
                      go_wp2_with fail
                      go_roundw
                      case rel => exact ⟨k + 1, t, by omega, by go_num, by rw [builtM_succ, if_neg HK.out.1, if_pos HK.out.2, List.append_nil]; exact HT.out, by rw [builtM_succ, if_neg HK.out.1, if_pos HK.out.2, List.append_nil]; exact HOW.out, HBE.out⟩
                      case measure => simp [intOf]; omega
                    · have d3 : ((k : Int) != (a : Int) + 1) = true := by simp; omega
                      go_wp2_with (first
                        | (at_builtin; refine wpList_app1 w4 _ rfl (.tmp 106) (.tmp 108) 26 rfl w4.heap.size 3 i3 _ 8 Try.underlying26 hi3 hz3 hsz3 hbt3 rfl _ t (numsV .i64 (builtM cur a x k)) rfl (HOW.out.alloc _) (HBE.out.alloc hsz _) (.int .i64 y) _ rfl (by go_simp) rfl (by omega) (by unfold maxLen; omega) (by have := hsz; simp; omega) ?_; intro v1 w11 hown1 hb1 hg1))
                      go_roundw
                      case rel => exact ⟨k + 1, t + 1, by omega, by go_num, by rw [builtM_succ, if_neg hka, if_neg hka1, List.length_append, ← HT.out]; rfl, by rw [builtM_succ, if_neg hka, if_neg hka1, numsV_snoc, ← HY.out]; exact hown1, hb1⟩
                      case measure => simp [intOf]; omega
                · obtain rfl : m = k := by omega
                  rw [HMS.out.2.1] at HOW HT
                  clear hown
                  go_wp2_with fail
                  go_meet
                  exact ⟨t, HT.out, HOW.out, HBE.out⟩
            case rest =>
              obtain ⟨mm, hmm, hown, hbel⟩ := hcut
              have HOW := Lib.hid hown
              have HBE := Lib.hid hbel
              have HMM := Lib.hid hmm
              obtain ⟨A9, cp9, rfl⟩ := own_sl hown
              clear hown hbel hmm
              go_wp2_with fail
              go_roundw
              case rel =>
                refine ⟨mergeAt cur a x, H4.out.row (HBE.out.mono (by omega)) ?_, HMS.out.2.2.2, by have := HMS.out.2.2.1; have := HMC.out; omega, by rw [← HMS.out.1]; exact HVAL.out⟩
                rw [← HMM.out]
                exact own_up HOW.out (by omega)
              case measure =>
                have := HMS.out.2.2.1
                have := HMC.out
                simp [lenOf2, HMM.out]
                omega
end Go.Proofs.Ytgejpggbmgiocaa
